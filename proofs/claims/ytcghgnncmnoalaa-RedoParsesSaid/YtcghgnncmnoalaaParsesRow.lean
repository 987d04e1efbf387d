/- RedoParses, of any arguments. Conditions: none. -/
import Derived.Test.YtcghgnncmnoalaaRd17
import Derived.Test.YtcghgnncmnoalaaAw
import Derived.Test.YtcghgnncmnoalaaRdMem
namespace Go.Proofs.Ytcghgnncmnoalaa
open Go.RowKit Go.Maps

set_option maxRecDepth 100000 in
theorem block_in {w : World} {cs : List Value} (h : Mem Try.prog w 43 cs) : ∃ (k : UInt8) (a : Option Addr) (l : List UInt8) (cap : Nat), cs = [bv k, .slice a l.length cap] ∧ l.length ≤ cap ∧ cap ≤ maxLen ∧ BsV w a l := by
  obtain ⟨hl, hf⟩ := h.struct Try.underlying43
  have e2 : Try.prog.cellsOf 43 = 2 := by kernel_rfl
  have e1 : Try.prog.cellsOf 5 = 1 := by kernel_rfl
  have e3 : Try.prog.cellsOf 22 = 1 := by kernel_rfl
  rw [e2] at hl
  obtain ⟨i, hi, wi⟩ := (hf 0 _ rfl).int Try.underlying5
  obtain ⟨a, l, cap, ea, h1, h2, hv⟩ := bytes_in (hf 1 _ rfl)
  obtain ⟨p, q, rfl⟩ : ∃ p q, cs = [p, q] := by
    match cs, hl with
    | [p, q], _ => exact ⟨p, q, rfl⟩
  simp [e1, e3] at hi ea
  subst hi ea
  have hb : (0 : Int) ≤ i ∧ i ≤ 255 := by
    simp [Lit.wf] at wi
    exact ⟨wi.1, wi.2⟩
  obtain ⟨m, rfl⟩ := Int.eq_ofNat_of_zero_le hb.1
  refine ⟨UInt8.ofNat m, a, l, cap, ?_, h1, h2, hv⟩
  have e : (UInt8.ofNat m).toNat = m := by simp; omega
  show [Value.int .u8 (m : Int), _] = [.int .u8 ((UInt8.ofNat m).toNat : Int), _]
  rw [e]
theorem parses_any (st : Nat) (a : Option Addr) (cap : Nat) (ws : List Wr) (ep : Int) (k : UInt8) (xa : Option Addr) (xcap : Nat) (xl : List UInt8) (w : World)
    (h : WsV w a ws) (hs : st < 18446744073709551616) (hl : ws.length ≤ maxLen) (hx : BsV w xa xl) (hxc : xl.length ≤ xcap) (hxm : xcap ≤ maxLen) :
    Calls Try.prog 6 #[.agg #[.int .u64 st, .slice a ws.length cap], .int .i64 ep, .agg #[bv k, .slice xa xl.length xcap]] w fun e w' => e = .returned (.bool true) ∧ Below w.heap.size w w' :=
  parses_law awake14_any st a cap ws ep k xa xcap xl w h hs hl hx (by omega) hxc (by
    by_cases hn : xl = []
    · exact .inl hn
    · obtain ⟨b, off, e, hat⟩ := hx hn
      exact .inr ⟨b, off, e, hat.lt⟩)
end Go.Proofs.Ytcghgnncmnoalaa
