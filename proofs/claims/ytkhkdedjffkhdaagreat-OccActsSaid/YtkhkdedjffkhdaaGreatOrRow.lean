/- Layer 20: acts of an argument. Conditions: each lemma's own premises. -/
import Derived.Test.YtkhkdedjffkhdaaGreatOa12
import Derived.Test.YtkhkdedjffkhdaaGreatRdMem
set_option linter.unusedVariables false
set_option linter.unusedSimpArgs false
namespace Go.Proofs.YtkhkdedjffkhdaaGreat
open Go.RowKit Go.Maps Go.WideMaps

set_option maxRecDepth 100000 in
theorem acts20_at {w : World} {a : Option Addr} {n cap : Nat} (h : Mem Tryz.prog w 22 [.slice a n cap]) : n ≤ maxLen ∧ ∀ i, i < n → ActAt20 w a i := by
  obtain ⟨a', n', cap', e, h1, h2, h3⟩ := h.slice Tryz.underlying22 (of_decide_eq_true (by kernel_rfl))
  simp only [List.cons.injEq, Value.slice.injEq, and_true] at e
  obtain ⟨rfl, rfl, rfl⟩ := e
  refine ⟨by omega, fun i hi => ?_⟩
  obtain ⟨b, off, rfl, hb, hat⟩ := h3 (by omega)
  obtain ⟨es, hl, hc, hm⟩ := hat i hi
  have e3 : Tryz.prog.cellsOf 49 = 9 := by kernel_rfl
  rw [e3] at hl hc
  obtain ⟨_, hf⟩ := hm.struct Tryz.underlying49
  obtain ⟨x0, hx0, wx0⟩ := (hf 0 _ rfl).int Tryz.underlying3
  obtain ⟨x1, hx1, wx1⟩ := (hf 1 _ rfl).int Tryz.underlying3
  obtain ⟨k, hk, ek⟩ := key_in (hf 2 _ rfl)
  obtain ⟨s, hs, ws⟩ := (hf 3 _ rfl).string Tryz.underlying9
  obtain ⟨x4, hx4, wx4⟩ := (hf 4 _ rfl).int Tryz.underlying43
  obtain ⟨x5, hx5, wx5⟩ := (hf 5 _ rfl).int Tryz.underlying3
  obtain ⟨p0, p1, p2, p3, p4, p5, p6, p7, p8, rfl⟩ : ∃ p0 p1 p2 p3 p4 p5 p6 p7 p8, es = [p0, p1, p2, p3, p4, p5, p6, p7, p8] := by
    match es, hl with
    | [p0, p1, p2, p3, p4, p5, p6, p7, p8], _ => exact ⟨p0, p1, p2, p3, p4, p5, p6, p7, p8, rfl⟩
  have e1 : Tryz.prog.cellsOf 3 = 1 := by kernel_rfl
  have e4 : Tryz.prog.cellsOf 9 = 1 := by kernel_rfl
  have e5 : Tryz.prog.cellsOf 43 = 1 := by kernel_rfl
  have e6 : Tryz.prog.cellsOf 47 = 4 := by kernel_rfl
  simp [e1, e4, e5, e6] at hx0 hx1 ek hs hx4 hx5
  obtain ⟨rfl, rfl, rfl, rfl⟩ := ek
  subst hx0 hx1 hs hx4 hx5
  have hw : 0 ≤ x4 ∧ x4 < 18446744073709551616 := by
    simp [Lit.wf] at wx4
    have h1 := wx4.1
    have h2 := wx4.2
    have e8 : IntKind.u64.min = 0 := by first | rfl | decide
    have e9 : IntKind.u64.max = 18446744073709551615 := by first | rfl | decide
    omega
  obtain ⟨l, rfl⟩ : ∃ l : Nat, x4 = (l : Int) := Int.eq_ofNat_of_zero_le hw.1
  exact ⟨⟨x0, x1, k, s, l, x5⟩, b, off, rfl, hb, ⟨I64.of_wf wx0, I64.of_wf wx1, hk, ws, (show l < 18446744073709551616 by have := hw.2; omega), I64.of_wf wx5⟩, hc 0 (by omega), hc 1 (by omega), hc 2 (by omega), hc 3 (by omega), hc 4 (by omega), hc 5 (by omega), hc 6 (by omega), hc 7 (by omega), hc 8 (by omega)⟩
end Go.Proofs.YtkhkdedjffkhdaaGreat
