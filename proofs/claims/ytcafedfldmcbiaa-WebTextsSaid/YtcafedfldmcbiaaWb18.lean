/- value.Take, cobwebref02.Take. Conditions: each contract's own premises. -/
import Derived.Test.YtcafedfldmcbiaaWb17
namespace Go.Proofs.Ytcafedfldmcbiaa
open Go.RowKit Go.Maps

theorem u64_or_byte (a b : Nat) (ha : a < 72057594037927936) (hb : b < 256) : bits .or .u64 ((a : Int) * 256) (b : Int) = (a : Int) * 256 + b := by
  have e : ((a : Int) * 256) = ((a * 256 : Nat) : Int) := by simp
  have e2 : a * 256 ||| b = a * 256 + b := by
    have := Nat.two_pow_add_eq_or_of_lt (i := 8) (b := b) (by omega) a
    rw [show 2 ^ 8 * a = a * 256 by omega] at this
    exact this.symm
  rw [e]
  show IntKind.u64.wrap ((BitVec.ofInt 64 ((a * 256 : Nat) : Int) ||| BitVec.ofInt 64 (b : Int)).toNat : Int) = _
  rw [BitVec.toNat_or, ofInt_u64 (a * 256) (by omega), ofInt_u64 b (by omega), e2]
  simp [IntKind.wrap, IntKind.bits, IntKind.signed]
  omega
theorem u64_back (u : Nat) (h : u < 18446744073709551616) : IntKind.i64.wrap (bits .xor .u64 (u : Int) 9223372036854775808) = (u : Int) - 9223372036854775808 := by
  have := u64_xor_nat u 9223372036854775808 (by omega) (by decide)
  rw [show ((9223372036854775808 : Nat) : Int) = 9223372036854775808 from rfl] at this
  rw [this]
  by_cases hn : u < 9223372036854775808
  · rw [xor_top hn]
    simp [IntKind.wrap, IntKind.bits, IntKind.signed]; omega
  · obtain ⟨r, rfl⟩ : ∃ r, u = r + 9223372036854775808 := ⟨u - 9223372036854775808, by omega⟩
    rw [← xor_top (show r < 9223372036854775808 by omega), Nat.xor_assoc, Nat.xor_self, Nat.xor_zero]
    simp [IntKind.wrap, IntKind.bits, IntKind.signed]; rw [xor_top (by omega)]; omega
theorem tkV_nil : tkV [] = none := rfl
theorem tkV_kind {b : UInt8} {r : List UInt8} (h : b ≠ 2) (h1 : b ≠ 1) : tkV (b :: r) = none := by simp [tkV, h, h1]
theorem tkV_short {r : List UInt8} (h : r.length < 8) : tkV (1 :: r) = none := by simp [tkV, h]
theorem tkV_num {r : List UInt8} (h : ¬ r.length < 8) : tkV (1 :: r) = some (⟨1, (numL (r.take 8) : Int) - 9223372036854775808, ⟨#[]⟩⟩, 9) := by simp [tkV, h]
theorem tkV_text (r : List UInt8) : tkV (2 :: r) = (tkT r [] 1).map (fun x => (⟨2, 0, ⟨x.1.toArray⟩⟩, x.2)) := by simp [tkV]
theorem numL_small {l : List UInt8} {k : Nat} (hk : k ≤ l.length) (h7 : k ≤ 7) : numL (l.take k) < 72057594037927936 :=
  Nat.lt_of_lt_of_le (numL_take l k hk) (Nat.le_trans (Nat.pow_le_pow_right (by omega) h7) (by decide))

set_option maxRecDepth 100000 in
set_option maxHeartbeats 2000000 in
theorem vtake_any (b off cap : Nat) (l : List UInt8) (w : World) (h : BsAt w b off l) (hl : l.length ≤ 1000000) (hcap : l.length ≤ cap) :
    Calls Try.prog 64 #[.slice (some ⟨b, off, none⟩) l.length cap] w (TkPost w (tkV l)) := by
  have hlw := h.lt
  obtain ⟨R, hR⟩ : ∃ R, R = tkV l := ⟨_, rfl⟩
  rw [← hR]
  have HR := Lib.hid hR
  clear hR
  have HH := Lib.hid h
  have hBW := below_box w (.cells #[.int .i64 0, .int .i64 0, .string ⟨#[]⟩] 42)
  have HEW := Lib.hid (heap_new w (.cells #[.int .i64 0, .int .i64 0, .string ⟨#[]⟩] 42))
  match l, h with
  | [], h =>
    clear h
    go_enter Try.func64, Try.ntmps64
    go_wp2_with fail
    exact tk_retA w _ _ _ ⟨0, 0, ⟨#[]⟩⟩ 0 20 Try.results64 rfl rfl rfl rfl (.inr ⟨by decide, HR.out⟩)
  | x :: r, h =>
    have q0 := h.cells 0 x rfl
    unfold bv at q0
    rw [Nat.add_zero] at q0
    simp at hl
    by_cases h2 : x = 2
    · subst h2
      clear h
      have hlr : r.length ≤ 1000000 := by omega
      have VT := Lib.hid (vtext_any b off cap r _ (HH.out.below hBW) hlr)
      go_enter Try.func64, Try.ntmps64
      go_wp2_with fail
      refine (VT.out).mono ?_
      rintro e w1 ⟨hb1, v, n, k, rfl, hk⟩
      have eB := (hb1.block w.heap.size (by simp)).trans HEW.out
      have f0 := frozen_of_blk eB 0
      have f1 := frozen_of_blk eB 1
      have f2 := frozen_of_blk eB 2
      have c0 := cell_of_blk eB 0
      have c1 := cell_of_blk eB 1
      have c2 := cell_of_blk eB 2
      simp at c0 c1 c2
      have hlr : w.heap.size < w1.heap.size := (Array.getElem?_eq_some_iff.1 eB).1
      have HB := Lib.hid eB
      have HK := Lib.hid hk
      clear eB hk
      go_wp2_with fail
      exact tk_ret HB.out (below_then hBW hb1) _ _ _ v n k Try.results64 rfl rfl rfl rfl (by rw [HR.out, tkV_text]; exact HK.out)
    · have n2 : ((x.toNat : Int) == 2) = false := u8_ne (b := 2) h2
      by_cases h1 : x = 1
      · subst h1
        simp at q0
        by_cases hs : r.length < 8
        · have HN : Hid (R = none) := Lib.hid (by rw [HR.out, tkV_short hs])
          clear h2 h
          go_enter Try.func64, Try.ntmps64
          go_wp2_with fail
          exact tk_retA w _ _ _ ⟨0, 0, ⟨#[]⟩⟩ 0 20 Try.results64 rfl rfl rfl rfl (.inr ⟨by decide, HN.out⟩)
        · have HN : Hid (R = some (⟨1, (numL (r.take 8) : Int) - 9223372036854775808, ⟨#[]⟩⟩, 9)) := Lib.hid (by rw [HR.out, tkV_num hs])
          have h8 : 8 ≤ r.length := by omega
          simp at hcap
          clear h2 h hs
          go_enter Try.func64, Try.ntmps64
          go_wp2_with fail
          go_loop [5, 37] (fun n i => ∃ k : Nat, k ≤ 8 ∧ i = .int .i64 k ∧ n = .int .u64 (numL (r.take k) : Nat)) (fun _ i => 8 - (intOf i).toNat)
          case atStart => exact ⟨0, by omega, rfl, rfl⟩
          case round =>
            obtain ⟨k, hk, rfl, rfl⟩ := hrel
            by_cases hlt : k < 8
            · have hlk : k < r.length := by omega
              have c1 := HH.out.cells (k + 1) r[k] (by simp [hlk])
              unfold bv at c1
              rw [show off + (k + 1) = off + 1 + k by omega] at c1
              have hs := Lib.hid (numL_snoc hlk)
              have hn2 := numL_small (l := r) (k := k) (by omega) (by omega)
              obtain ⟨y, hy⟩ : ∃ y, (r[k]).toNat = y := ⟨_, rfl⟩
              have hy2 : y < 256 := by rw [← hy]; exact (r[k]).toNat_lt
              rw [hy] at c1 hs
              obtain ⟨m, hm'⟩ : ∃ m, numL (r.take k) = m := ⟨_, rfl⟩
              rw [hm'] at hs hn2 ⊢
              have hor := u64_or_byte m y hn2 hy2
              clear hy hm'
              go_wp2
              go_round
              case rel => exact ⟨k + 1, by omega, by go_num, by rw [hs.out]; simp⟩
              case measure => simp [intOf]; omega
            · obtain rfl : k = 8 := by omega
              have hn8 : numL (r.take 8) < 18446744073709551616 := Nat.lt_of_lt_of_le (numL_take r 8 h8) (by decide)
              obtain ⟨m, hm'⟩ : ∃ m, numL (r.take 8) = m := ⟨_, rfl⟩
              rw [hm'] at hn8 HN ⊢
              have hb := u64_back m hn8
              clear hm'
              go_wp2
              exact tk_retA w _ _ _ ⟨1, (m : Int) - 9223372036854775808, ⟨#[]⟩⟩ 9 0 Try.results64 rfl rfl rfl rfl (.inl ⟨rfl, HN.out⟩)
      · have n1 : ((x.toNat : Int) == 1) = false := u8_ne (b := 1) h1
        have HN : Hid (R = none) := Lib.hid (by rw [HR.out, tkV_kind h2 h1])
        clear h2 h1 h
        go_enter Try.func64, Try.ntmps64
        go_wp2_with fail
        exact tk_retA w _ _ _ ⟨0, 0, ⟨#[]⟩⟩ 0 22 Try.results64 rfl rfl rfl rfl (.inr ⟨by decide, HN.out⟩)
end Go.Proofs.Ytcafedfldmcbiaa
