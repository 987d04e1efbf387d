/- Reference 10: Has. Conditions: the contract's own premises. -/
import Derived.Test.YtonilojjahfboaaGreatGrA
namespace Go.Proofs.YtonilojjahfboaaGreat
open Go.RowKit Go.Maps

set_option maxRecDepth 100000 in
set_option maxHeartbeats 2000000 in
theorem has10_any (a : Option Addr) (ac : Nat) (l : List Int) (n : Int) (w : World) (hv : kI.V w a l) (hl : l.length ≤ 4000000) :
    Calls Tryz.prog 61 #[.slice a l.length ac, .int .i64 n] w fun e w' => e = .returned (.bool (decide (n ∈ l))) ∧ w = w' := by
  obtain ⟨k, hk⟩ : ∃ k, k = l.length := ⟨_, rfl⟩
  have HK : Hid (k = l.length ∧ k ≤ 4000000) := Lib.hid ⟨hk, by omega⟩
  rw [← hk]
  have HV := Lib.hid hv
  have YES : Hid (∀ h : n ∈ l, decide (n ∈ l) = true) := Lib.hid (fun h => decide_eq_true h)
  have NO : Hid (∀ h : n ∉ l, decide (n ∈ l) = false) := Lib.hid (fun h => decide_eq_false h)
  clear hk hv hl
  obtain ⟨r, hr⟩ : ∃ r, r = decide (n ∈ l) := ⟨_, rfl⟩
  rw [← hr]
  have HR := Lib.hid hr
  clear hr
  go_enter Tryz.func61, Tryz.ntmps61
  go_wp2_with fail
  go_loopw [5] (fun i wr => ∃ j : Nat, i = .int .i64 (j : Int) ∧ j ≤ k ∧ w = wr ∧ Hid (∀ j' x, j' < j → l[j']? = some x → x ≠ n)) (fun i _ => k - (intOf i).toNat)
  case atStart => exact ⟨0, rfl, Nat.zero_le _, rfl, Lib.hid (fun _ _ h => absurd h (Nat.not_lt_zero _))⟩
  case round =>
    obtain ⟨j, rfl, hj, rfl, HN⟩ := hrel
    have hk6 := HK.out.2
    by_cases hlt : j < k
    · obtain ⟨x, hx⟩ : ∃ x, l[j]? = some x := ⟨_, List.getElem?_eq_getElem (by have := HK.out.1; omega)⟩
      obtain ⟨b1, o1, rfl, hat1⟩ := HV.out (fun e => by rw [e] at hx; simp at hx)
      have c1 := hat1.cells j x hx 0 _ rfl
      simp [kI] at c1
      have hl1 := hat1.lt
      have HX := Lib.hid hx
      clear hx hat1
      by_cases he : x = n
      · have t1 : (x == n) = true := by simpa using he
        have HF : Hid (r = true) := Lib.hid (by rw [HR.out]; exact YES.out (he ▸ List.mem_of_getElem? HX.out))
        go_wp2_with fail
        go_ret
        exact ⟨by rw [HF.out]; rfl, by trivial⟩
      · have t1 : (x == n) = false := by simpa using he
        have HE := Lib.hid he
        go_wp2_with fail
        refine ⟨⟨j + 1, by simp, hlt, by first | rfl | trivial, Lib.hid (fun j' y hj' hy => ?_)⟩, by simp [intOf]; omega⟩
        by_cases e : j' < j
        · exact HN.out j' y e hy
        · obtain rfl : j' = j := by omega
          rw [HX.out] at hy
          injection hy with hy
          subst hy
          exact HE.out
    · have HF : Hid (r = false) := Lib.hid (by
        rw [HR.out]
        refine NO.out fun h => ?_
        obtain ⟨i, hi, e⟩ := List.getElem_of_mem h
        exact HN.out i n (by have := HK.out.1; omega) (by rw [List.getElem?_eq_getElem hi, e]) rfl)
      go_wp2_with fail
      go_ret
      exact ⟨by rw [HF.out]; rfl, by trivial⟩
end Go.Proofs.YtonilojjahfboaaGreat
