/- Reference 10: Ints. Conditions: the contract's own premises. -/
import Derived.Test.YtonilojjahfboaaGreatGrA
import Derived.BigQuiet
namespace Go.Proofs.YtonilojjahfboaaGreat
open Go.RowKit Go.Maps

set_option maxRecDepth 100000 in
set_option maxHeartbeats 2000000 in
theorem ints10_any (a b : Option Addr) (ac bc : Nat) (l m : List Int) (w : World) (hv : kI.V w a l) (hm : kI.V w b m) (hl : l.length ≤ 4000000) :
    Calls Tryz.prog 44 #[.slice a l.length ac, .slice b m.length bc] w fun e w' => e = .returned (.bool (decide (l = m))) ∧ Below w.heap.size w w' := by
  obtain ⟨n, hn⟩ : ∃ n, n = l.length := ⟨_, rfl⟩
  obtain ⟨k, hk⟩ : ∃ k, k = m.length := ⟨_, rfl⟩
  have HN : Hid (n = l.length ∧ n ≤ 4000000) := Lib.hid ⟨hn, by omega⟩
  have HK := Lib.hid hk
  rw [← hn, ← hk]
  have HV := Lib.hid hv
  have HM := Lib.hid hm
  have NO : Hid (∀ h : l ≠ m, decide (l = m) = false) := Lib.hid (fun h => decide_eq_false h)
  clear hn hk hv hm hl
  by_cases hnk : n = k
  case neg =>
    have t1 : ((n : Int) != (k : Int)) = true := by simp; omega
    have HF := Lib.hid (NO.out (fun e => hnk (by rw [HN.out.1, HK.out, e])))
    clear hnk
    go_enter Tryz.func44, Tryz.ntmps44
    go_wp2_with fail
    go_ret
    exact ⟨by rw [HF.out]; rfl, Below.refl _ _⟩
  case pos =>
  subst hnk
  go_enter Tryz.func44, Tryz.ntmps44
  go_wp2_with fail
  go_loopw [5] (fun i wr => ∃ j : Nat, i = .int .i64 (j : Int) ∧ j ≤ n ∧ Hid (∀ j' : Nat, j' < j → l[j']? = m[j']?) ∧ Hid (Below w.heap.size w wr)) (fun i _ => n - (intOf i).toNat)
  case atStart => exact ⟨0, rfl, Nat.zero_le _, Lib.hid (fun _ h => absurd h (Nat.not_lt_zero _)), Lib.hid (Below.refl _ _)⟩
  case round =>
    obtain ⟨j, rfl, hj, HE, HB⟩ := hrel
    have hn6 := HN.out.2
    by_cases hlt : j < n
    · obtain ⟨x, hx⟩ : ∃ x, l[j]? = some x := ⟨_, List.getElem?_eq_getElem (by have := HN.out.1; omega)⟩
      obtain ⟨y, hy⟩ : ∃ y, m[j]? = some y := ⟨_, List.getElem?_eq_getElem (by have := HK.out; omega)⟩
      obtain ⟨b1, o1, rfl, hat1⟩ := HV.out.below HB.out (fun e => by rw [e] at hx; simp at hx)
      obtain ⟨b2, o2, rfl, hat2⟩ := HM.out.below HB.out (fun e => by rw [e] at hy; simp at hy)
      have c1 := hat1.cells j x hx 0 _ rfl
      have c2 := hat2.cells j y hy 0 _ rfl
      simp [kI] at c1 c2
      have hl1 := hat1.lt
      have hl2 := hat2.lt
      have HX := Lib.hid hx
      have HY := Lib.hid hy
      clear hx hy hat1 hat2
      by_cases he : x = y
      · subst he
        go_wp2_with fail
        go_quiet (fail)
        go_wp2_with fail
        refine ⟨⟨j + 1, by simp, hlt, Lib.hid (fun j' hj' => ?_), Lib.hid (below_drewN HB.out _)⟩, by simp [intOf]; omega⟩
        by_cases e : j' < j
        · exact HE.out j' e
        · obtain rfl : j' = j := by omega
          rw [HX.out, HY.out]
      · have t3 : (x != y) = true := by simpa using he
        have HF := Lib.hid (NO.out (fun e => he (by have h1 := HX.out; rw [e, HY.out] at h1; injection h1 with h1; exact h1.symm)))
        clear he
        go_wp2_with fail
        go_quiet (fail)
        go_wp2_with fail
        go_ret
        exact ⟨by rw [HF.out]; rfl, below_drewN HB.out _⟩
    · have HF : Hid (decide (l = m) = true) := Lib.hid (decide_eq_true (List.ext_getElem? fun i => by
        by_cases h : i < n
        · exact HE.out i (by omega)
        · rw [List.getElem?_eq_none (by have := HN.out.1; omega), List.getElem?_eq_none (by have := HK.out; omega)]))
      go_wp2_with fail
      go_ret
      exact ⟨by rw [HF.out]; rfl, HB.out⟩
end Go.Proofs.YtonilojjahfboaaGreat
