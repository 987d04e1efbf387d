/- slices.Sort, slices.Compact of ints. Conditions: each contract's own premises. -/
import Derived.Test.YtonilojjahfboaaGreatGrA
import Derived.Test.YtonilojjahfboaaGreatLkI4
namespace Go.Proofs.YtonilojjahfboaaGreat
open Go.RowKit Go.Maps Go.Sort Go.Shelf

theorem sortI_any {w : World} {B : Nat} {v : Value} {l : List Int} (h : kI.Own w B v l) (hl : l.length ≤ 1000000) :
    Calls Tryz.prog 118 #[v] w fun e w' => e = .returned (.tuple #[]) ∧ kI.Own w' B v (sortI l) ∧ Below B w w' := by
  have hlen : (sortI l).length = l.length := (sortI_perm l).length_eq
  rcases h.2 with ⟨rfl, h0⟩ | ⟨g, cap, cur, rfl, hB, _⟩
  · have e : l = [] := List.eq_nil_of_length_eq_zero h0
    subst e
    refine (Any.slices_Sort_int_none laySI none 0 w).mono ?_
    rintro e w' ⟨he, rfl⟩
    have e2 : sortI [] = [] := List.mergeSort_nil
    rw [e2]
    exact ⟨he, h, Below.refl _ _⟩
  · obtain ⟨hH, hg⟩ := ownI_holds h
    refine (Any.slices_Sort_int laySI g 0 cap l w hH hg (by omega)).mono ?_
    rintro e w' ⟨he, q, os, hw⟩
    obtain ⟨o1, o2⟩ := own_putI (q := q) (os := os) h (d := sortI l) (Nat.le_of_eq hlen) l.length (Nat.le_of_eq hlen.symm)
    rw [List.take_of_length_le (Nat.le_of_eq hlen)] at o1
    rw [hw]
    exact ⟨he, o1, o2⟩
theorem compactUp_len (d : Array Int) : ∀ m, (Lib.compactUpTo d m).length ≤ m
  | 0 => by simp [Lib.compactUpTo]
  | m + 1 => by
    rw [Lib.compactUpTo_succ, List.length_append]
    have := compactUp_len d m
    split <;> simp <;> omega
theorem compact_len (l : List Int) : (Lib.compact l).length ≤ l.length := compactUp_len _ _
theorem compactUp_inc (d : Array Int) (hs : ∀ i j : Nat, i ≤ j → j < d.size → d[i]! ≤ d[j]!) : ∀ m, m ≤ d.size → IncI (Lib.compactUpTo d m) ∧ (∀ x, x ∈ Lib.compactUpTo d m ↔ ∃ i, i < m ∧ d[i]! = x)
  | 0, _ => by
    constructor
    · simp [Lib.compactUpTo, IncI]
    · intro x
      simp [Lib.compactUpTo]
  | m + 1, hm => by
    obtain ⟨h1, h2⟩ := compactUp_inc d hs m (by omega)
    rw [Lib.compactUpTo_succ]
    by_cases hk : Lib.keeps d m = true
    · rw [if_pos hk]
      refine ⟨List.pairwise_append.2 ⟨h1, List.pairwise_singleton _ _, fun a ha b hb => ?_⟩, fun x => ?_⟩
      · obtain rfl : b = d[m]! := by simpa using hb
        obtain ⟨i, hi, rfl⟩ := (h2 a).1 ha
        have e1 := hs i (m - 1) (by omega) (by omega)
        have e2 := hs (m - 1) m (by omega) (by omega)
        have e3 : d[m]! ≠ d[m - 1]! := fun e => by
          have := Lib.keeps_neg (by omega) e
          rw [hk] at this; cases this
        omega
      · rw [List.mem_append, List.mem_singleton, h2]
        constructor
        · rintro (⟨i, hi, e⟩ | e)
          · exact ⟨i, by omega, e⟩
          · exact ⟨m, by omega, e.symm⟩
        · rintro ⟨i, hi, e⟩
          by_cases e2 : i = m
          · subst e2; exact .inr e.symm
          · exact .inl ⟨i, by omega, e⟩
    · rw [if_neg hk, List.append_nil]
      refine ⟨h1, fun x => ?_⟩
      rw [h2]
      constructor
      · rintro ⟨i, hi, e⟩
        exact ⟨i, by omega, e⟩
      · rintro ⟨i, hi, e⟩
        by_cases e2 : i = m
        · subst e2
          have hi0 : i ≠ 0 := fun e => by subst e; exact hk (Lib.keeps_lt_one d 0 (by omega))
          have e3 : d[i]! = d[i - 1]! := Classical.byContradiction fun hn => hk (Lib.keeps_pos hn)
          exact ⟨i - 1, by omega, by rw [← e3]; exact e⟩
        · exact ⟨i, by omega, e⟩
/-- a list that rises, each but once -/
def setI (l : List Int) : List Int := Lib.compact (sortI l)
theorem setI_spec (l : List Int) : IncI (setI l) ∧ ∀ x, x ∈ setI l ↔ x ∈ l := by
  have hle := sortI_le l
  have hs : ∀ i j : Nat, i ≤ j → j < (sortI l).toArray.size → (sortI l).toArray[i]! ≤ (sortI l).toArray[j]! := fun i j hij hj => by
    simp only [List.size_toArray] at hj
    rw [getElem!_pos _ i (by simp; omega), getElem!_pos _ j (by simpa using hj)]
    simp only [List.getElem_toArray]
    rcases Nat.lt_or_ge i j with h | h
    · exact List.pairwise_iff_getElem.1 hle i j (by omega) hj h
    · obtain rfl : i = j := by omega
      exact Int.le_refl _
  obtain ⟨h1, h2⟩ := compactUp_inc (sortI l).toArray hs (sortI l).length (by simp)
  refine ⟨h1, fun x => ?_⟩
  show x ∈ Lib.compactUpTo (sortI l).toArray (sortI l).length ↔ _
  rw [h2, ← (sortI_perm l).mem_iff]
  constructor
  · rintro ⟨i, hi, e⟩
    rw [getElem!_pos _ i (by simpa using hi)] at e
    rw [← e]
    simp
  · intro hx
    obtain ⟨i, hi⟩ := List.getElem?_of_mem hx
    obtain ⟨hl, e⟩ := List.getElem?_eq_some_iff.1 hi
    exact ⟨i, hl, by rw [getElem!_pos _ i (by simpa using hl)]; simpa using e⟩
theorem compactI_any {w : World} {B : Nat} {v : Value} {l : List Int} (h : kI.Own w B v l) (hl : l.length ≤ 1000000) :
    Calls Tryz.prog 119 #[v] w fun e w' => ∃ v', e = .returned v' ∧ kI.Own w' B v' (Lib.compact l) ∧ Below B w w' := by
  rcases h.2 with ⟨rfl, h0⟩ | ⟨g, cap, cur, rfl, hB, _⟩
  · have e : l = [] := List.eq_nil_of_length_eq_zero h0
    subst e
    refine (Any.slices_Compact_int_empty layCI none 0 w).mono ?_
    rintro e w' ⟨he, rfl⟩
    exact ⟨_, he, h, Below.refl _ _⟩
  · obtain ⟨hH, hg⟩ := ownI_holds h
    obtain ⟨_, _, _, hc, _, _, _, _⟩ := ownI_blk h
    refine (Any.slices_Compact_int layCI g 0 cap l w hH (by omega) hc).mono ?_
    rintro e w' ⟨he, q, hw⟩
    have hcl := compact_len l
    obtain ⟨o1, o2⟩ := own_putI (q := q) (os := #[]) h (d := Lib.compact l ++ List.replicate (l.length - (Lib.compact l).length) 0) (by simp; omega) (Lib.compact l).length (by simp)
    rw [grow_empty, List.take_left] at o1
    rw [grow_empty] at o2
    rw [hw]
    exact ⟨_, he, o1, o2⟩
end Go.Proofs.YtonilojjahfboaaGreat
