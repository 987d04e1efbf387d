/- slices.Sort, slices.Compact of ints. Conditions: each contract's own premises. -/
import Derived.Test.YtkbmipmegljidaaGreatGr6
import Derived.Test.YtkbmipmegljidaaGreatLkI4
namespace Go.Proofs.YtkbmipmegljidaaGreat
open Go.RowKit Go.Maps Go.Sort Go.Shelf

theorem sortI_any {w : World} {B : Nat} {v : Value} {l : List Int} (h : kI.Own w B v l) (hl : l.length ≤ 1000000) :
    Calls Tryz.prog 62 #[v] w fun e w' => e = .returned (.tuple #[]) ∧ kI.Own w' B v (sortI l) ∧ Below B w w' := by
  have hlen : (sortI l).length = l.length := (sortI_perm l).length_eq
  rcases h.2 with ⟨rfl, h0⟩ | ⟨g, cap, cur, rfl, hB, _⟩
  · have e : l = [] := List.eq_nil_of_length_eq_zero h0
    subst e
    refine (Any.slices_Sort_int_none laySI none 0 w).mono ?_
    rintro e w' ⟨he, rfl⟩
    have e2 : sortI [] = [] := List.mergeSort_nil
    rw [e2]
    exact ⟨he, h, Below.refl _ _⟩
  · obtain ⟨hH, hg⟩ := ownI_holds h
    refine (Any.slices_Sort_int laySI g 0 cap l w hH hg (by omega)).mono ?_
    rintro e w' ⟨he, q, os, hw⟩
    obtain ⟨o1, o2⟩ := own_putI (q := q) (os := os) h (d := sortI l) (Nat.le_of_eq hlen) l.length (Nat.le_of_eq hlen.symm)
    rw [List.take_of_length_le (Nat.le_of_eq hlen)] at o1
    rw [hw]
    exact ⟨he, o1, o2⟩
end Go.Proofs.YtkbmipmegljidaaGreat
