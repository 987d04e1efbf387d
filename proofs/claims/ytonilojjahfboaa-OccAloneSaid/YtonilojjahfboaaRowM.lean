/- Rows of structs: where an element's cells lie. Conditions: each law's own premises. -/
import Derived.Test.YtonilojjahfboaaRowL
namespace Go.Proofs.Ytonilojjahfboaa
open Go.RowKit Go.Maps
/-- a list, some of it written -/
theorem splice_at {l vs : List Value} {r : Nat} (h : r + vs.length ≤ l.length) (i : Nat) : (l.take r ++ vs ++ l.drop (r + vs.length))[i]? = if r ≤ i ∧ i < r + vs.length then vs[i - r]? else l[i]? := by
  have hr : (l.take r).length = r := by rw [List.length_take]; omega
  by_cases h1 : i < r
  · rw [if_neg (by omega), List.append_assoc, List.getElem?_append_left (by omega), List.getElem?_take, if_pos h1]
  · by_cases h2 : i < r + vs.length
    · rw [if_pos ⟨by omega, h2⟩, List.append_assoc, List.getElem?_append_right (by omega), hr, List.getElem?_append_left (by omega)]
    · rw [if_neg (by omega), List.getElem?_append_right (by rw [List.length_append, hr]; omega), List.length_append, hr, List.getElem?_drop]
      congr 1
      omega
namespace RowK
variable {P : Program} {α : Type} {k : RowK P α} {w w' : World} {B : Nat} {v : Value} {l : List α}
theorem Own.blk {g cap n : Nat} (h : k.Own w B (.slice (some ⟨g, 0, none⟩) n cap) l) : ∃ cur, w.heap[g]? = some (.cells cur k.e (0, 0)) ∧ cur.size = cap * k.size ∧ l.length ≤ cap ∧ B ≤ g ∧ n = l.length := by
  rcases h.2 with ⟨h1, _⟩ | ⟨g', cp, cur, h1, hB, hg, hn, hm, hs, ht⟩
  · injection h1 with e1; cases e1
  · injection h1 with e1 e2 e3
    injection e1 with e1
    injection e1 with e1
    subst e1 e2 e3
    exact ⟨cur, hg, hs, hn, hB, rfl⟩
theorem Own.there {g cap n : Nat} (h : k.Own w B (.slice (some ⟨g, 0, none⟩) n cap) l) {i r m : Nat} (hi : i < l.length) (hr : r + m ≤ k.size) : w.there g (i * k.size + r) m := fun j hj => by
  obtain ⟨cur, hg, hs, hn, _, _⟩ := h.blk
  have h1 : (i + 1) * k.size ≤ cap * k.size := Nat.mul_le_mul_right _ (by omega)
  rw [Nat.succ_mul] at h1
  refine ⟨?_, frozen_of_blk hg _⟩
  rw [cell_of_blk hg, Array.getElem?_eq_getElem (by omega)]
  rfl
/-- what an own row's block is not -/
theorem Own.typed {g cap n : Nat} (h : k.Own w B (.slice (some ⟨g, 0, none⟩) n cap) l) {c : Array Value} {t : TypeId} {z : Nat × Nat} {b : Nat} (hb : w.heap[b]? = some (.cells c t z)) (ht : t ≠ k.e) : b ≠ g := fun e => by
  obtain ⟨cur, hg, _⟩ := h.blk
  rw [e, hg] at hb
  injection hb with hb
  injection hb with h1 h2 h3
  exact ht h2.symm
end RowK
end Go.Proofs.Ytonilojjahfboaa
