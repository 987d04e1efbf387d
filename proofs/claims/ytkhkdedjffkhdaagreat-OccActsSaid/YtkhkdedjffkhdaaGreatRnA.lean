/- Rows of structs: clear of what stands from a place on; the first place at which something is so. Conditions: each law's own premises. Rows of structs: a piece laid over an own row, copy, append of zero values where there is no room. Conditions: each law's own premises. -/
import Derived.Test.YtkhkdedjffkhdaaGreatRwX
import Derived.Lib.AppendZerosOnto
import Derived.Laws.NewBlocks
namespace Go.Proofs.YtkhkdedjffkhdaaGreat
open Go.RowKit Go.Maps

/-- the first one's place -/
def idxG {α : Type} (p : α → Bool) : List α → Int → Int
  | [], _ => -1
  | r :: l, i => if p r = true then i else idxG p l (i + 1)
theorem idxG_drop {α : Type} {p : α → Bool} {l : List α} {k : Nat} {x : α} (hx : l[k]? = some x) : idxG p (l.drop k) k = if p x = true then (k : Int) else idxG p (l.drop (k + 1)) (k + 1) := by
  obtain ⟨hk, rfl⟩ := List.getElem?_eq_some_iff.1 hx
  rw [List.drop_eq_getElem_cons hk]
  rfl
theorem idxG_cases {α : Type} (p : α → Bool) : ∀ (l : List α) (i : Nat), (idxG p l i = -1 ∧ ∀ x ∈ l, p x = false) ∨ (∃ (k : Nat) (x : α), idxG p l i = ((i + k : Nat) : Int) ∧ l[k]? = some x ∧ p x = true ∧ (∀ y ∈ l.take k, p y = false))
  | [], _ => .inl ⟨rfl, fun x hx => by simp at hx⟩
  | r :: l, i => by
    cases h : p r
    · rcases idxG_cases p l (i + 1) with ⟨h1, h2⟩ | ⟨k, x, h1, h2, h3, h4⟩
      · refine .inl ⟨?_, fun x hx => ?_⟩
        · unfold idxG; rw [if_neg (by rw [h]; decide)]; exact h1
        · rcases List.mem_cons.1 hx with rfl | hx
          · exact h
          · exact h2 x hx
      · refine .inr ⟨k + 1, x, ?_, by simpa using h2, h3, fun y hy => ?_⟩
        · unfold idxG; rw [if_neg (by rw [h]; decide)]
          have : ((i : Int) + 1) = ((i + 1 : Nat) : Int) := by omega
          rw [this, h1]; congr 1; omega
        · rw [List.take_succ_cons] at hy
          rcases List.mem_cons.1 hy with rfl | hy
          · exact h
          · exact h4 y hy
    · exact .inr ⟨0, r, by unfold idxG; rw [if_pos h]; rfl, rfl, h, fun y hy => by simp at hy⟩
/-- what has been kept, and what is still to come -/
structure DelM {α : Type} (p : α → Bool) (l M : List α) (i j : Nat) : Prop where
  len : M.length = l.length
  lt : i < j
  le : j ≤ l.length
  kept : M.take i = (l.take j).filter (fun x => !p x)
  rest : M.drop j = l.drop j
theorem DelM.start {α : Type} {p : α → Bool} {l : List α} {k : Nat} {x : α} (hx : l[k]? = some x) (h1 : p x = true) (h2 : ∀ y ∈ l.take k, p y = false) : DelM p l l k (k + 1) :=
  ⟨rfl, by omega, (List.getElem?_eq_some_iff.1 hx).1, by
    rw [List.take_add_one, hx, List.filter_append, List.filter_eq_self.2 (fun y hy => by rw [h2 y hy]; rfl)]
    simp [h1], rfl⟩
theorem DelM.get {α : Type} {p : α → Bool} {l M : List α} {i j : Nat} (h : DelM p l M i j) : M[j]? = l[j]? := by
  have := congrArg (fun z => z[0]?) h.rest
  simpa using this
theorem DelM.keep {α : Type} {p : α → Bool} {l M : List α} {i j : Nat} {x : α} (h : DelM p l M i j) (hx : l[j]? = some x) (hp : p x = false) : DelM p l (M.set i x) (i + 1) (j + 1) := by
  have hj := (List.getElem?_eq_some_iff.1 hx).1
  have hlt := h.lt
  refine ⟨by rw [List.length_set, h.len], by omega, hj, ?_, ?_⟩
  · have e1 : (M.set i x)[i]? = some x := List.getElem?_set_self (by rw [h.len]; omega)
    rw [List.take_add_one, e1, List.take_set_of_le (Nat.le_refl _), h.kept, List.take_add_one, hx, List.filter_append]
    simp [hp]
  · rw [List.drop_set_of_lt (by omega)]
    have := congrArg (List.drop 1) h.rest
    simpa using this
theorem DelM.skip {α : Type} {p : α → Bool} {l M : List α} {i j : Nat} {x : α} (h : DelM p l M i j) (hx : l[j]? = some x) (hp : p x = true) : DelM p l M i (j + 1) := by
  have hj := (List.getElem?_eq_some_iff.1 hx).1
  have hlt := h.lt
  refine ⟨h.len, by omega, hj, ?_, ?_⟩
  · rw [h.kept, List.take_add_one, hx, List.filter_append]
    simp [hp]
  · have := congrArg (List.drop 1) h.rest
    simpa using this
theorem DelM.fin {α : Type} {p : α → Bool} {l M : List α} {i j : Nat} (h : DelM p l M i j) (hj : j = l.length) : M.take i = l.filter (fun x => !p x) := by
  rw [h.kept, hj, List.take_length]
namespace RowK
variable {P : Program} {α : Type} {k : RowK P α} {w w' : World} {B : Nat} {v : Value} {l : List α}
/-- the cells from a place on are written: what stands ahead stays -/
theorem Own.head {g cap n : Nat} (h : k.Own w B (.slice (some ⟨g, 0, none⟩) n cap) l) {i : Nat} (hi : i ≤ l.length) (vs : List Value) :
    k.Own (w.setCells g (i * k.size) vs) B (.slice (some ⟨g, 0, none⟩) i cap) (l.take i) := by
  rcases h.2 with ⟨h1, _⟩ | ⟨g', cp, cur, h1, hB, hg, hn, hm, hs, ht⟩
  · injection h1 with e1; cases e1
  · injection h1 with e1 e2 e3
    injection e1 with e1
    injection e1 with e1
    subst e1 e2 e3
    obtain ⟨c', q1, q2, q3⟩ := blk_setCells vs (i * k.size) w cur hg
    have hll : (l.take i).length = i := by rw [List.length_take]; omega
    refine ⟨by rw [k.cells_len, hll], .inr ⟨g, cap, c', by rw [hll], hB, q1, by rw [hll]; omega, hm, by rw [q2]; exact hs, ?_⟩⟩
    rw [hll]
    have hcl : (k.cells l).length = l.length * k.size := k.cells_len l
    have hil : i * k.size ≤ l.length * k.size := Nat.mul_le_mul_right _ hi
    have e0 : k.cells l = k.cells (l.take i) ++ k.cells (l.drop i) := by rw [← k.cells_append, List.take_append_drop]
    have hcl2 : (k.cells (l.take i)).length = i * k.size := by rw [k.cells_len, hll]
    apply List.ext_getElem?
    intro j
    by_cases hj : j < i * k.size
    · rw [List.getElem?_take_of_lt hj, Array.getElem?_toList, q3 j, if_neg (by omega)]
      have h5 : (cur.toList.take (l.length * k.size))[j]? = (k.cells l)[j]? := by rw [ht]
      rw [List.getElem?_take_of_lt (by omega), Array.getElem?_toList] at h5
      rw [h5, e0, List.getElem?_append_left (by omega)]
    · rw [List.getElem?_take_eq_none (by omega), List.getElem?_eq_none (by omega)]
theorem chg_setCells (g : Nat) : ∀ (vs : List Value) (o : Nat) (w : World), Chg w (w.setCells g o vs) (fun j => j = g)
  | [], _, w => Chg.refl w _
  | v :: vs, o, w => ((Chg.refl w (fun j => j = g)).setCell (p := ⟨g, o, none⟩) (fun _ => rfl) v).trans (chg_setCells g vs (o + 1) _) (fun _ _ h => h)
theorem Own.run_clear {g cap n : Nat} (h : k.Own w B (.slice (some ⟨g, 0, none⟩) n cap) l) (hz1 : ∀ u ∈ k.z.cells.toList, u.oneCell' = true) {i : Nat} (hi : i < l.length) (c m : Nat) (hm : m = l.length - i) :
    ∃ w', (∀ ty, (Builtin.clear_ #[k.t] ty #[.slice (some ⟨g, i * k.size, none⟩) m c]).run P w = .ok (.tuple #[]) w') ∧ k.Own w' B (.slice (some ⟨g, 0, none⟩) i cap) (l.take i) ∧ Chg w w' (fun j => j = g) := by
  subst hm
  obtain ⟨cur, hg, hs, hn, hB, _⟩ := h.blk
  obtain ⟨i0, hi0, hz0, hz2, hz3⟩ := info_parts k.info
  have hsz : (l.length - i) * k.size + i * k.size ≤ cur.size := by
    rw [hs, ← Nat.add_mul]
    exact Nat.mul_le_mul_right _ (by omega)
  have hzl : (Builtin.zeroCells k.z.cells (l.length - i)).toList.length = (l.length - i) * k.size := by simp [Builtin.zeroCells, k.hz]
  have hst := run_storeCells_cells (P := P) g (i * k.size) (Builtin.zeroCells k.z.cells (l.length - i)).toList 0 w
    (fun j hj => by
      rw [hzl] at hj
      rw [cell_of_blk hg]
      simp; omega)
    (fun j hj => frozen_of_blk hg _)
    (fun v hv => by
      simp only [Builtin.zeroCells, Array.toList_map, List.mem_map] at hv
      obtain ⟨q, _, rfl⟩ := hv
      have hp := k.pos
      have hq : q % k.z.cells.size < k.z.cells.size := Nat.mod_lt _ (by rw [k.hz]; exact hp)
      rw [getElem!_pos k.z.cells _ hq]
      exact hz1 _ (by simp))
  simp only [Nat.add_zero] at hst
  refine ⟨_, fun ty => ?_, h.head (Nat.le_of_lt hi) (Builtin.zeroCells k.z.cells (l.length - i)).toList, chg_setCells g _ _ w⟩
  obtain ⟨m, hm⟩ : ∃ m, l.length - i = m + 1 := ⟨l.length - i - 1, by omega⟩
  rw [hm] at hst ⊢
  simp [Builtin.clear_, run_underlying k.ht, zeroValue, typeInfo, hi0, hz0, hst]
end RowK
end Go.Proofs.YtkhkdedjffkhdaaGreat
namespace Go.Proofs.YtkhkdedjffkhdaaGreat
open Go.RowKit Go.Maps
namespace RowK
variable {P : Program} {α : Type} {k : RowK P α} {w w' : World} {B : Nat} {v : Value} {l : List α}
/-- what a piece makes of a list -/
def over {α : Type} (l : List α) (o : Nat) (m : List α) : List α := l.take o ++ (m ++ l.drop (o + m.length))
theorem over_len {o : Nat} {m : List α} (h : o ≤ l.length) : (over l o m).length = max l.length (o + m.length) := by
  unfold over
  rw [List.length_append, List.length_append, List.length_take, List.length_drop]
  omega
theorem Own.lay {g cap n : Nat} (h : k.Own w B (.slice (some ⟨g, 0, none⟩) n cap) l) {o : Nat} (ho : o ≤ l.length) (m : List α) (hm : o + m.length ≤ cap) (n' : Nat) (hn' : n' = (over l o m).length) :
    k.Own (w.setCells g (o * k.size) (k.cells m)) B (.slice (some ⟨g, 0, none⟩) n' cap) (over l o m) := by
  subst hn'
  rcases h.2 with ⟨h1, _⟩ | ⟨g', cp, cur, h1, hB, hg, hn, hmx, hs, ht⟩
  · injection h1 with e1; cases e1
  · injection h1 with e1 e2 e3
    injection e1 with e1
    injection e1 with e1
    subst e1 e2 e3
    obtain ⟨c', q1, q2, q3⟩ := blk_setCells (k.cells m) (o * k.size) w cur hg
    have hll := over_len (m := m) ho
    refine ⟨k.cells_len _, .inr ⟨g, cap, c', rfl, hB, q1, by rw [hll]; omega, hmx, by rw [q2]; exact hs, ?_⟩⟩
    have em : (k.cells m).length = m.length * k.size := k.cells_len m
    have hcl : (k.cells l).length = l.length * k.size := k.cells_len l
    have hle : l.length * k.size ≤ cur.size := by rw [hs]; exact Nat.mul_le_mul_right _ hn
    have hom : o * k.size + m.length * k.size ≤ cur.size := by rw [hs, ← Nat.add_mul]; exact Nat.mul_le_mul_right _ hm
    have hol : o * k.size ≤ l.length * k.size := Nat.mul_le_mul_right _ ho
    have hold : ∀ j, j < l.length * k.size → cur[j]? = (k.cells l)[j]? := fun j hj => by
      have h5 : (cur.toList.take (l.length * k.size))[j]? = (k.cells l)[j]? := by rw [ht]
      rw [List.getElem?_take_of_lt hj, Array.getElem?_toList] at h5
      exact h5
    have e1 : (k.cells (l.take o)).length = o * k.size := by rw [k.cells_len, List.length_take, Nat.min_eq_left ho]
    have hsum : (over l o m).length * k.size = max (l.length * k.size) (o * k.size + m.length * k.size) := by
      rw [hll, ← Nat.add_mul]
      rcases Nat.le_total l.length (o + m.length) with hc | hc
      · rw [Nat.max_eq_right hc, Nat.max_eq_right (Nat.mul_le_mul_right _ hc)]
      · rw [Nat.max_eq_left hc, Nat.max_eq_left (Nat.mul_le_mul_right _ hc)]
    apply List.ext_getElem?
    intro j
    have ec : k.cells (over l o m) = k.cells (l.take o) ++ (k.cells m ++ k.cells (l.drop (o + m.length))) := by
      unfold over; rw [k.cells_append, k.cells_append]
    by_cases hj : j < (over l o m).length * k.size
    · rw [List.getElem?_take_of_lt hj, Array.getElem?_toList, q3 j, em, ec]
      rw [hsum] at hj
      by_cases h1 : j < o * k.size
      · rw [if_neg (by omega), List.getElem?_append_left (by omega), hold j (by omega)]
        have e0 : k.cells l = k.cells (l.take o) ++ k.cells (l.drop o) := by rw [← k.cells_append, List.take_append_drop]
        rw [e0, List.getElem?_append_left (by omega)]
      · by_cases h2 : j < o * k.size + m.length * k.size
        · rw [if_pos ⟨by omega, h2, by omega⟩, List.getElem?_append_right (by omega), e1, List.getElem?_append_left (by omega)]
        · rw [if_neg (by omega), List.getElem?_append_right (by omega), e1, List.getElem?_append_right (by omega), em, hold j (by omega)]
          have hc : o + m.length ≤ l.length := by
            rcases Nat.le_total l.length (o + m.length) with hc | hc
            · have := Nat.mul_le_mul_right k.size hc
              rw [Nat.add_mul] at this
              omega
            · exact hc
          have e0 : k.cells l = k.cells (l.take (o + m.length)) ++ k.cells (l.drop (o + m.length)) := by rw [← k.cells_append, List.take_append_drop]
          have e3 : (k.cells (l.take (o + m.length))).length = o * k.size + m.length * k.size := by rw [k.cells_len, List.length_take, Nat.min_eq_left hc, Nat.add_mul]
          rw [e0, List.getElem?_append_right (by omega), e3]
          congr 1
          omega
    · rw [List.getElem?_take_eq_none (by omega), List.getElem?_eq_none (by rw [k.cells_len]; omega)]
end RowK
end Go.Proofs.YtkhkdedjffkhdaaGreat
