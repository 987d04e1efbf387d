/- Rows of structs: clear of what stands from a place on; the first place at which something is so. Conditions: each law's own premises. Rows of structs: a piece laid over an own row, copy, append of zero values where there is no room. Conditions: each law's own premises. -/
import Derived.Test.YtonilojjahfboaaRowM
import Derived.Lib.AppendZerosOnto
import Derived.Laws.NewBlocks
namespace Go.Proofs.Ytonilojjahfboaa
open Go.RowKit Go.Maps

/-- the first one's place -/
def idxG {α : Type} (p : α → Bool) : List α → Int → Int
  | [], _ => -1
  | r :: l, i => if p r = true then i else idxG p l (i + 1)
theorem idxG_drop {α : Type} {p : α → Bool} {l : List α} {k : Nat} {x : α} (hx : l[k]? = some x) : idxG p (l.drop k) k = if p x = true then (k : Int) else idxG p (l.drop (k + 1)) (k + 1) := by
  obtain ⟨hk, rfl⟩ := List.getElem?_eq_some_iff.1 hx
  rw [List.drop_eq_getElem_cons hk]
  rfl
theorem idxG_cases {α : Type} (p : α → Bool) : ∀ (l : List α) (i : Nat), (idxG p l i = -1 ∧ ∀ x ∈ l, p x = false) ∨ (∃ (k : Nat) (x : α), idxG p l i = ((i + k : Nat) : Int) ∧ l[k]? = some x ∧ p x = true ∧ (∀ y ∈ l.take k, p y = false))
  | [], _ => .inl ⟨rfl, fun x hx => by simp at hx⟩
  | r :: l, i => by
    cases h : p r
    · rcases idxG_cases p l (i + 1) with ⟨h1, h2⟩ | ⟨k, x, h1, h2, h3, h4⟩
      · refine .inl ⟨?_, fun x hx => ?_⟩
        · unfold idxG; rw [if_neg (by rw [h]; decide)]; exact h1
        · rcases List.mem_cons.1 hx with rfl | hx
          · exact h
          · exact h2 x hx
      · refine .inr ⟨k + 1, x, ?_, by simpa using h2, h3, fun y hy => ?_⟩
        · unfold idxG; rw [if_neg (by rw [h]; decide)]
          have : ((i : Int) + 1) = ((i + 1 : Nat) : Int) := by omega
          rw [this, h1]; congr 1; omega
        · rw [List.take_succ_cons] at hy
          rcases List.mem_cons.1 hy with rfl | hy
          · exact h
          · exact h4 y hy
    · exact .inr ⟨0, r, by unfold idxG; rw [if_pos h]; rfl, rfl, h, fun y hy => by simp at hy⟩
theorem find_idxG {α : Type} (p : α → Bool) (l : List α) : (idxG p l 0 = -1 ∧ l.find? p = none) ∨ ∃ (k : Nat) (x : α), idxG p l 0 = (k : Int) ∧ l[k]? = some x ∧ l.find? p = some x := by
  rcases idxG_cases p l 0 with ⟨h1, h2⟩ | ⟨k, x, h1, h2, h3, h4⟩
  · exact .inl ⟨h1, List.find?_eq_none.2 (fun x hx => by rw [h2 x hx]; decide)⟩
  · refine .inr ⟨k, x, by simpa using h1, h2, ?_⟩
    obtain ⟨hk, rfl⟩ := List.getElem?_eq_some_iff.1 h2
    rw [List.find?_eq_some_iff_getElem]
    refine ⟨h3, k, hk, rfl, fun j hj => ?_⟩
    rw [h4 l[j] (by rw [List.mem_iff_getElem]; exact ⟨j, by rw [List.length_take]; omega, by rw [List.getElem_take]⟩)]
    rfl
/-- what has been kept, and what is still to come -/
structure DelM {α : Type} (p : α → Bool) (l M : List α) (i j : Nat) : Prop where
  len : M.length = l.length
  lt : i < j
  le : j ≤ l.length
  kept : M.take i = (l.take j).filter (fun x => !p x)
  rest : M.drop j = l.drop j
theorem DelM.start {α : Type} {p : α → Bool} {l : List α} {k : Nat} {x : α} (hx : l[k]? = some x) (h1 : p x = true) (h2 : ∀ y ∈ l.take k, p y = false) : DelM p l l k (k + 1) :=
  ⟨rfl, by omega, (List.getElem?_eq_some_iff.1 hx).1, by
    rw [List.take_add_one, hx, List.filter_append, List.filter_eq_self.2 (fun y hy => by rw [h2 y hy]; rfl)]
    simp [h1], rfl⟩
theorem DelM.get {α : Type} {p : α → Bool} {l M : List α} {i j : Nat} (h : DelM p l M i j) : M[j]? = l[j]? := by
  have := congrArg (fun z => z[0]?) h.rest
  simpa using this
theorem DelM.keep {α : Type} {p : α → Bool} {l M : List α} {i j : Nat} {x : α} (h : DelM p l M i j) (hx : l[j]? = some x) (hp : p x = false) : DelM p l (M.set i x) (i + 1) (j + 1) := by
  have hj := (List.getElem?_eq_some_iff.1 hx).1
  have hlt := h.lt
  refine ⟨by rw [List.length_set, h.len], by omega, hj, ?_, ?_⟩
  · have e1 : (M.set i x)[i]? = some x := List.getElem?_set_self (by rw [h.len]; omega)
    rw [List.take_add_one, e1, List.take_set_of_le (Nat.le_refl _), h.kept, List.take_add_one, hx, List.filter_append]
    simp [hp]
  · rw [List.drop_set_of_lt (by omega)]
    have := congrArg (List.drop 1) h.rest
    simpa using this
theorem DelM.skip {α : Type} {p : α → Bool} {l M : List α} {i j : Nat} {x : α} (h : DelM p l M i j) (hx : l[j]? = some x) (hp : p x = true) : DelM p l M i (j + 1) := by
  have hj := (List.getElem?_eq_some_iff.1 hx).1
  have hlt := h.lt
  refine ⟨h.len, by omega, hj, ?_, ?_⟩
  · rw [h.kept, List.take_add_one, hx, List.filter_append]
    simp [hp]
  · have := congrArg (List.drop 1) h.rest
    simpa using this
theorem DelM.fin {α : Type} {p : α → Bool} {l M : List α} {i j : Nat} (h : DelM p l M i j) (hj : j = l.length) : M.take i = l.filter (fun x => !p x) := by
  rw [h.kept, hj, List.take_length]
namespace RowK
variable {P : Program} {α : Type} {k : RowK P α} {w w' : World} {B : Nat} {v : Value} {l : List α}
/-- the cells from a place on are written: what stands ahead stays -/
theorem Own.head {g cap n : Nat} (h : k.Own w B (.slice (some ⟨g, 0, none⟩) n cap) l) {i : Nat} (hi : i ≤ l.length) (vs : List Value) :
    k.Own (w.setCells g (i * k.size) vs) B (.slice (some ⟨g, 0, none⟩) i cap) (l.take i) := by
  rcases h.2 with ⟨h1, _⟩ | ⟨g', cp, cur, h1, hB, hg, hn, hm, hs, ht⟩
  · injection h1 with e1; cases e1
  · injection h1 with e1 e2 e3
    injection e1 with e1
    injection e1 with e1
    subst e1 e2 e3
    obtain ⟨c', q1, q2, q3⟩ := blk_setCells vs (i * k.size) w cur hg
    have hll : (l.take i).length = i := by rw [List.length_take]; omega
    refine ⟨by rw [k.cells_len, hll], .inr ⟨g, cap, c', by rw [hll], hB, q1, by rw [hll]; omega, hm, by rw [q2]; exact hs, ?_⟩⟩
    rw [hll]
    have hcl : (k.cells l).length = l.length * k.size := k.cells_len l
    have hil : i * k.size ≤ l.length * k.size := Nat.mul_le_mul_right _ hi
    have e0 : k.cells l = k.cells (l.take i) ++ k.cells (l.drop i) := by rw [← k.cells_append, List.take_append_drop]
    have hcl2 : (k.cells (l.take i)).length = i * k.size := by rw [k.cells_len, hll]
    apply List.ext_getElem?
    intro j
    by_cases hj : j < i * k.size
    · rw [List.getElem?_take_of_lt hj, Array.getElem?_toList, q3 j, if_neg (by omega)]
      have h5 : (cur.toList.take (l.length * k.size))[j]? = (k.cells l)[j]? := by rw [ht]
      rw [List.getElem?_take_of_lt (by omega), Array.getElem?_toList] at h5
      rw [h5, e0, List.getElem?_append_left (by omega)]
    · rw [List.getElem?_take_eq_none (by omega), List.getElem?_eq_none (by omega)]
theorem chg_setCells (g : Nat) : ∀ (vs : List Value) (o : Nat) (w : World), Chg w (w.setCells g o vs) (fun j => j = g)
  | [], _, w => Chg.refl w _
  | v :: vs, o, w => ((Chg.refl w (fun j => j = g)).setCell (p := ⟨g, o, none⟩) (fun _ => rfl) v).trans (chg_setCells g vs (o + 1) _) (fun _ _ h => h)
theorem Own.run_clear {g cap n : Nat} (h : k.Own w B (.slice (some ⟨g, 0, none⟩) n cap) l) (hz1 : ∀ u ∈ k.z.cells.toList, u.oneCell' = true) {i : Nat} (hi : i < l.length) (c m : Nat) (hm : m = l.length - i) :
    ∃ w', (∀ ty, (Builtin.clear_ #[k.t] ty #[.slice (some ⟨g, i * k.size, none⟩) m c]).run P w = .ok (.tuple #[]) w') ∧ k.Own w' B (.slice (some ⟨g, 0, none⟩) i cap) (l.take i) ∧ Chg w w' (fun j => j = g) := by
  subst hm
  obtain ⟨cur, hg, hs, hn, hB, _⟩ := h.blk
  obtain ⟨i0, hi0, hz0, hz2, hz3⟩ := info_parts k.info
  have hsz : (l.length - i) * k.size + i * k.size ≤ cur.size := by
    rw [hs, ← Nat.add_mul]
    exact Nat.mul_le_mul_right _ (by omega)
  have hzl : (Builtin.zeroCells k.z.cells (l.length - i)).toList.length = (l.length - i) * k.size := by simp [Builtin.zeroCells, k.hz]
  have hst := run_storeCells_cells (P := P) g (i * k.size) (Builtin.zeroCells k.z.cells (l.length - i)).toList 0 w
    (fun j hj => by
      rw [hzl] at hj
      rw [cell_of_blk hg]
      simp; omega)
    (fun j hj => frozen_of_blk hg _)
    (fun v hv => by
      simp only [Builtin.zeroCells, Array.toList_map, List.mem_map] at hv
      obtain ⟨q, _, rfl⟩ := hv
      have hp := k.pos
      have hq : q % k.z.cells.size < k.z.cells.size := Nat.mod_lt _ (by rw [k.hz]; exact hp)
      rw [getElem!_pos k.z.cells _ hq]
      exact hz1 _ (by simp))
  simp only [Nat.add_zero] at hst
  refine ⟨_, fun ty => ?_, h.head (Nat.le_of_lt hi) (Builtin.zeroCells k.z.cells (l.length - i)).toList, chg_setCells g _ _ w⟩
  obtain ⟨m, hm⟩ : ∃ m, l.length - i = m + 1 := ⟨l.length - i - 1, by omega⟩
  rw [hm] at hst ⊢
  simp [Builtin.clear_, run_underlying k.ht, zeroValue, typeInfo, hi0, hz0, hst]
end RowK
end Go.Proofs.Ytonilojjahfboaa
namespace Go.Proofs.Ytonilojjahfboaa
open Go.RowKit Go.Maps
namespace RowK
variable {P : Program} {α : Type} {k : RowK P α} {w w' : World} {B : Nat} {v : Value} {l : List α}
/-- what a piece makes of a list -/
def over {α : Type} (l : List α) (o : Nat) (m : List α) : List α := l.take o ++ (m ++ l.drop (o + m.length))
theorem over_len {o : Nat} {m : List α} (h : o ≤ l.length) : (over l o m).length = max l.length (o + m.length) := by
  unfold over
  rw [List.length_append, List.length_append, List.length_take, List.length_drop]
  omega
theorem Own.lay {g cap n : Nat} (h : k.Own w B (.slice (some ⟨g, 0, none⟩) n cap) l) {o : Nat} (ho : o ≤ l.length) (m : List α) (hm : o + m.length ≤ cap) (n' : Nat) (hn' : n' = (over l o m).length) :
    k.Own (w.setCells g (o * k.size) (k.cells m)) B (.slice (some ⟨g, 0, none⟩) n' cap) (over l o m) := by
  subst hn'
  rcases h.2 with ⟨h1, _⟩ | ⟨g', cp, cur, h1, hB, hg, hn, hmx, hs, ht⟩
  · injection h1 with e1; cases e1
  · injection h1 with e1 e2 e3
    injection e1 with e1
    injection e1 with e1
    subst e1 e2 e3
    obtain ⟨c', q1, q2, q3⟩ := blk_setCells (k.cells m) (o * k.size) w cur hg
    have hll := over_len (m := m) ho
    refine ⟨k.cells_len _, .inr ⟨g, cap, c', rfl, hB, q1, by rw [hll]; omega, hmx, by rw [q2]; exact hs, ?_⟩⟩
    have em : (k.cells m).length = m.length * k.size := k.cells_len m
    have hcl : (k.cells l).length = l.length * k.size := k.cells_len l
    have hle : l.length * k.size ≤ cur.size := by rw [hs]; exact Nat.mul_le_mul_right _ hn
    have hom : o * k.size + m.length * k.size ≤ cur.size := by rw [hs, ← Nat.add_mul]; exact Nat.mul_le_mul_right _ hm
    have hol : o * k.size ≤ l.length * k.size := Nat.mul_le_mul_right _ ho
    have hold : ∀ j, j < l.length * k.size → cur[j]? = (k.cells l)[j]? := fun j hj => by
      have h5 : (cur.toList.take (l.length * k.size))[j]? = (k.cells l)[j]? := by rw [ht]
      rw [List.getElem?_take_of_lt hj, Array.getElem?_toList] at h5
      exact h5
    have e1 : (k.cells (l.take o)).length = o * k.size := by rw [k.cells_len, List.length_take, Nat.min_eq_left ho]
    have hsum : (over l o m).length * k.size = max (l.length * k.size) (o * k.size + m.length * k.size) := by
      rw [hll, ← Nat.add_mul]
      rcases Nat.le_total l.length (o + m.length) with hc | hc
      · rw [Nat.max_eq_right hc, Nat.max_eq_right (Nat.mul_le_mul_right _ hc)]
      · rw [Nat.max_eq_left hc, Nat.max_eq_left (Nat.mul_le_mul_right _ hc)]
    apply List.ext_getElem?
    intro j
    have ec : k.cells (over l o m) = k.cells (l.take o) ++ (k.cells m ++ k.cells (l.drop (o + m.length))) := by
      unfold over; rw [k.cells_append, k.cells_append]
    by_cases hj : j < (over l o m).length * k.size
    · rw [List.getElem?_take_of_lt hj, Array.getElem?_toList, q3 j, em, ec]
      rw [hsum] at hj
      by_cases h1 : j < o * k.size
      · rw [if_neg (by omega), List.getElem?_append_left (by omega), hold j (by omega)]
        have e0 : k.cells l = k.cells (l.take o) ++ k.cells (l.drop o) := by rw [← k.cells_append, List.take_append_drop]
        rw [e0, List.getElem?_append_left (by omega)]
      · by_cases h2 : j < o * k.size + m.length * k.size
        · rw [if_pos ⟨by omega, h2, by omega⟩, List.getElem?_append_right (by omega), e1, List.getElem?_append_left (by omega)]
        · rw [if_neg (by omega), List.getElem?_append_right (by omega), e1, List.getElem?_append_right (by omega), em, hold j (by omega)]
          have hc : o + m.length ≤ l.length := by
            rcases Nat.le_total l.length (o + m.length) with hc | hc
            · have := Nat.mul_le_mul_right k.size hc
              rw [Nat.add_mul] at this
              omega
            · exact hc
          have e0 : k.cells l = k.cells (l.take (o + m.length)) ++ k.cells (l.drop (o + m.length)) := by rw [← k.cells_append, List.take_append_drop]
          have e3 : (k.cells (l.take (o + m.length))).length = o * k.size + m.length * k.size := by rw [k.cells_len, List.length_take, Nat.min_eq_left hc, Nat.add_mul]
          rw [e0, List.getElem?_append_right (by omega), e3]
          congr 1
          omega
    · rw [List.getElem?_take_eq_none (by omega), List.getElem?_eq_none (by rw [k.cells_len]; omega)]
/-- copy onto an own row: as many elements as the shorter of the two has -/
theorem Own.run_copy {g cap n : Nat} (h : k.Own w B (.slice (some ⟨g, 0, none⟩) n cap) l) {o : Nat} (m : List α) (hm : o + m.length ≤ cap) (dLen dCap sLen sCap sb so : Nat) (hn : m.length = Nat.min sLen dLen)
    (hs : ∀ j u, (k.cells m)[j]? = some u → w.cell? ⟨sb, so + j, none⟩ = some u) (ty : TypeId) :
    (Builtin.copy_ #[k.t, k.t] ty #[.slice (some ⟨g, o * k.size, none⟩) dLen dCap, .slice (some ⟨sb, so, none⟩) sLen sCap]).run P w = .ok (goInt m.length) (w.setCells g (o * k.size) (k.cells m)) := by
  obtain ⟨cur, hg, hsz, _, _, _⟩ := h.blk
  obtain ⟨i0, hi0, hz0, hz1, hz2⟩ := info_parts k.info
  have em : (k.cells m).length = m.length * k.size := k.cells_len m
  have hle : o * k.size + m.length * k.size ≤ cur.size := by rw [hsz, ← Nat.add_mul]; exact Nat.mul_le_mul_right _ hm
  have hl := run_loadCells_list (P := P) w ⟨sb, so, none⟩ (k.cells m) (fun j u hj => by rw [add_none]; exact hs j u hj)
  have hst := run_storeCells_cells (P := P) g (o * k.size) (k.cells m) 0 w
    (fun j hj => by rw [em] at hj; rw [cell_of_blk hg]; simp; omega) (fun j hj => frozen_of_blk hg _) (k.cells_one m)
  rw [em] at hl
  simp only [Nat.add_zero] at hst
  simp [Builtin.copy_, run_underlying k.ht, Builtin.lenOf, Builtin.firstCells, sizeOf, typeInfo, hi0, hz1, ← hn, hl, hst]
/-- append of zero values where there is no room: a new row -/
theorem run_grow (zr : α) (hzr : k.enc zr = k.z.cells.toList) (tn : TypeId) (htn : P.underlying tn = some (.int .i64)) (ty : TypeId) (b off cap : Nat) (hV : k.At w b off l) {i m : Nat} (hi : i ≤ l.length) (hm : 0 < m) (hcap : cap < i + m) (hbig : i + m ≤ 1000000) (hB : B ≤ w.heap.size) :
    ∃ w1 gc, (Builtin.append_ #[k.t, tn] ty #[.slice (some ⟨b, off, none⟩) i cap, .int .i64 m]).run P w = .ok (.slice (some ⟨w.heap.size, 0, none⟩) (i + m) gc) w1 ∧ k.Own w1 B (.slice (some ⟨w.heap.size, 0, none⟩) (i + m) gc) (l.take i ++ List.replicate m zr) ∧ Below w.heap.size w w1 ∧ w1.heap.size = w.heap.size + 1 := by
  obtain ⟨i0, hi0, hz0, hz1, hz2⟩ := info_parts k.info
  have hp := k.pos
  have hsm := k.small
  have e1 : (l.take i).length = i := by rw [List.length_take]; omega
  have hold : (Builtin.firstCells i0.size i (.slice (some ⟨b, off, none⟩) i cap)).run P w.drew = .ok (k.cells (l.take i)).toArray w.drew :=
    run_firstCells_some w.drew i0.size i ⟨b, off, none⟩ i cap (k.cells (l.take i)) (by rw [k.cells_len, e1, hz1]) (fun j u hj => by
      obtain ⟨q, r, x, h1, _, h3, h4⟩ := k.cells_split _ j u hj
      rw [add_none, h1, ← Nat.add_assoc]
      have hq : q < i := by have := (List.getElem?_eq_some_iff.1 h3).1; omega
      rw [List.getElem?_take_of_lt hq] at h3
      exact hV.cells q x h3 r u h4)
  have hb2 : (i + m) * i0.bytes ≤ 1000000 * 1000 := by rw [hz2]; exact Nat.mul_le_mul hbig hsm
  have hb3 : m * i0.bytes ≤ (i + m) * i0.bytes := Nat.mul_le_mul_right _ (by omega)
  have hr := Lib.run_append_grow_zeros w k.t tn ty k.e i0 _ .i64 .i64 k.ht htn hi0 hz0 (some ⟨b, off, none⟩) i cap (k.cells (l.take i)) hold m hm (by rw [hz1]; exact hp) hcap (by omega) (by omega) (growslice_fits hcap (by omega))
  refine ⟨_, _, hr, ?_, ?_, by simp⟩
  · have hG := grownCap_ge w (i + m) cap k.e
    have hG2 := grownCap_le_maxLen w (i + m) cap k.e (by unfold maxLen; omega)
    have hlen : (l.take i ++ List.replicate m zr).length = i + m := by rw [List.length_append, e1, List.length_replicate]
    have hzc : k.cells (List.replicate m zr) = (Builtin.zeroCells k.z.cells m).toList := by
      have hz9 : (k.enc zr).length = k.size := k.len zr
      apply List.ext_getElem?
      intro j
      by_cases hj : j < m * k.size
      · have hq : j / k.size < m := Nat.div_lt_of_lt_mul (by rw [Nat.mul_comm]; exact hj)
        have hmo : j % k.size < k.size := Nat.mod_lt _ hp
        have hje : j / k.size * k.size + j % k.size = j := by rw [Nat.mul_comm]; exact Nat.div_add_mod _ _
        have hu : (k.enc zr)[j % k.size]? = some ((k.enc zr)[j % k.size]'(by omega)) := List.getElem?_eq_getElem _
        have h1 := k.cells_at (l := List.replicate m zr) (i := j / k.size) (x := zr) (by rw [List.getElem?_replicate, if_pos hq]) hu
        rw [hje] at h1
        rw [h1]
        simp only [Builtin.zeroCells, Array.toList_map, Array.toList_range, k.hz, List.getElem?_map, List.getElem?_range hj, Option.map_some]
        congr 1
        have h9 : j % k.size < k.z.cells.size := by rw [k.hz]; exact hmo
        rw [getElem!_pos k.z.cells _ h9]
        simp only [hzr, Array.getElem_toList]
      · rw [List.getElem?_eq_none (by rw [k.cells_len, List.length_replicate]; omega), List.getElem?_eq_none (by simp [Builtin.zeroCells, k.hz]; omega)]
    refine ⟨by rw [k.cells_len], .inr ⟨w.heap.size, _, _, by rw [hlen], hB, heap_new w.drew _, by rw [hlen]; exact hG, hG2, ?_, ?_⟩⟩
    · simp only [Array.size_append, List.size_toArray, k.cells_len, e1, Builtin.zeroCells, Array.size_map, Array.size_range, k.hz]
      rw [← Nat.add_mul, ← Nat.add_mul]
      congr 1
      omega
    · rw [hlen, k.cells_append, hzc]
      have e5 : (k.cells (l.take i)).length + (Builtin.zeroCells k.z.cells m).toList.length = (i + m) * k.size := by
        simp [k.cells_len, e1, Builtin.zeroCells, k.hz, Nat.add_mul]
      simp only [Array.toList_append]
      rw [List.take_append_of_le_length (by rw [List.length_append]; omega), List.take_of_length_le (by rw [List.length_append]; omega)]
  · exact ((Below.refl w.heap.size w).drew).alloc (Nat.le_refl _) _
/-- copy, at the operation, where its run is known -/
theorem wpList_copy_run {ops : Array Oper} {rest : List Oper} {o : Oper} {a : Act} {Q : Exit → Act → World → Prop} (hgd : o.guard = none) (d s : Operand) (t t2 : TypeId)
    (ho : o.op = .call { callee := .builtin .copy, args := #[d, s], argTypes := #[t, t2] }) (vd vs : Value) (hd : a.eval d = vd) (hs : a.eval s = vs) (r : Value) (hr : (Builtin.copy_ #[t, t2] o.type #[vd, vs]).run P w = .ok r w')
    (h : wpList P ops Q rest (a.put o.dst r) w') : wpList P ops Q (o :: rest) a w := by
  refine wpList_plain hgd fun K hK => ?_
  unfold Oper.wp execOp
  simp only [ho, resolve, invoke, builtin, Sem.run_bind, Sem.run_pure, Result.andThen_ok, List.map_toArray, List.map_cons, List.map_nil, hd, hs, hr]
  exact hK _ _ h
theorem step_copy_run {ops : Array Oper} {o : Oper} {a : Act} {K : Act → World → Prop} {Q : Exit → Act → World → Prop} {E : Prop} (hgd : o.guard = none) (d s : Operand) (t t2 : TypeId)
    (ho : o.op = .call { callee := .builtin .copy, args := #[d, s], argTypes := #[t, t2] }) (vd vs : Value) (hd : a.eval d = vd) (hs : a.eval s = vs) (r : Value) (hr : (Builtin.copy_ #[t, t2] o.type #[vd, vs]).run P w = .ok r w')
    (h : K (a.put o.dst r) w') : if Region.wanted o (yielded ops a.tmps) = true then Oper.wp P o a w K Q else E := by
  have hw : Region.wanted o (yielded ops a.tmps) = true := by simp [Region.wanted, hgd]
  rw [if_pos hw]
  unfold Oper.wp execOp
  simp only [ho, resolve, invoke, builtin, Sem.run_bind, Sem.run_pure, Result.andThen_ok, List.map_toArray, List.map_cons, List.map_nil, hd, hs, hr]
  exact h
/-- what stands at a piece of an own row -/
theorem Own.piece {g cap n : Nat} (h : k.Own w B (.slice (some ⟨g, 0, none⟩) n cap) l) {o q : Nat} {j : Nat} {u : Value} (hu : (k.cells ((l.drop o).take q))[j]? = some u) : w.cell? ⟨g, o * k.size + j, none⟩ = some u := by
  obtain ⟨b', c', e, _, _, hat⟩ := h.at' (fun e => by rw [e] at hu; simp [RowK.cells] at hu)
  injection e with e1
  injection e1 with e1
  injection e1 with e1
  subst e1
  obtain ⟨i, r, x, h1, _, h3, h4⟩ := k.cells_split _ j u hu
  have hi : i < q := by have := (List.getElem?_eq_some_iff.1 h3).1; rw [List.length_take] at this; omega
  rw [List.getElem?_take_of_lt hi, List.getElem?_drop] at h3
  have := hat.cells (o + i) x h3 r u h4
  rw [Nat.zero_add, Nat.add_mul] at this
  rw [h1, ← Nat.add_assoc]
  exact this
end RowK
end Go.Proofs.Ytonilojjahfboaa
