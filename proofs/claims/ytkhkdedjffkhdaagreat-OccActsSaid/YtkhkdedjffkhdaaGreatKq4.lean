/- A row of the call's own that the library's sort sorts. Conditions: each lemma's own premises. -/
import Derived.Test.YtkhkdedjffkhdaaGreatKqA
import Derived.Test.YtkhkdedjffkhdaaGreatKyA
import Derived.Shelf.SlSortCmp.InsertionK
namespace Go.Proofs.YtkhkdedjffkhdaaGreat
open Go.RowKit Go.Maps Go.Sort Go.Shelf

section
variable {P : Program} {α : Type} [Inhabited α] (k : RowK P α)
theorem flatK_cells (l : List α) : (flatK k.enc k.size l.toArray).toList = k.cells l := by
  apply List.ext_getElem?
  intro t
  have hp := k.pos
  by_cases ht : t < l.length * k.size
  · have hi : t / k.size < l.length := Nat.div_lt_of_lt_mul (by rw [Nat.mul_comm]; exact ht)
    have hr : t % k.size < k.size := Nat.mod_lt _ hp
    have hx : l[t / k.size]? = some l[t / k.size] := List.getElem?_eq_getElem hi
    have hu : (k.enc l[t / k.size])[t % k.size]? = some ((k.enc l[t / k.size])[t % k.size]'(by rw [k.len]; exact hr)) := List.getElem?_eq_getElem _
    have h1 := k.cells_at hx hu
    rw [Nat.mul_comm, Nat.div_add_mod] at h1
    rw [h1, Array.getElem?_toList]
    unfold flatK
    simp only [Array.getElem?_map, List.size_toArray]
    rw [Array.getElem?_eq_getElem (by simpa using ht)]
    simp only [Array.getElem_range, Option.map_some]
    congr 1
    have e1 : l.toArray[t / k.size]! = l[t / k.size] := by simp [hi]
    rw [e1, getElem!_pos _ _ (by rw [k.len]; exact hr)]
  · have h1 : (k.cells l)[t]? = none := List.getElem?_eq_none (by rw [k.cells_len]; omega)
    rw [h1, Array.getElem?_toList, Array.getElem?_eq_none (by simp; omega)]
/-- own elements are held -/
theorem own_holds {w : World} {B n cap g : Nat} {l : List α} (h : k.Own w B (.slice (some ⟨g, 0, none⟩) n cap) l) : HoldsK k.enc k.size w g 0 l.toArray ∧ g < w.heap.size ∧ B ≤ g ∧ n = l.length := by
  rcases h.2 with ⟨e, _⟩ | ⟨g', cap', cur, e, hB, hg, hn, hm, hs, ht⟩
  · cases e
  · injection e with e1 e2 e3
    injection e1 with e1
    injection e1 with e1
    subst e1 e2 e3
    refine ⟨fun j hj => ⟨?_, frozen_of_blk hg _⟩, (Array.getElem?_eq_some_iff.1 hg).1, hB, rfl⟩
    rw [size_flatK] at hj
    simp only [List.size_toArray] at hj
    rw [cell_of_blk hg, Nat.zero_add]
    have hF : (flatK k.enc k.size l.toArray : Array Value)[j]? = cur[j]? := by
      rw [← Array.getElem?_toList, flatK_cells, ← ht, List.getElem?_take_of_lt hj, Array.getElem?_toList]
    have hj2 : j < (flatK k.enc k.size l.toArray).size := by rw [size_flatK]; simpa using hj
    rw [← hF, Array.getElem?_eq_getElem hj2, getElem!_pos (flatK k.enc k.size l.toArray) j hj2]
    rfl
/-- own elements, sorted -/
theorem own_sorted {w : World} {B n cap g m : Nat} {l l' : List α} {os : Array Obj} (h : k.Own w B (.slice (some ⟨g, 0, none⟩) n cap) l) (hl : l'.length = l.length) :
    k.Own (sortWorldK k.enc k.size w g 0 m l'.toArray os) B (.slice (some ⟨g, 0, none⟩) n cap) l' ∧ Below B w (sortWorldK k.enc k.size w g 0 m l'.toArray os) := by
  rcases h.2 with ⟨e, _⟩ | ⟨g', cap', cur, e, hB, hg, hn, hm, hs, ht⟩
  · cases e
  · injection e with e1 e2 e3
    injection e1 with e1
    injection e1 with e1
    subst e1 e2 e3
    have hlt := (Array.getElem?_eq_some_iff.1 hg).1
    have hheap : ∀ i, i < w.heap.size → (sortWorldK k.enc k.size w g 0 m l'.toArray os).heap[i]? = if i = g then some (.cells (putCells id 0 (flatK k.enc k.size l'.toArray) cur) k.e (0, 0)) else w.heap[i]? := fun i hi => by
      unfold sortWorldK grow putRowK putRow mapBlock
      simp only
      rw [Array.getElem?_append_left (by simpa using hi), Array.getElem?_modify]
      show (if g = i then (w.heap[i]?).map _ else w.heap[i]?) = _
      by_cases e : i = g
      · subst e
        rw [if_pos rfl, if_pos rfl, hg]
        rfl
      · rw [if_neg (fun e2 => e e2.symm), if_neg e]
    have hsz : w.heap.size ≤ (sortWorldK k.enc k.size w g 0 m l'.toArray os).heap.size := by
      unfold sortWorldK grow putRowK putRow mapBlock
      simp
    have hF : (flatK k.enc k.size l'.toArray).size = l.length * k.size := by rw [size_flatK]; simp [hl]
    have hle : l.length * k.size ≤ cur.size := by rw [hs]; exact Nat.mul_le_mul_right _ hn
    refine ⟨⟨by rw [k.cells_len, hl], .inr ⟨g, cap, _, by rw [hl], hB, by rw [hheap g hlt, if_pos rfl], by rw [hl]; exact hn, hm, by rw [← hs]; simp [putCells], ?_⟩⟩, ⟨rfl, rfl, rfl, hsz, fun i hi => ?_⟩⟩
    · rw [hl, ← flatK_cells k l']
      apply List.ext_getElem?
      intro t
      by_cases htl : t < l.length * k.size
      · rw [List.getElem?_take_of_lt htl, Array.getElem?_toList, Array.getElem?_toList]
        unfold putCells
        rw [Array.getElem?_mapIdx, Array.getElem?_eq_getElem (by omega), Array.getElem?_eq_getElem (by omega)]
        simp only [Option.map_some, hF, Nat.zero_le, true_and, Nat.zero_add, htl, if_true, Nat.sub_zero, id]
        rw [getElem!_pos _ _ (by omega)]
      · rw [List.getElem?_eq_none (by simp; omega), Array.getElem?_toList, Array.getElem?_eq_none (by omega)]
    · rw [hheap i (by omega), if_neg (by omega)]
end
theorem ky_swo : SWO (ltOf Ky.cmp) where
  irrefl := fun x => by
    unfold ltOf
    have := (Ky.cmp_zero x x).2 rfl
    simp [this]
  trans := fun x y z h1 h2 => by
    unfold ltOf at *
    simp only [decide_eq_true_eq] at *
    have h3 := Ky.cmp_trans x y z (by omega) (by omega)
    have h4 : x.cmp z ≠ 0 := fun e => by
      have e := (Ky.cmp_zero x z).1 e
      subst e
      have := Ky.cmp_neg x y
      omega
    omega
  ntrans := fun x y z h1 h2 => by
    unfold ltOf at *
    simp only [decide_eq_false_iff_not] at *
    have n1 := Ky.cmp_neg x y
    have n2 := Ky.cmp_neg y z
    have n3 := Ky.cmp_neg x z
    have := Ky.cmp_trans z y x (by omega) (by omega)
    omega
theorem ky_total (x y : Ky) (h1 : ltOf Ky.cmp x y = false) (h2 : ltOf Ky.cmp y x = false) : x = y := by
  unfold ltOf at *
  simp only [decide_eq_false_iff_not] at *
  have n1 := Ky.cmp_neg x y
  exact (Ky.cmp_zero x y).1 (by omega)
set_option maxRecDepth 100000 in
set_option maxHeartbeats 400000 in
/-- cell.Order, and what it leaves -/
theorem order_g (a b : Ky) (w : World) :
    Calls Tryz.prog 75 #[a.val, b.val] w fun e w' => e = .returned (.int .i64 (a.cmp b)) ∧ ∃ q os, w' = grow (w.drewN q) os := by
  unfold Ky.val
  go_enter Tryz.func75, Tryz.ntmps75
  go_wp2
  refine wp_region_still_tail 20 (by kernel_rfl) (by kernel_rfl) ?_
  change wpStill _ _ (World.drew _) (fun a' => wpList _ _ _ _ a' (World.drew _)) _ _
  simp only [List.take_succ_cons, List.take_zero, List.drop_succ_cons, List.drop_zero]
  iterate 4 still_step
  still_call (cmpC_any _ _ _)
  iterate 4 still_step
  still_call (cmpC_any _ _ _)
  iterate 4 still_step
  still_call (cmpC_any _ _ _)
  iterate 4 still_step
  still_call (strCmp_any _ _ _)
  refine wpStill_nil ?_
  go_wp2_with fail
  refine (cmpOr_any (w.heap.size + 1 + 1) 4 [cmpI a.kind b.kind, cmpI a.a b.a, cmpI a.b b.b, Lib.compareBytes a.s.data.toList b.s.data.toList] _ (by simp) ?_).mono ?_
  · intro i x hx
    match i, hx with
    | 0, hx => simp at hx; subst hx; go_simp
    | 1, hx => simp at hx; subst hx; go_simp
    | 2, hx => simp at hx; subst hx; go_simp
    | 3, hx => simp at hx; subst hx; go_simp
  rintro e w' ⟨rfl, rfl⟩
  go_wp2
  go_ret
  refine ⟨rfl, ?_⟩
  simp only [Sort.alloc_eq_grow, grow_grow]
  exact ⟨1, _, rfl⟩
/-- keys by their order, each but once -/
def KySorted (ks : List Ky) : Prop := ks.Pairwise (fun a b => a.cmp b < 0)
theorem merge_sorted {ks : List Ky} (hn : ks.Nodup) : KySorted (ks.mergeSort fun x y => !(ltOf Ky.cmp) y x) ∧ (ks.mergeSort fun x y => !(ltOf Ky.cmp) y x).Perm ks := by
  have hp := List.mergeSort_perm ks (fun x y => !(ltOf Ky.cmp) y x)
  refine ⟨?_, hp⟩
  have hs : (ks.mergeSort fun x y => !(ltOf Ky.cmp) y x).Pairwise (fun a b => (!(ltOf Ky.cmp) b a) = true) := List.pairwise_mergeSort (le := fun x y => !(ltOf Ky.cmp) y x) (fun a b c h1 h2 => by
    simp only [Bool.not_eq_true'] at *
    exact ky_swo.ntrans c b a h2 h1) (fun a b => by
    simp only [Bool.or_eq_true, Bool.not_eq_true']
    unfold ltOf
    simp only [decide_eq_false_iff_not]
    have := Ky.cmp_neg a b
    omega) ks
  have hd : (ks.mergeSort fun x y => !(ltOf Ky.cmp) y x).Pairwise (fun a b => a ≠ b) := (hp.nodup_iff).2 hn
  refine (hs.and hd).imp (fun h => ?_)
  obtain ⟨h1, h2⟩ := h
  simp only [Bool.not_eq_true'] at h1
  unfold ltOf at h1
  simp only [decide_eq_false_iff_not] at h1
  rename_i a b
  have n1 := Ky.cmp_neg a b
  have : a.cmp b ≠ 0 := fun e => h2 ((Ky.cmp_zero a b).1 e)
  omega
end Go.Proofs.YtkhkdedjffkhdaaGreat
