/- web.ParseVertex, web.ParseEdge, cobwebref21.Vertex, cobwebref21.Edge. Conditions: each contract's own premises. -/
import Derived.Test.YtcafedfldmcbiaaWb29
namespace Go.Proofs.Ytcafedfldmcbiaa
open Go.RowKit Go.Maps Go.Lib

/-- a vertex's label and properties, of a text -/
noncomputable def vertexP (id : Int) (s : ByteArray) : Option (ByteArray × List Pr) := match parseP s with
  | some x => if checkR x.1 x.2 [id] = 0 then some x else none
  | none => none
theorem vertexP_none {id : Int} {s : ByteArray} (h : parseP s = none) : vertexP id s = none := by unfold vertexP; rw [h]
theorem vertexP_bad {id : Int} {s : ByteArray} {l : ByteArray} {ps : List Pr} (h : parseP s = some (l, ps)) (hc : checkR l ps [id] ≠ 0) : vertexP id s = none := by unfold vertexP; rw [h]; simp only []; rw [if_neg hc]
theorem vertexP_good {id : Int} {s : ByteArray} {l : ByteArray} {ps : List Pr} (h : parseP s = some (l, ps)) (hc : checkR l ps [id] = 0) : vertexP id s = some (l, ps) := by unfold vertexP; rw [h]; simp only []; rw [if_pos hc]
def VxPost (good bad : Value) (w : World) (id : Int) (o : Option (ByteArray × List Pr)) (e : Ending) (w' : World) : Prop :=
  Below w.heap.size w w' ∧ ((∃ (l : ByteArray) (ps : List Pr) (v : Value), o = some (l, ps) ∧ e = .returned (.tuple #[.agg #[.int .i64 id, .string l, v], good]) ∧ PsO w' w.heap.size v ps ∧ (∀ p ∈ ps, p.key.size ≤ 255 ∧ p.v.Ok) ∧ ps.length ≤ 16) ∨ (o = none ∧ e = .returned (.tuple #[.agg #[.int .i64 0, .string ⟨#[]⟩, .slice none 0 0], bad])))
theorem vx_ret {w wr : World} {t : TypeId} {a0 a1 a2 : Value} (e : wr.heap[w.heap.size]? = some (.cells #[a0, a1, a2] t)) (hb : Below w.heap.size w wr) (F : Func) (a : Act) (x y z r : Value) (P : Ending → World → Prop)
    (hF : F.results = #[.cell 4 24, .tmp 5]) (h4 : a.tmps[4]?.getD undef = .pointer (some ⟨w.heap.size, 0, none⟩)) (h5 : a.tmps[5]?.getD undef = r) (hd : a.defers = [])
    (h : ∀ w3, Below w.heap.size w w3 → (∀ k, k ≠ w.heap.size → w3.heap[k]? = wr.heap[k]?) → P (.returned (.tuple #[.agg #[x, y, z], r])) w3) :
    bodyPost Try.prog F P .ret a (((wr.setCell ⟨w.heap.size, 0, none⟩ x).setCell ⟨w.heap.size, 1, none⟩ y).setCell ⟨w.heap.size, 2, none⟩ z) := by
  obtain ⟨w3, hw3⟩ : ∃ w3, w3 = ((wr.setCell ⟨w.heap.size, 0, none⟩ x).setCell ⟨w.heap.size, 1, none⟩ y).setCell ⟨w.heap.size, 2, none⟩ z := ⟨_, rfl⟩
  obtain ⟨b3, d0, d1, d2⟩ := set3 e hb _ _ _ w3 hw3
  have hk : ∀ k, k ≠ w.heap.size → w3.heap[k]? = wr.heap[k]? := fun k hk => by
    rw [hw3, heap_setCell_other _ _ _ _ hk, heap_setCell_other _ _ _ _ hk, heap_setCell_other _ _ _ _ hk]
  rw [← hw3]
  clear hw3
  refine bodyPost_ret (v := .tuple #[.agg #[x, y, z], r]) ?_ hd (h w3 b3 hk)
  simp [results, hF, go_sem, h4, h5, d0, d1, d2]
theorem PsO.of_others {w w' : World} {B : Nat} {v : Value} {l : List Pr} (h : PsO w B v l) {k : Nat} (hk : k < B) (hb : ∀ j, j ≠ k → w'.heap[j]? = w.heap[j]?) : PsO w' B v l :=
  ownsRow_of_block h (fun g hg => hb g (by have := (h.lt g hg).1; omega))
set_option maxRecDepth 100000 in
set_option maxHeartbeats 2000000 in
theorem parseVertex_any (id : Int) (s : ByteArray) (w : World) (hi : I64 id) (hs : s.size ≤ 1000000) : Calls Try.prog 29 #[.int .i64 id, .string s] w (VxPost (.int .i64 0) (.int .i64 10) w id (vertexP id s)) := by
  have HI := Lib.hid hi
  obtain ⟨R, hR⟩ : ∃ R, R = vertexP id s := ⟨_, rfl⟩
  rw [← hR]
  have HR := Lib.hid hR
  clear hi hR
  go_enter Try.func29, Try.ntmps29
  go_wp2_with fail
  have eW := heap_new w (.cells #[.int .i64 0, .string ⟨#[]⟩, .slice none 0 0] 24)
  have bW := below_box w (.cells #[.int .i64 0, .string ⟨#[]⟩, .slice none 0 0] 24)
  refine (parse_any s _ hs).mono ?_
  rintro e w1 ⟨hb1, l, v, ok, ps, rfl, hor⟩
  have e1 := (hb1.block w.heap.size (by simp)).trans eW
  have B1 := below_then bW hb1
  have l1 : w.heap.size < w1.heap.size := (Array.getElem?_eq_some_iff.1 e1).1
  have HE1 := Lib.hid e1
  rcases hor with ⟨rfl, hp, hO, hok, h16, hls⟩ | ⟨rfl, hp⟩
  · simp at hO
    obtain ⟨pa, pc, rfl, hpv⟩ := hO.psV hok
    have HO := Lib.hid hO
    have HOK := Lib.hid hok
    have HP := Lib.hid hp
    have IV : IsV (w1.alloc (.cells #[.int .i64 id] 3)) (some ⟨w1.heap.size, 0, none⟩) [id] := ids_new (heap_new w1 _) (fun x hx => by rw [List.mem_singleton.1 hx]; exact HI.out)
    have HIV := Lib.hid IV
    have HPV := Lib.hid (hpv.below (below_box w1 (.cells #[.int .i64 id] 3)))
    clear hO hok hp IV hpv e1 eW bW hb1
    go_wp2_with fail
    refine (check_any l pa _ pc 1 ps [id] _ (by unfold maxLen; omega) HPV.out HIV.out (by omega) (by simp)).mono ?_
    rintro e w2 ⟨rfl, hb2⟩
    have hb12 := below_then (below_box w1 _) hb2
    have e2 := (hb12.block w.heap.size l1).trans HE1.out
    have HE2 := Lib.hid e2
    have HO2 := Lib.hid (HO.out.below hb12)
    have B2 := Lib.hid (below_then B1 hb12)
    have l2 : w.heap.size < w2.heap.size := (Array.getElem?_eq_some_iff.1 e2).1
    have f0 := frozen_of_blk e2 0
    have f1 := frozen_of_blk e2 1
    have f2 := frozen_of_blk e2 2
    have c0 := cell_of_blk e2 0
    have c1 := cell_of_blk e2 1
    have c2 := cell_of_blk e2 2
    simp at c0 c1 c2
    clear e2 hb2 hb12
    by_cases hc : checkR l ps [id] = 0
    · have HN := Lib.hid (HR.out.trans (vertexP_good HP.out hc))
      rw [hc]
      clear hc
      go_wp2_with fail
      exact vx_ret HE2.out B2.out _ _ _ _ _ _ _ Try.results29 rfl rfl rfl (fun w3 h3 hk => ⟨h3, .inl ⟨l, ps, _, HN.out, rfl, (HO2.out.of_others (k := w.heap.size) (by omega) hk).mono (by omega), HOK.out, h16⟩⟩)
    · have HN := Lib.hid (HR.out.trans (vertexP_bad HP.out hc))
      have hc' : (checkR l ps [id] == 0) = false := by simpa using hc
      obtain ⟨k, hk⟩ : ∃ k, checkR l ps [id] = k := ⟨_, rfl⟩
      rw [hk] at hc' ⊢
      clear hc hk
      go_wp2_with fail
      exact vx_ret HE2.out B2.out _ _ _ _ _ _ _ Try.results29 rfl rfl rfl (fun w3 h3 _ => ⟨h3, .inr ⟨HN.out, rfl⟩⟩)
  · have HN := Lib.hid (HR.out.trans (vertexP_none hp))
    have f0 := frozen_of_blk e1 0
    have f1 := frozen_of_blk e1 1
    have f2 := frozen_of_blk e1 2
    have c0 := cell_of_blk e1 0
    have c1 := cell_of_blk e1 1
    have c2 := cell_of_blk e1 2
    simp at c0 c1 c2
    clear e1 eW bW hb1 hp
    go_wp2_with fail
    exact vx_ret HE1.out B1 _ _ _ _ _ _ _ Try.results29 rfl rfl rfl (fun w3 h3 _ => ⟨h3, .inr ⟨HN.out, rfl⟩⟩)
set_option maxRecDepth 100000 in
set_option maxHeartbeats 2000000 in
theorem r21vertex_any (id : Int) (s : ByteArray) (w : World) (hi : I64 id) (hs : s.size ≤ 1000000) : Calls Try.prog 34 #[.int .i64 id, .string s] w (VxPost (.bool true) (.bool false) w id (vertexP id s)) := by
  have HI := Lib.hid hi
  obtain ⟨R, hR⟩ : ∃ R, R = vertexP id s := ⟨_, rfl⟩
  rw [← hR]
  have HR := Lib.hid hR
  clear hi hR
  go_enter Try.func34, Try.ntmps34
  go_wp2_with fail
  have eW := heap_new w (.cells #[.int .i64 0, .string ⟨#[]⟩, .slice none 0 0] 24)
  have bW := below_box w (.cells #[.int .i64 0, .string ⟨#[]⟩, .slice none 0 0] 24)
  refine (r21b_any s _ hs).mono ?_
  rintro e w1 ⟨hb1, l, v, ok, ps, rfl, hor⟩
  have e1 := (hb1.block w.heap.size (by simp)).trans eW
  have B1 := below_then bW hb1
  have l1 : w.heap.size < w1.heap.size := (Array.getElem?_eq_some_iff.1 e1).1
  have HE1 := Lib.hid e1
  rcases hor with ⟨rfl, hp, hO, hok, h16, hls⟩ | ⟨rfl, hp⟩
  · simp at hO
    obtain ⟨pa, pc, rfl, hpv⟩ := hO.psV hok
    have HO := Lib.hid hO
    have HOK := Lib.hid hok
    have HP := Lib.hid hp
    have IV : IsV (w1.alloc (.cells #[.int .i64 id] 3)) (some ⟨w1.heap.size, 0, none⟩) [id] := ids_new (heap_new w1 _) (fun x hx => by rw [List.mem_singleton.1 hx]; exact HI.out)
    have HIV := Lib.hid IV
    have HPV := Lib.hid (hpv.below (below_box w1 (.cells #[.int .i64 id] 3)))
    clear hO hok hp IV hpv e1 eW bW hb1
    go_wp2_with fail
    refine (r16check_any l pa _ pc 1 ps [id] _ (by omega) HPV.out HIV.out (by omega) (by simp)).mono ?_
    rintro e w2 ⟨rfl, hb2⟩
    have hb12 := below_then (below_box w1 _) hb2
    have e2 := (hb12.block w.heap.size l1).trans HE1.out
    have HE2 := Lib.hid e2
    have HO2 := Lib.hid (HO.out.below hb12)
    have B2 := Lib.hid (below_then B1 hb12)
    have l2 : w.heap.size < w2.heap.size := (Array.getElem?_eq_some_iff.1 e2).1
    have f0 := frozen_of_blk e2 0
    have f1 := frozen_of_blk e2 1
    have f2 := frozen_of_blk e2 2
    have c0 := cell_of_blk e2 0
    have c1 := cell_of_blk e2 1
    have c2 := cell_of_blk e2 2
    simp at c0 c1 c2
    clear e2 hb2 hb12
    by_cases hc : checkR l ps [id] = 0
    · have HN := Lib.hid (HR.out.trans (vertexP_good HP.out hc))
      rw [hc]
      clear hc
      go_wp2_with fail
      exact vx_ret HE2.out B2.out _ _ _ _ _ _ _ Try.results34 rfl rfl rfl (fun w3 h3 hk => ⟨h3, .inl ⟨l, ps, _, HN.out, rfl, (HO2.out.of_others (k := w.heap.size) (by omega) hk).mono (by omega), HOK.out, h16⟩⟩)
    · have HN := Lib.hid (HR.out.trans (vertexP_bad HP.out hc))
      have hc' : (checkR l ps [id] == 0) = false := by simpa using hc
      obtain ⟨k, hk⟩ : ∃ k, checkR l ps [id] = k := ⟨_, rfl⟩
      rw [hk] at hc' ⊢
      clear hc hk
      go_wp2_with fail
      exact vx_ret HE2.out B2.out _ _ _ _ _ _ _ Try.results34 rfl rfl rfl (fun w3 h3 _ => ⟨h3, .inr ⟨HN.out, rfl⟩⟩)
  · have HN := Lib.hid (HR.out.trans (vertexP_none hp))
    have f0 := frozen_of_blk e1 0
    have f1 := frozen_of_blk e1 1
    have f2 := frozen_of_blk e1 2
    have c0 := cell_of_blk e1 0
    have c1 := cell_of_blk e1 1
    have c2 := cell_of_blk e1 2
    simp at c0 c1 c2
    clear e1 eW bW hb1 hp
    go_wp2_with fail
    exact vx_ret HE1.out B1 _ _ _ _ _ _ _ Try.results34 rfl rfl rfl (fun w3 h3 _ => ⟨h3, .inr ⟨HN.out, rfl⟩⟩)
/-- an edge's parts, of a text -/
noncomputable def edgeP (id : Int) (s : ByteArray) : Option (ByteArray × List Pr) := if s.size < 10 then none else vertexP id (s.extract 10 s.size)
def ExPost (good bad : Value) (w : World) (id : Int) (s : ByteArray) (e : Ending) (w' : World) : Prop :=
  Below w.heap.size w w' ∧ ((∃ (l : ByteArray) (ps : List Pr) (v : Value), edgeP id s = some (l, ps) ∧ e = .returned (.tuple #[.agg #[.int .i64 id, .string l, .int .i64 (num5 s : Int), .int .i64 (num5 (s.extract 5 s.size) : Int), v], good]) ∧ PsO w' w.heap.size v ps ∧ (∀ p ∈ ps, p.key.size ≤ 255 ∧ p.v.Ok) ∧ ps.length ≤ 16) ∨ (edgeP id s = none ∧ e = .returned (.tuple #[.agg #[.int .i64 0, .string ⟨#[]⟩, .int .i64 0, .int .i64 0, .slice none 0 0], bad])))
theorem ex_ret {w wr : World} {t : TypeId} {a0 a1 a2 a3 a4 : Value} (e : wr.heap[w.heap.size]? = some (.cells #[a0, a1, a2, a3, a4] t)) (hb : Below w.heap.size w wr) (F : Func) (a : Act) (x y z u v r : Value) (P : Ending → World → Prop)
    (hF : F.results = #[.cell 4 35, .tmp 5]) (h4 : a.tmps[4]?.getD undef = .pointer (some ⟨w.heap.size, 0, none⟩)) (h5 : a.tmps[5]?.getD undef = r) (hd : a.defers = [])
    (h : ∀ w3, Below w.heap.size w w3 → (∀ k, k ≠ w.heap.size → w3.heap[k]? = wr.heap[k]?) → P (.returned (.tuple #[.agg #[x, y, z, u, v], r])) w3) :
    bodyPost Try.prog F P .ret a (((((wr.setCell ⟨w.heap.size, 0, none⟩ x).setCell ⟨w.heap.size, 1, none⟩ y).setCell ⟨w.heap.size, 2, none⟩ z).setCell ⟨w.heap.size, 3, none⟩ u).setCell ⟨w.heap.size, 4, none⟩ v) := by
  obtain ⟨w3, hw3⟩ : ∃ w3, w3 = ((((wr.setCell ⟨w.heap.size, 0, none⟩ x).setCell ⟨w.heap.size, 1, none⟩ y).setCell ⟨w.heap.size, 2, none⟩ z).setCell ⟨w.heap.size, 3, none⟩ u).setCell ⟨w.heap.size, 4, none⟩ v := ⟨_, rfl⟩
  have h1 := heap_setCell_same wr w.heap.size 0 _ t x e
  have h2 := heap_setCell_same _ w.heap.size 1 _ t y h1
  have h3 := heap_setCell_same _ w.heap.size 2 _ t z h2
  have h4' := heap_setCell_same _ w.heap.size 3 _ t u h3
  have h5' := heap_setCell_same _ w.heap.size 4 _ t v h4'
  have b3 := ((((hb.setCell (p := ⟨w.heap.size, 0, none⟩) (Nat.le_refl _) x).setCell (p := ⟨w.heap.size, 1, none⟩) (Nat.le_refl _) y).setCell (p := ⟨w.heap.size, 2, none⟩) (Nat.le_refl _) z).setCell (p := ⟨w.heap.size, 3, none⟩) (Nat.le_refl _) u).setCell (p := ⟨w.heap.size, 4, none⟩) (Nat.le_refl _) v
  have hk : ∀ k, k ≠ w.heap.size → w3.heap[k]? = wr.heap[k]? := fun k hk => by
    rw [hw3, heap_setCell_other _ _ _ _ hk, heap_setCell_other _ _ _ _ hk, heap_setCell_other _ _ _ _ hk, heap_setCell_other _ _ _ _ hk, heap_setCell_other _ _ _ _ hk]
  rw [← hw3] at h5' b3 ⊢
  have d0 := cell_of_blk h5' 0
  have d1 := cell_of_blk h5' 1
  have d2 := cell_of_blk h5' 2
  have d3 := cell_of_blk h5' 3
  have d4 := cell_of_blk h5' 4
  simp at d0 d1 d2 d3 d4
  clear hw3 h1 h2 h3 h4' h5'
  refine bodyPost_ret (v := .tuple #[.agg #[x, y, z, u, v], r]) ?_ hd (h w3 b3 hk)
  simp [results, hF, go_sem, h4, h5, d0, d1, d2, d3, d4]
theorem ex_retA (w : World) (F : Func) (a : Act) (x y z u v r : Value) (P : Ending → World → Prop)
    (hF : F.results = #[.cell 4 35, .tmp 5]) (h4 : a.tmps[4]?.getD undef = .pointer (some ⟨w.heap.size, 0, none⟩)) (h5 : a.tmps[5]?.getD undef = r) (hd : a.defers = [])
    (h : ∀ w3, Below w.heap.size w w3 → P (.returned (.tuple #[.agg #[x, y, z, u, v], r])) w3) :
    bodyPost Try.prog F P .ret a (w.alloc (.cells #[x, y, z, u, v] 35)) := by
  have h5' := heap_new w (.cells #[x, y, z, u, v] 35)
  have b3 := below_box w (.cells #[x, y, z, u, v] 35)
  obtain ⟨w3, hw3⟩ : ∃ w3, w3 = w.alloc (.cells #[x, y, z, u, v] 35) := ⟨_, rfl⟩
  rw [← hw3] at h5' b3 ⊢
  have d0 := cell_of_blk h5' 0
  have d1 := cell_of_blk h5' 1
  have d2 := cell_of_blk h5' 2
  have d3 := cell_of_blk h5' 3
  have d4 := cell_of_blk h5' 4
  simp at d0 d1 d2 d3 d4
  clear hw3 h5'
  refine bodyPost_ret (v := .tuple #[.agg #[x, y, z, u, v], r]) ?_ hd (h w3 b3)
  simp [results, hF, go_sem, h4, h5, d0, d1, d2, d3, d4]
set_option maxRecDepth 100000 in
set_option maxHeartbeats 4000000 in
theorem parseEdge_any (id : Int) (s : ByteArray) (w : World) (hi : I64 id) (hs : s.size ≤ 1000000) : Calls Try.prog 31 #[.int .i64 id, .string s] w (ExPost (.int .i64 0) (.int .i64 10) w id s) := by
  have HI := Lib.hid hi
  clear hi
  by_cases h10 : s.size < 10
  · have HN : Hid (edgeP id s = none) := Lib.hid (by unfold edgeP; rw [if_pos h10])
    go_enter Try.func31, Try.ntmps31
    go_wp2_with fail
    exact ex_retA w _ _ _ _ _ _ _ _ _ Try.results31 rfl rfl rfl (fun w3 h3 => ⟨h3, .inr ⟨HN.out, rfl⟩⟩)
  have HR : Hid (edgeP id s = vertexP id (s.extract 10 s.size)) := Lib.hid (by unfold edgeP; rw [if_neg h10])
  go_enter Try.func31, Try.ntmps31
  go_wp2_with fail
  have eW := heap_new w (.cells #[.int .i64 0, .string ⟨#[]⟩, .int .i64 0, .int .i64 0, .slice none 0 0] 35)
  have bW := below_box w (.cells #[.int .i64 0, .string ⟨#[]⟩, .int .i64 0, .int .i64 0, .slice none 0 0] 35)
  refine (parse_any (s.extract 10 s.size) _ (by simp; omega)).mono ?_
  rintro e w1 ⟨hb1, l, v, ok, ps, rfl, hor⟩
  have e1 := (hb1.block w.heap.size (by simp)).trans eW
  have B1 := below_then bW hb1
  have l1 : w.heap.size < w1.heap.size := (Array.getElem?_eq_some_iff.1 e1).1
  have HE1 := Lib.hid e1
  rcases hor with ⟨rfl, hp, hO, hok, h16, hls⟩ | ⟨rfl, hp⟩
  · simp at hO
    obtain ⟨pa, pc, rfl, hpv⟩ := hO.psV hok
    have HO := Lib.hid hO
    have HOK := Lib.hid hok
    have HP := Lib.hid hp
    have IV : IsV (w1.alloc (.cells #[.int .i64 id] 3)) (some ⟨w1.heap.size, 0, none⟩) [id] := ids_new (heap_new w1 _) (fun x hx => by rw [List.mem_singleton.1 hx]; exact HI.out)
    have HIV := Lib.hid IV
    have HPV := Lib.hid (hpv.below (below_box w1 (.cells #[.int .i64 id] 3)))
    clear hO hok hp IV hpv e1 eW bW hb1
    go_wp2_with fail
    refine (check_any l pa _ pc 1 ps [id] _ (by unfold maxLen; omega) HPV.out HIV.out (by omega) (by simp)).mono ?_
    rintro e w2 ⟨rfl, hb2⟩
    have hb12 := below_then (below_box w1 _) hb2
    have e2 := (hb12.block w.heap.size l1).trans HE1.out
    have HE2 := Lib.hid e2
    have HO2 := Lib.hid (HO.out.below hb12)
    have B2 := Lib.hid (below_then B1 hb12)
    have l2 : w.heap.size < w2.heap.size := (Array.getElem?_eq_some_iff.1 e2).1
    clear hb2 hb12
    by_cases hc : checkR l ps [id] = 0
    · have HN := Lib.hid (HR.out.trans (vertexP_good HP.out hc))
      rw [hc]
      clear hc e2
      have h10' : 10 ≤ s.size := by omega
      have h5 : (5 : Int) ≤ (s.size : Int) := by omega
      go_wp2_with fail
      refine wp_region_held_drew (S := (fun _ => True)) (by kernel_rfl) trivial (fun hHeld => ?_)
      have hB4 : Below w2.heap.size w2 w2.drew := (Below.refl _ _).drew
      generalize w2.drew = w4 at hB4 ⊢
      refine wpAnyH_take (i := 0) (oi := ⟨some 31, _, _, _, _, _⟩) (v := ?vvq1) rfl (by kernel_rfl) (by kernel_rfl) (by kernel_rfl) (fun _ _ _ h => h) (Or.inl ⟨by rfl, ?yyq1⟩) hHeld ?rrq1
      case yyq1 => (intro wq hSw; (try dsimp only at hSw); go_simp; first | done | with_reducible rfl)
      simp only [Act.put, List.setIfInBounds_toArray, List.set_cons_zero, List.set_cons_succ]
      refine wpAnyH_take (i := 1) (oi := ⟨some 32, _, _, _, _, _⟩) (v := ?vvq2) rfl (by kernel_rfl) (by kernel_rfl) (by kernel_rfl) (fun _ _ _ h => h) (Or.inl ⟨by rfl, ?yyq2⟩) hHeld ?rrq2
      case yyq2 => (intro wq hSw; (try dsimp only at hSw); go_simp; first | done | with_reducible rfl)
      simp only [Act.put, List.setIfInBounds_toArray, List.set_cons_zero, List.set_cons_succ]
      refine wpAnyH_take (i := 2) (oi := ⟨some 33, _, _, _, _, _⟩) (v := ?vvq3) rfl (by kernel_rfl) (by kernel_rfl) (by kernel_rfl) (fun _ _ _ h => h) (Or.inl ⟨by rfl, ?yyq3⟩) hHeld ?rrq3
      case yyq3 => (intro wq hSw; (try dsimp only at hSw); go_simp; first | done | with_reducible rfl)
      simp only [Act.put, List.setIfInBounds_toArray, List.set_cons_zero, List.set_cons_succ]
      refine wpAnyH_take (i := 4) (oi := ⟨some 35, _, _, _, _, _⟩) (v := ?vvq4) rfl (by kernel_rfl) (by kernel_rfl) (by kernel_rfl) (fun _ _ _ h => h) (Or.inl ⟨by rfl, ?yyq4⟩) hHeld ?rrq4
      case yyq4 => (intro wq hSw; (try dsimp only at hSw); go_simp; first | done | with_reducible rfl)
      simp only [Act.put, List.setIfInBounds_toArray, List.set_cons_zero, List.set_cons_succ]
      refine wpAnyH_take (i := 5) (oi := ⟨some 36, _, _, _, _, _⟩) (v := ?vvq5) rfl (by kernel_rfl) (by kernel_rfl) (by kernel_rfl) (fun _ _ _ h => h) (Or.inl ⟨by rfl, ?yyq5⟩) hHeld ?rrq5
      case yyq5 => (intro wq hSw; (try dsimp only at hSw); go_simp; first | done | with_reducible rfl)
      simp only [Act.put, List.setIfInBounds_toArray, List.set_cons_zero, List.set_cons_succ]
      refine wpAnyH_take (i := 7) (oi := ⟨some 38, _, _, _, _, _⟩) (v := ?vvq6) rfl (by kernel_rfl) (by kernel_rfl) (by kernel_rfl) (fun _ _ _ h => h) (Or.inl ⟨by rfl, ?yyq6⟩) hHeld ?rrq6
      case yyq6 => (intro wq hSw; (try dsimp only at hSw); go_simp; first | done | with_reducible rfl)
      simp only [Act.put, List.setIfInBounds_toArray, List.set_cons_zero, List.set_cons_succ]
      refine wpAnyH_ready (rs := [3]) (by kernel_rfl) (by simp) ?_
      refine AllReadyH.cons (o := ⟨some 34, _, _, _, _, _⟩) rfl (fun K hK => ?_) AllReadyH.nil
      go_simp
      refine (number5 s _ (by omega) (by unfold maxLen; omega)).mono ?_
      rintro e wa ⟨rfl, hbwa⟩
      replace hB4 := below_then hB4 hbwa
      go_wp2_with fail
      refine hK.out _ _ ?ssq7 (fun hHeld => ?_)
      case ssq7 => (exact trivial)
      clear hK K
      try simp only [Act.put, List.setIfInBounds_toArray, List.set_cons_zero, List.set_cons_succ]
      refine wpAnyH_ready (rs := [6]) (by kernel_rfl) (by simp) ?_
      refine AllReadyH.cons (o := ⟨some 37, _, _, _, _, _⟩) rfl (fun K hK => ?_) AllReadyH.nil
      go_simp
      refine (number5 (s.extract 5 s.size) _ (by simp; omega) (by simp; unfold maxLen; omega)).mono ?_
      rintro e wb ⟨rfl, hbwb⟩
      replace hB4 := below_then hB4 hbwb
      go_wp2_with fail
      refine hK.out _ _ ?ssq8 (fun hHeld => ?_)
      case ssq8 => (exact trivial)
      clear hK K
      try simp only [Act.put, List.setIfInBounds_toArray, List.set_cons_zero, List.set_cons_succ]
      refine wpAnyH_take (i := 8) (oi := ⟨some 39, _, _, _, _, _⟩) (v := ?vvq9) rfl (by kernel_rfl) (by kernel_rfl) (by kernel_rfl) (fun _ _ _ h => h) (Or.inl ⟨by rfl, ?yyq9⟩) hHeld ?rrq9
      case yyq9 => (intro wq hSw; (try dsimp only at hSw); go_simp; first | done | with_reducible rfl)
      simp only [Act.put, List.setIfInBounds_toArray, List.set_cons_zero, List.set_cons_succ]
      refine wpAnyH_ready (rs := [9]) (by kernel_rfl) (by simp) ?_
      refine AllReadyH.cons (o := ⟨none, _, _, _, _, _⟩) rfl (fun K hK => ?_) AllReadyH.nil
      have e4 := (hB4.block w.heap.size l2).trans HE2.out
      have l4 := (Array.getElem?_eq_some_iff.1 e4).1
      have f0 := frozen_of_blk e4 0
      have f1 := frozen_of_blk e4 1
      have f2 := frozen_of_blk e4 2
      have f3 := frozen_of_blk e4 3
      have f4 := frozen_of_blk e4 4
      have c0 := cell_of_blk e4 0
      have c1 := cell_of_blk e4 1
      have c2 := cell_of_blk e4 2
      have c3 := cell_of_blk e4 3
      have c4 := cell_of_blk e4 4
      simp at c0 c1 c2 c3 c4
      have HE4 := Lib.hid e4
      have HB4 := Lib.hid hB4
      clear e4
      go_simp
      refine hK.out _ _ ?ssq10 (fun hHeld => ?_)
      case ssq10 => (exact trivial)
      clear hK K
      try simp only [Act.put, List.setIfInBounds_toArray, List.set_cons_zero, List.set_cons_succ]
      refine wpAnyH_take (i := 10) (oi := ⟨some 5, _, _, _, _, _⟩) (v := ?vvq11) rfl (by kernel_rfl) (by kernel_rfl) (by kernel_rfl) (fun _ _ _ h => h) (Or.inl ⟨by rfl, ?yyq11⟩) hHeld ?rrq11
      case yyq11 => (intro wq hSw; (try dsimp only at hSw); go_simp; first | done | with_reducible rfl)
      simp only [Act.put, List.setIfInBounds_toArray, List.set_cons_zero, List.set_cons_succ]
      refine wpAnyH_done (by kernel_rfl) ?_ _
      clear hHeld
      go_wp2_with fail
      exact ex_ret HE4.out (below_then B2.out HB4.out) _ _ _ _ _ _ _ _ _ Try.results31 rfl rfl rfl (fun w3 h3 hk => ⟨h3, .inl ⟨l, ps, _, HN.out, rfl, ((HO2.out.below HB4.out).of_others (k := w.heap.size) (by omega) hk).mono (by omega), HOK.out, h16⟩⟩)
    · have HN := Lib.hid (HR.out.trans (vertexP_bad HP.out hc))
      have hc' : (checkR l ps [id] == 0) = false := by simpa using hc
      have f0 := frozen_of_blk e2 0
      have f1 := frozen_of_blk e2 1
      have f2 := frozen_of_blk e2 2
      have f3 := frozen_of_blk e2 3
      have f4 := frozen_of_blk e2 4
      have c0 := cell_of_blk e2 0
      have c1 := cell_of_blk e2 1
      have c2 := cell_of_blk e2 2
      have c3 := cell_of_blk e2 3
      have c4 := cell_of_blk e2 4
      simp at c0 c1 c2 c3 c4
      obtain ⟨k, hk⟩ : ∃ k, checkR l ps [id] = k := ⟨_, rfl⟩
      rw [hk] at hc' ⊢
      clear hc hk e2
      go_wp2_with fail
      exact ex_ret HE2.out B2.out _ _ _ _ _ _ _ _ _ Try.results31 rfl rfl rfl (fun w3 h3 _ => ⟨h3, .inr ⟨HN.out, rfl⟩⟩)
  · have HN := Lib.hid (HR.out.trans (vertexP_none hp))
    have f0 := frozen_of_blk e1 0
    have f1 := frozen_of_blk e1 1
    have f2 := frozen_of_blk e1 2
    have f3 := frozen_of_blk e1 3
    have f4 := frozen_of_blk e1 4
    have c0 := cell_of_blk e1 0
    have c1 := cell_of_blk e1 1
    have c2 := cell_of_blk e1 2
    have c3 := cell_of_blk e1 3
    have c4 := cell_of_blk e1 4
    simp at c0 c1 c2 c3 c4
    clear e1 eW bW hb1 hp
    go_wp2_with fail
    exact ex_ret HE1.out B1 _ _ _ _ _ _ _ _ _ Try.results31 rfl rfl rfl (fun w3 h3 _ => ⟨h3, .inr ⟨HN.out, rfl⟩⟩)
set_option maxRecDepth 100000 in
set_option maxHeartbeats 4000000 in
theorem r21edge_any (id : Int) (s : ByteArray) (w : World) (hi : I64 id) (hs : s.size ≤ 1000000) : Calls Try.prog 35 #[.int .i64 id, .string s] w (ExPost (.bool true) (.bool false) w id s) := by
  have HI := Lib.hid hi
  clear hi
  by_cases h10 : s.size < 10
  · have HN : Hid (edgeP id s = none) := Lib.hid (by unfold edgeP; rw [if_pos h10])
    go_enter Try.func35, Try.ntmps35
    go_wp2_with fail
    exact ex_retA w _ _ _ _ _ _ _ _ _ Try.results35 rfl rfl rfl (fun w3 h3 => ⟨h3, .inr ⟨HN.out, rfl⟩⟩)
  have HR : Hid (edgeP id s = vertexP id (s.extract 10 s.size)) := Lib.hid (by unfold edgeP; rw [if_neg h10])
  go_enter Try.func35, Try.ntmps35
  go_wp2_with fail
  have eW := heap_new w (.cells #[.int .i64 0, .string ⟨#[]⟩, .int .i64 0, .int .i64 0, .slice none 0 0] 35)
  have bW := below_box w (.cells #[.int .i64 0, .string ⟨#[]⟩, .int .i64 0, .int .i64 0, .slice none 0 0] 35)
  refine (r21b_any (s.extract 10 s.size) _ (by simp; omega)).mono ?_
  rintro e w1 ⟨hb1, l, v, ok, ps, rfl, hor⟩
  have e1 := (hb1.block w.heap.size (by simp)).trans eW
  have B1 := below_then bW hb1
  have l1 : w.heap.size < w1.heap.size := (Array.getElem?_eq_some_iff.1 e1).1
  have HE1 := Lib.hid e1
  rcases hor with ⟨rfl, hp, hO, hok, h16, hls⟩ | ⟨rfl, hp⟩
  · simp at hO
    obtain ⟨pa, pc, rfl, hpv⟩ := hO.psV hok
    have HO := Lib.hid hO
    have HOK := Lib.hid hok
    have HP := Lib.hid hp
    have IV : IsV (w1.alloc (.cells #[.int .i64 id] 3)) (some ⟨w1.heap.size, 0, none⟩) [id] := ids_new (heap_new w1 _) (fun x hx => by rw [List.mem_singleton.1 hx]; exact HI.out)
    have HIV := Lib.hid IV
    have HPV := Lib.hid (hpv.below (below_box w1 (.cells #[.int .i64 id] 3)))
    clear hO hok hp IV hpv e1 eW bW hb1
    go_wp2_with fail
    refine (r16check_any l pa _ pc 1 ps [id] _ (by omega) HPV.out HIV.out (by omega) (by simp)).mono ?_
    rintro e w2 ⟨rfl, hb2⟩
    have hb12 := below_then (below_box w1 _) hb2
    have e2 := (hb12.block w.heap.size l1).trans HE1.out
    have HE2 := Lib.hid e2
    have HO2 := Lib.hid (HO.out.below hb12)
    have B2 := Lib.hid (below_then B1 hb12)
    have l2 : w.heap.size < w2.heap.size := (Array.getElem?_eq_some_iff.1 e2).1
    clear hb2 hb12
    by_cases hc : checkR l ps [id] = 0
    · have HN := Lib.hid (HR.out.trans (vertexP_good HP.out hc))
      rw [hc]
      clear hc e2
      have h10' : 10 ≤ s.size := by omega
      have h5 : (5 : Int) ≤ (s.size : Int) := by omega
      go_wp2_with fail
      refine wp_region_held_drew (S := (fun _ => True)) (by kernel_rfl) trivial (fun hHeld => ?_)
      have hB4 : Below w2.heap.size w2 w2.drew := (Below.refl _ _).drew
      generalize w2.drew = w4 at hB4 ⊢
      refine wpAnyH_take (i := 0) (oi := ⟨some 31, _, _, _, _, _⟩) (v := ?vvp1) rfl (by kernel_rfl) (by kernel_rfl) (by kernel_rfl) (fun _ _ _ h => h) (Or.inl ⟨by rfl, ?yyp1⟩) hHeld ?rrp1
      case yyp1 => (intro wq hSw; (try dsimp only at hSw); go_simp; first | done | with_reducible rfl)
      simp only [Act.put, List.setIfInBounds_toArray, List.set_cons_zero, List.set_cons_succ]
      refine wpAnyH_take (i := 1) (oi := ⟨some 32, _, _, _, _, _⟩) (v := ?vvp2) rfl (by kernel_rfl) (by kernel_rfl) (by kernel_rfl) (fun _ _ _ h => h) (Or.inl ⟨by rfl, ?yyp2⟩) hHeld ?rrp2
      case yyp2 => (intro wq hSw; (try dsimp only at hSw); go_simp; first | done | with_reducible rfl)
      simp only [Act.put, List.setIfInBounds_toArray, List.set_cons_zero, List.set_cons_succ]
      refine wpAnyH_take (i := 2) (oi := ⟨some 33, _, _, _, _, _⟩) (v := ?vvp3) rfl (by kernel_rfl) (by kernel_rfl) (by kernel_rfl) (fun _ _ _ h => h) (Or.inl ⟨by rfl, ?yyp3⟩) hHeld ?rrp3
      case yyp3 => (intro wq hSw; (try dsimp only at hSw); go_simp; first | done | with_reducible rfl)
      simp only [Act.put, List.setIfInBounds_toArray, List.set_cons_zero, List.set_cons_succ]
      refine wpAnyH_take (i := 4) (oi := ⟨some 35, _, _, _, _, _⟩) (v := ?vvp4) rfl (by kernel_rfl) (by kernel_rfl) (by kernel_rfl) (fun _ _ _ h => h) (Or.inl ⟨by rfl, ?yyp4⟩) hHeld ?rrp4
      case yyp4 => (intro wq hSw; (try dsimp only at hSw); go_simp; first | done | with_reducible rfl)
      simp only [Act.put, List.setIfInBounds_toArray, List.set_cons_zero, List.set_cons_succ]
      refine wpAnyH_take (i := 5) (oi := ⟨some 36, _, _, _, _, _⟩) (v := ?vvp5) rfl (by kernel_rfl) (by kernel_rfl) (by kernel_rfl) (fun _ _ _ h => h) (Or.inl ⟨by rfl, ?yyp5⟩) hHeld ?rrp5
      case yyp5 => (intro wq hSw; (try dsimp only at hSw); go_simp; first | done | with_reducible rfl)
      simp only [Act.put, List.setIfInBounds_toArray, List.set_cons_zero, List.set_cons_succ]
      refine wpAnyH_take (i := 7) (oi := ⟨some 38, _, _, _, _, _⟩) (v := ?vvp6) rfl (by kernel_rfl) (by kernel_rfl) (by kernel_rfl) (fun _ _ _ h => h) (Or.inl ⟨by rfl, ?yyp6⟩) hHeld ?rrp6
      case yyp6 => (intro wq hSw; (try dsimp only at hSw); go_simp; first | done | with_reducible rfl)
      simp only [Act.put, List.setIfInBounds_toArray, List.set_cons_zero, List.set_cons_succ]
      refine wpAnyH_ready (rs := [3]) (by kernel_rfl) (by simp) ?_
      refine AllReadyH.cons (o := ⟨some 34, _, _, _, _, _⟩) rfl (fun K hK => ?_) AllReadyH.nil
      go_simp
      refine (r21number5 s _ (by omega) (by unfold maxLen; omega)).mono ?_
      rintro e wa ⟨rfl, rfl⟩
      go_wp2_with fail
      refine hK.out _ _ ?ssp7 (fun hHeld => ?_)
      case ssp7 => (exact trivial)
      clear hK K
      try simp only [Act.put, List.setIfInBounds_toArray, List.set_cons_zero, List.set_cons_succ]
      refine wpAnyH_ready (rs := [6]) (by kernel_rfl) (by simp) ?_
      refine AllReadyH.cons (o := ⟨some 37, _, _, _, _, _⟩) rfl (fun K hK => ?_) AllReadyH.nil
      go_simp
      refine (r21number5 (s.extract 5 s.size) _ (by simp; omega) (by simp; unfold maxLen; omega)).mono ?_
      rintro e wb ⟨rfl, rfl⟩
      go_wp2_with fail
      refine hK.out _ _ ?ssp8 (fun hHeld => ?_)
      case ssp8 => (exact trivial)
      clear hK K
      try simp only [Act.put, List.setIfInBounds_toArray, List.set_cons_zero, List.set_cons_succ]
      refine wpAnyH_take (i := 8) (oi := ⟨some 39, _, _, _, _, _⟩) (v := ?vvp9) rfl (by kernel_rfl) (by kernel_rfl) (by kernel_rfl) (fun _ _ _ h => h) (Or.inl ⟨by rfl, ?yyp9⟩) hHeld ?rrp9
      case yyp9 => (intro wq hSw; (try dsimp only at hSw); go_simp; first | done | with_reducible rfl)
      simp only [Act.put, List.setIfInBounds_toArray, List.set_cons_zero, List.set_cons_succ]
      refine wpAnyH_ready (rs := [9]) (by kernel_rfl) (by simp) ?_
      refine AllReadyH.cons (o := ⟨none, _, _, _, _, _⟩) rfl (fun K hK => ?_) AllReadyH.nil
      have e4 := (hB4.block w.heap.size l2).trans HE2.out
      have l4 := (Array.getElem?_eq_some_iff.1 e4).1
      have f0 := frozen_of_blk e4 0
      have f1 := frozen_of_blk e4 1
      have f2 := frozen_of_blk e4 2
      have f3 := frozen_of_blk e4 3
      have f4 := frozen_of_blk e4 4
      have c0 := cell_of_blk e4 0
      have c1 := cell_of_blk e4 1
      have c2 := cell_of_blk e4 2
      have c3 := cell_of_blk e4 3
      have c4 := cell_of_blk e4 4
      simp at c0 c1 c2 c3 c4
      have HE4 := Lib.hid e4
      have HB4 := Lib.hid hB4
      clear e4
      go_simp
      refine hK.out _ _ ?ssp10 (fun hHeld => ?_)
      case ssp10 => (exact trivial)
      clear hK K
      try simp only [Act.put, List.setIfInBounds_toArray, List.set_cons_zero, List.set_cons_succ]
      refine wpAnyH_take (i := 10) (oi := ⟨some 5, _, _, _, _, _⟩) (v := ?vvp11) rfl (by kernel_rfl) (by kernel_rfl) (by kernel_rfl) (fun _ _ _ h => h) (Or.inl ⟨by rfl, ?yyp11⟩) hHeld ?rrp11
      case yyp11 => (intro wq hSw; (try dsimp only at hSw); go_simp; first | done | with_reducible rfl)
      simp only [Act.put, List.setIfInBounds_toArray, List.set_cons_zero, List.set_cons_succ]
      refine wpAnyH_done (by kernel_rfl) ?_ _
      clear hHeld
      go_wp2_with fail
      exact ex_ret HE4.out (below_then B2.out HB4.out) _ _ _ _ _ _ _ _ _ Try.results35 rfl rfl rfl (fun w3 h3 hk => ⟨h3, .inl ⟨l, ps, _, HN.out, rfl, ((HO2.out.below HB4.out).of_others (k := w.heap.size) (by omega) hk).mono (by omega), HOK.out, h16⟩⟩)
    · have HN := Lib.hid (HR.out.trans (vertexP_bad HP.out hc))
      have hc' : (checkR l ps [id] == 0) = false := by simpa using hc
      have f0 := frozen_of_blk e2 0
      have f1 := frozen_of_blk e2 1
      have f2 := frozen_of_blk e2 2
      have f3 := frozen_of_blk e2 3
      have f4 := frozen_of_blk e2 4
      have c0 := cell_of_blk e2 0
      have c1 := cell_of_blk e2 1
      have c2 := cell_of_blk e2 2
      have c3 := cell_of_blk e2 3
      have c4 := cell_of_blk e2 4
      simp at c0 c1 c2 c3 c4
      obtain ⟨k, hk⟩ : ∃ k, checkR l ps [id] = k := ⟨_, rfl⟩
      rw [hk] at hc' ⊢
      clear hc hk e2
      go_wp2_with fail
      exact ex_ret HE2.out B2.out _ _ _ _ _ _ _ _ _ Try.results35 rfl rfl rfl (fun w3 h3 _ => ⟨h3, .inr ⟨HN.out, rfl⟩⟩)
  · have HN := Lib.hid (HR.out.trans (vertexP_none hp))
    have f0 := frozen_of_blk e1 0
    have f1 := frozen_of_blk e1 1
    have f2 := frozen_of_blk e1 2
    have f3 := frozen_of_blk e1 3
    have f4 := frozen_of_blk e1 4
    have c0 := cell_of_blk e1 0
    have c1 := cell_of_blk e1 1
    have c2 := cell_of_blk e1 2
    have c3 := cell_of_blk e1 3
    have c4 := cell_of_blk e1 4
    simp at c0 c1 c2 c3 c4
    clear e1 eW bW hb1 hp
    go_wp2_with fail
    exact ex_ret HE1.out B1 _ _ _ _ _ _ _ _ _ Try.results35 rfl rfl rfl (fun w3 h3 _ => ⟨h3, .inr ⟨HN.out, rfl⟩⟩)
end Go.Proofs.Ytcafedfldmcbiaa
