/- cobwebref03.Take. Conditions: the contract's own premises. cobwebref16.SameE of one edge beside itself; cobwebref03.Bytes. Conditions: each contract's own premises. cobwebref21.Body, cobwebref21.Entries; web.Entries of what may not be. Conditions: each contract's own premises. web.parse, cobwebref21.body. Conditions: each contract's own premises. web.ParseVertex, web.ParseEdge, cobwebref21.Vertex, cobwebref21.Edge. Conditions: each contract's own premises. WebTexts: plain laws: texts are taken as what they are of. Conditions: each lemma's own premises. -/
import Derived.Test.YtkbmipmegljidaaGreatWsU
import Derived.OneCell
namespace Go.Proofs.YtkbmipmegljidaaGreat
open Go.RowKit Go.Maps Go.Lib

end Go.Proofs.YtkbmipmegljidaaGreat
namespace Go.Proofs.YtkbmipmegljidaaGreat
open Go.RowKit Go.Maps Go.Lib

end Go.Proofs.YtkbmipmegljidaaGreat
namespace Go.Proofs.YtkbmipmegljidaaGreat
open Go.RowKit Go.Maps Go.Lib

end Go.Proofs.YtkbmipmegljidaaGreat
namespace Go.Proofs.YtkbmipmegljidaaGreat
open Go.RowKit Go.Maps Go.Lib

/-- a label and properties, of a text -/
def parseP (s : ByteArray) : Option (ByteArray × List Pr) :=
  if h : 0 < s.size then
    if s.size < 1 + s[0].toNat then none else
    match tkA (s.extract (1 + s[0].toNat) s.size).data.toList with
    | some x => if 1 + s[0].toNat + x.2 = s.size then some (s.extract 1 (1 + s[0].toNat), x.1) else none
    | none => none
  else none
def PaPost (w : World) (s : ByteArray) (e : Ending) (w' : World) : Prop :=
  Below w.heap.size w w' ∧ ∃ (l : ByteArray) (v : Value) (ok : Bool) (ps : List Pr), e = .returned (.tuple #[.string l, v, .bool ok]) ∧ ((ok = true ∧ parseP s = some (l, ps) ∧ PsO w' w.heap.size v ps ∧ (∀ p ∈ ps, p.key.size ≤ 255 ∧ p.v.Ok) ∧ ps.length ≤ 16 ∧ l.size ≤ 255) ∨ (ok = false ∧ parseP s = none))
set_option maxRecDepth 100000 in
set_option maxHeartbeats 2000000 in
theorem parse_any (s : ByteArray) (w : World) (hs : s.size ≤ 1000000) : Calls Tryz.prog 95 #[.string s] w (PaPost w s) := by
  by_cases h0 : 0 < s.size
  · obtain ⟨b, hb⟩ : ∃ b, s[0] = b := ⟨_, rfl⟩
    have hb256 : b.toNat < 256 := b.toNat_lt
    have he : (s.toList == ([] : List UInt8)) = false := by
      rw [ByteArray.toList_eq]
      cases hd : s.data.toList with
      | nil =>
        have h2 : s.size = 0 := by rw [show s.size = s.data.toList.length from rfl, hd]; rfl
        omega
      | cons => rfl
    by_cases h1 : s.size < 1 + b.toNat
    · have HN : Hid (parseP s = none) := Lib.hid (by unfold parseP; rw [dif_pos h0, hb, if_pos h1])
      go_enter Tryz.func95, Tryz.ntmps95
      go_wp2_with fail
      go_ret3
      exact ⟨Below.refl _ _, _, _, false, [], rfl, .inr ⟨rfl, HN.out⟩⟩
    · obtain ⟨t, ht⟩ : ∃ t, s.extract (1 + b.toNat) s.size = t := ⟨_, rfl⟩
      have hts : t.size = s.size - (1 + b.toNat) := by rw [← ht]; simp
      have HP : Hid (parseP s = match tkA t.data.toList with
        | some x => if 1 + b.toNat + x.2 = s.size then some (s.extract 1 (1 + b.toNat), x.1) else none
        | none => none) := Lib.hid (by unfold parseP; rw [dif_pos h0, hb, if_neg h1, ht])
      have hlx : (s.extract 1 (1 + b.toNat)).size ≤ 255 := by simp; omega
      have HLX := Lib.hid hlx
      clear hlx
      go_enter Tryz.func95, Tryz.ntmps95
      go_wp2_with (first | (refine wpList_toBytes _ rfl (.tmp 27) rfl _ rfl ?_; intro w1 cap hb1 bel z1 hcap) | fail)
      try rw [ht] at hb1 hcap
      have hpt := ptake_any w.heap.size 0 cap t.data.toList w1 hb1 (by rw [show t.data.toList.length = t.size from rfl]; omega) (by rw [show t.data.toList.length = t.size from rfl]; exact hcap)
      rw [show t.data.toList.length = t.size from rfl, hts] at hpt
      try (rw [show s.size - (b.toNat + 1) = s.size - (1 + b.toNat) by omega])
      refine hpt.mono ?_
      rintro e w2 ⟨hb2, v, n, k, ps, rfl, hor⟩
      have hB2 := below_then bel hb2
      have HX := Lib.hid ht
      clear hpt hb1 hb2
      rcases hor with ⟨rfl, hA, hO⟩ | ⟨hkk, hA, rfl⟩
      · obtain ⟨hok, h16, hnl⟩ := tkA_ok hA
        have hnt : n ≤ t.size := hnl
        have HO := Lib.hid (hO.mono (B' := w.heap.size) bel.size)
        have HOK := Lib.hid hok
        by_cases hq : 1 + b.toNat + n = s.size
        · have HN : Hid (parseP s = some (s.extract 1 (1 + b.toNat), ps)) := Lib.hid (by rw [HP.out, hA]; simp only []; rw [if_pos hq])
          have ht1 : ((1 : Int) + (b.toNat : Int) + (n : Int) == (s.size : Int)) = true := by simp; omega
          clear hA hO hq hok hnl HX ht
          go_wp2_with fail
          go_ret3
          exact ⟨hB2, _, _, true, ps, rfl, .inl ⟨rfl, HN.out, HO.out, HOK.out, h16, HLX.out⟩⟩
        · have HN : Hid (parseP s = none) := Lib.hid (by rw [HP.out, hA]; simp only []; rw [if_neg hq])
          have ht1 : ((1 : Int) + (b.toNat : Int) + (n : Int) == (s.size : Int)) = false := by simp; omega
          clear hA hO hq hok hnl HX ht
          go_wp2_with fail
          go_ret3
          exact ⟨hB2, _, _, false, [], rfl, .inr ⟨rfl, HN.out⟩⟩
      · have HN : Hid (parseP s = none) := Lib.hid (by rw [HP.out, hA])
        have hk' : (k == 0) = false := by simpa using hkk
        clear hA hkk HX ht
        go_wp2_with fail
        go_ret3
        exact ⟨hB2, _, _, false, [], rfl, .inr ⟨rfl, HN.out⟩⟩
  · have hse : s = ⟨#[]⟩ := by
      apply ByteArray.ext
      apply Array.ext'
      exact List.eq_nil_of_length_eq_zero (show s.size = 0 by omega)
    subst hse
    have HN : Hid (parseP ⟨#[]⟩ = none) := Lib.hid rfl
    clear h0
    go_enter Tryz.func95, Tryz.ntmps95
    go_wp2_with fail
    go_ret3
    exact ⟨Below.refl _ _, _, _, false, [], rfl, .inr ⟨rfl, HN.out⟩⟩
end Go.Proofs.YtkbmipmegljidaaGreat
namespace Go.Proofs.YtkbmipmegljidaaGreat
open Go.RowKit Go.Maps Go.Lib

/-- a vertex's label and properties, of a text -/
noncomputable def vertexP (id : Int) (s : ByteArray) : Option (ByteArray × List Pr) := match parseP s with
  | some x => if checkR x.1 x.2 [id] = 0 then some x else none
  | none => none
theorem vertexP_none {id : Int} {s : ByteArray} (h : parseP s = none) : vertexP id s = none := by unfold vertexP; rw [h]
theorem vertexP_bad {id : Int} {s : ByteArray} {l : ByteArray} {ps : List Pr} (h : parseP s = some (l, ps)) (hc : checkR l ps [id] ≠ 0) : vertexP id s = none := by unfold vertexP; rw [h]; simp only []; rw [if_neg hc]
theorem vertexP_good {id : Int} {s : ByteArray} {l : ByteArray} {ps : List Pr} (h : parseP s = some (l, ps)) (hc : checkR l ps [id] = 0) : vertexP id s = some (l, ps) := by unfold vertexP; rw [h]; simp only []; rw [if_pos hc]
def PvPost (good bad : Value) (w : World) (id : Int) (o : Option (ByteArray × List Pr)) (e : Ending) (w' : World) : Prop :=
  Below w.heap.size w w' ∧ ((∃ (l : ByteArray) (ps : List Pr) (v : Value), o = some (l, ps) ∧ e = .returned (.tuple #[.agg #[.int .i64 id, .string l, v], good]) ∧ PsO w' w.heap.size v ps ∧ (∀ p ∈ ps, p.key.size ≤ 255 ∧ p.v.Ok) ∧ ps.length ≤ 16) ∨ (o = none ∧ e = .returned (.tuple #[.agg #[.int .i64 0, .string ⟨#[]⟩, .slice none 0 0], bad])))
theorem vx_ret {w wr : World} {t : TypeId} {a0 a1 a2 : Value} (e : wr.heap[w.heap.size]? = some (.cells #[a0, a1, a2] t)) (hb : Below w.heap.size w wr) (F : Func) (a : Act) (x y z r : Value) (P : Ending → World → Prop)
    (hF : F.results = #[.cell 4 30, .tmp 5]) (h4 : a.tmps[4]?.getD undef = .pointer (some ⟨w.heap.size, 0, none⟩)) (h5 : a.tmps[5]?.getD undef = r) (hd : a.defers = [])
    (h : ∀ w3, Below w.heap.size w w3 → (∀ k, k ≠ w.heap.size → w3.heap[k]? = wr.heap[k]?) → P (.returned (.tuple #[.agg #[x, y, z], r])) w3) :
    bodyPost Tryz.prog F P .ret a (((wr.setCell ⟨w.heap.size, 0, none⟩ x).setCell ⟨w.heap.size, 1, none⟩ y).setCell ⟨w.heap.size, 2, none⟩ z) := by
  obtain ⟨w3, hw3⟩ : ∃ w3, w3 = ((wr.setCell ⟨w.heap.size, 0, none⟩ x).setCell ⟨w.heap.size, 1, none⟩ y).setCell ⟨w.heap.size, 2, none⟩ z := ⟨_, rfl⟩
  obtain ⟨b3, d0, d1, d2⟩ := set3 e hb _ _ _ w3 hw3
  have hk : ∀ k, k ≠ w.heap.size → w3.heap[k]? = wr.heap[k]? := fun k hk => by
    rw [hw3, heap_setCell_other _ _ _ _ hk, heap_setCell_other _ _ _ _ hk, heap_setCell_other _ _ _ _ hk]
  rw [← hw3]
  clear hw3
  refine bodyPost_ret (v := .tuple #[.agg #[x, y, z], r]) ?_ hd (h w3 b3 hk)
  simp [results, hF, go_sem, h4, h5, d0, d1, d2]
theorem PsO.of_others {w w' : World} {B : Nat} {v : Value} {l : List Pr} (h : PsO w B v l) {k : Nat} (hk : k < B) (hb : ∀ j, j ≠ k → w'.heap[j]? = w.heap[j]?) : PsO w' B v l :=
  ownsRow_of_block h (fun g hg => hb g (by have := (h.lt g hg).1; omega))
set_option maxRecDepth 100000 in
set_option maxHeartbeats 2000000 in
theorem parseVertex_any (id : Int) (s : ByteArray) (w : World) (hi : I64 id) (hs : s.size ≤ 1000000) : Calls Tryz.prog 57 #[.int .i64 id, .string s] w (PvPost (.int .i64 0) (.int .i64 10) w id (vertexP id s)) := by
  have HI := Lib.hid hi
  obtain ⟨R, hR⟩ : ∃ R, R = vertexP id s := ⟨_, rfl⟩
  rw [← hR]
  have HR := Lib.hid hR
  clear hi hR
  go_enter Tryz.func57, Tryz.ntmps57
  go_wp2_with fail
  have eW := heap_new w (.cells #[.int .i64 0, .string ⟨#[]⟩, .slice none 0 0] 30)
  have bW := below_box w (.cells #[.int .i64 0, .string ⟨#[]⟩, .slice none 0 0] 30)
  refine (parse_any s _ hs).mono ?_
  rintro e w1 ⟨hb1, l, v, ok, ps, rfl, hor⟩
  have e1 := (hb1.block w.heap.size (by simp)).trans eW
  have B1 := below_then bW hb1
  have l1 : w.heap.size < w1.heap.size := (Array.getElem?_eq_some_iff.1 e1).1
  have HE1 := Lib.hid e1
  rcases hor with ⟨rfl, hp, hO, hok, h16, hls⟩ | ⟨rfl, hp⟩
  · simp at hO
    obtain ⟨pa, pc, rfl, hpv⟩ := hO.psV hok
    have HO := Lib.hid hO
    have HOK := Lib.hid hok
    have HP := Lib.hid hp
    have IV : IsV (w1.alloc (.cells #[.int .i64 id] 3)) (some ⟨w1.heap.size, 0, none⟩) [id] := ids_new (heap_new w1 _) (fun x hx => by rw [List.mem_singleton.1 hx]; exact HI.out)
    have HIV := Lib.hid IV
    have HPV := Lib.hid (hpv.below (below_box w1 (.cells #[.int .i64 id] 3)))
    clear hO hok hp IV hpv e1 eW bW hb1
    go_wp2_with fail
    refine (check_any l pa _ pc 1 ps [id] _ (by unfold maxLen; omega) HPV.out HIV.out (by omega) (by simp)).mono ?_
    rintro e w2 ⟨rfl, hb2⟩
    have hb12 := below_then (below_box w1 _) hb2
    have e2 := (hb12.block w.heap.size l1).trans HE1.out
    have HE2 := Lib.hid e2
    have HO2 := Lib.hid (HO.out.below hb12)
    have B2 := Lib.hid (below_then B1 hb12)
    have l2 : w.heap.size < w2.heap.size := (Array.getElem?_eq_some_iff.1 e2).1
    have f0 := frozen_of_blk e2 0
    have f1 := frozen_of_blk e2 1
    have f2 := frozen_of_blk e2 2
    have c0 := cell_of_blk e2 0
    have c1 := cell_of_blk e2 1
    have c2 := cell_of_blk e2 2
    simp at c0 c1 c2
    clear e2 hb2 hb12
    by_cases hc : checkR l ps [id] = 0
    · have HN := Lib.hid (HR.out.trans (vertexP_good HP.out hc))
      rw [hc]
      clear hc
      go_wp2_with fail
      exact vx_ret HE2.out B2.out _ _ _ _ _ _ _ Tryz.results57 rfl rfl rfl (fun w3 h3 hk => ⟨h3, .inl ⟨l, ps, _, HN.out, rfl, (HO2.out.of_others (k := w.heap.size) (by omega) hk).mono (by omega), HOK.out, h16⟩⟩)
    · have HN := Lib.hid (HR.out.trans (vertexP_bad HP.out hc))
      have hc' : (checkR l ps [id] == 0) = false := by simpa using hc
      obtain ⟨k, hk⟩ : ∃ k, checkR l ps [id] = k := ⟨_, rfl⟩
      rw [hk] at hc' ⊢
      clear hc hk
      go_wp2_with fail
      exact vx_ret HE2.out B2.out _ _ _ _ _ _ _ Tryz.results57 rfl rfl rfl (fun w3 h3 _ => ⟨h3, .inr ⟨HN.out, rfl⟩⟩)
  · have HN := Lib.hid (HR.out.trans (vertexP_none hp))
    have f0 := frozen_of_blk e1 0
    have f1 := frozen_of_blk e1 1
    have f2 := frozen_of_blk e1 2
    have c0 := cell_of_blk e1 0
    have c1 := cell_of_blk e1 1
    have c2 := cell_of_blk e1 2
    simp at c0 c1 c2
    clear e1 eW bW hb1 hp
    go_wp2_with fail
    exact vx_ret HE1.out B1 _ _ _ _ _ _ _ Tryz.results57 rfl rfl rfl (fun w3 h3 _ => ⟨h3, .inr ⟨HN.out, rfl⟩⟩)
/-- an edge's parts, of a text -/
noncomputable def edgeP (id : Int) (s : ByteArray) : Option (ByteArray × List Pr) := if s.size < 10 then none else vertexP id (s.extract 10 s.size)
def ExPost (good bad : Value) (w : World) (id : Int) (s : ByteArray) (e : Ending) (w' : World) : Prop :=
  Below w.heap.size w w' ∧ ((∃ (l : ByteArray) (ps : List Pr) (v : Value), edgeP id s = some (l, ps) ∧ e = .returned (.tuple #[.agg #[.int .i64 id, .string l, .int .i64 (num5 s : Int), .int .i64 (num5 (s.extract 5 s.size) : Int), v], good]) ∧ PsO w' w.heap.size v ps ∧ (∀ p ∈ ps, p.key.size ≤ 255 ∧ p.v.Ok) ∧ ps.length ≤ 16) ∨ (edgeP id s = none ∧ e = .returned (.tuple #[.agg #[.int .i64 0, .string ⟨#[]⟩, .int .i64 0, .int .i64 0, .slice none 0 0], bad])))
theorem ex_ret {w wr : World} {t : TypeId} {a0 a1 a2 a3 a4 : Value} (e : wr.heap[w.heap.size]? = some (.cells #[a0, a1, a2, a3, a4] t)) (hb : Below w.heap.size w wr) (F : Func) (a : Act) (x y z u v r : Value) (P : Ending → World → Prop)
    (hF : F.results = #[.cell 4 32, .tmp 5]) (h4 : a.tmps[4]?.getD undef = .pointer (some ⟨w.heap.size, 0, none⟩)) (h5 : a.tmps[5]?.getD undef = r) (hd : a.defers = [])
    (h : ∀ w3, Below w.heap.size w w3 → (∀ k, k ≠ w.heap.size → w3.heap[k]? = wr.heap[k]?) → P (.returned (.tuple #[.agg #[x, y, z, u, v], r])) w3) :
    bodyPost Tryz.prog F P .ret a (((((wr.setCell ⟨w.heap.size, 0, none⟩ x).setCell ⟨w.heap.size, 1, none⟩ y).setCell ⟨w.heap.size, 2, none⟩ z).setCell ⟨w.heap.size, 3, none⟩ u).setCell ⟨w.heap.size, 4, none⟩ v) := by
  obtain ⟨w3, hw3⟩ : ∃ w3, w3 = ((((wr.setCell ⟨w.heap.size, 0, none⟩ x).setCell ⟨w.heap.size, 1, none⟩ y).setCell ⟨w.heap.size, 2, none⟩ z).setCell ⟨w.heap.size, 3, none⟩ u).setCell ⟨w.heap.size, 4, none⟩ v := ⟨_, rfl⟩
  have h1 := heap_setCell_same wr w.heap.size 0 _ t x e
  have h2 := heap_setCell_same _ w.heap.size 1 _ t y h1
  have h3 := heap_setCell_same _ w.heap.size 2 _ t z h2
  have h4' := heap_setCell_same _ w.heap.size 3 _ t u h3
  have h5' := heap_setCell_same _ w.heap.size 4 _ t v h4'
  have b3 := ((((hb.setCell (p := ⟨w.heap.size, 0, none⟩) (Nat.le_refl _) x).setCell (p := ⟨w.heap.size, 1, none⟩) (Nat.le_refl _) y).setCell (p := ⟨w.heap.size, 2, none⟩) (Nat.le_refl _) z).setCell (p := ⟨w.heap.size, 3, none⟩) (Nat.le_refl _) u).setCell (p := ⟨w.heap.size, 4, none⟩) (Nat.le_refl _) v
  have hk : ∀ k, k ≠ w.heap.size → w3.heap[k]? = wr.heap[k]? := fun k hk => by
    rw [hw3, heap_setCell_other _ _ _ _ hk, heap_setCell_other _ _ _ _ hk, heap_setCell_other _ _ _ _ hk, heap_setCell_other _ _ _ _ hk, heap_setCell_other _ _ _ _ hk]
  rw [← hw3] at h5' b3 ⊢
  have d0 := cell_of_blk h5' 0
  have d1 := cell_of_blk h5' 1
  have d2 := cell_of_blk h5' 2
  have d3 := cell_of_blk h5' 3
  have d4 := cell_of_blk h5' 4
  simp at d0 d1 d2 d3 d4
  clear hw3 h1 h2 h3 h4' h5'
  refine bodyPost_ret (v := .tuple #[.agg #[x, y, z, u, v], r]) ?_ hd (h w3 b3 hk)
  simp [results, hF, go_sem, h4, h5, d0, d1, d2, d3, d4]
theorem ex_retA (w : World) (F : Func) (a : Act) (x y z u v r : Value) (P : Ending → World → Prop)
    (hF : F.results = #[.cell 4 32, .tmp 5]) (h4 : a.tmps[4]?.getD undef = .pointer (some ⟨w.heap.size, 0, none⟩)) (h5 : a.tmps[5]?.getD undef = r) (hd : a.defers = [])
    (h : ∀ w3, Below w.heap.size w w3 → P (.returned (.tuple #[.agg #[x, y, z, u, v], r])) w3) :
    bodyPost Tryz.prog F P .ret a (w.alloc (.cells #[x, y, z, u, v] 32)) := by
  have h5' := heap_new w (.cells #[x, y, z, u, v] 32)
  have b3 := below_box w (.cells #[x, y, z, u, v] 32)
  obtain ⟨w3, hw3⟩ : ∃ w3, w3 = w.alloc (.cells #[x, y, z, u, v] 32) := ⟨_, rfl⟩
  rw [← hw3] at h5' b3 ⊢
  have d0 := cell_of_blk h5' 0
  have d1 := cell_of_blk h5' 1
  have d2 := cell_of_blk h5' 2
  have d3 := cell_of_blk h5' 3
  have d4 := cell_of_blk h5' 4
  simp at d0 d1 d2 d3 d4
  clear hw3 h5'
  refine bodyPost_ret (v := .tuple #[.agg #[x, y, z, u, v], r]) ?_ hd (h w3 b3)
  simp [results, hF, go_sem, h4, h5, d0, d1, d2, d3, d4]
set_option maxRecDepth 100000 in
set_option maxHeartbeats 4000000 in
theorem parseEdge_any (id : Int) (s : ByteArray) (w : World) (hi : I64 id) (hs : s.size ≤ 1000000) : Calls Tryz.prog 59 #[.int .i64 id, .string s] w (ExPost (.int .i64 0) (.int .i64 10) w id s) := by
  have HI := Lib.hid hi
  clear hi
  by_cases h10 : s.size < 10
  · have HN : Hid (edgeP id s = none) := Lib.hid (by unfold edgeP; rw [if_pos h10])
    go_enter Tryz.func59, Tryz.ntmps59
    go_wp2_with fail
    exact ex_retA w _ _ _ _ _ _ _ _ _ Tryz.results59 rfl rfl rfl (fun w3 h3 => ⟨h3, .inr ⟨HN.out, rfl⟩⟩)
  have HR : Hid (edgeP id s = vertexP id (s.extract 10 s.size)) := Lib.hid (by unfold edgeP; rw [if_neg h10])
  go_enter Tryz.func59, Tryz.ntmps59
  go_wp2_with fail
  have eW := heap_new w (.cells #[.int .i64 0, .string ⟨#[]⟩, .int .i64 0, .int .i64 0, .slice none 0 0] 32)
  have bW := below_box w (.cells #[.int .i64 0, .string ⟨#[]⟩, .int .i64 0, .int .i64 0, .slice none 0 0] 32)
  refine (parse_any (s.extract 10 s.size) _ (by simp; omega)).mono ?_
  rintro e w1 ⟨hb1, l, v, ok, ps, rfl, hor⟩
  have e1 := (hb1.block w.heap.size (by simp)).trans eW
  have B1 := below_then bW hb1
  have l1 : w.heap.size < w1.heap.size := (Array.getElem?_eq_some_iff.1 e1).1
  have HE1 := Lib.hid e1
  rcases hor with ⟨rfl, hp, hO, hok, h16, hls⟩ | ⟨rfl, hp⟩
  · simp at hO
    obtain ⟨pa, pc, rfl, hpv⟩ := hO.psV hok
    have HO := Lib.hid hO
    have HOK := Lib.hid hok
    have HP := Lib.hid hp
    have IV : IsV (w1.alloc (.cells #[.int .i64 id] 3)) (some ⟨w1.heap.size, 0, none⟩) [id] := ids_new (heap_new w1 _) (fun x hx => by rw [List.mem_singleton.1 hx]; exact HI.out)
    have HIV := Lib.hid IV
    have HPV := Lib.hid (hpv.below (below_box w1 (.cells #[.int .i64 id] 3)))
    clear hO hok hp IV hpv e1 eW bW hb1
    go_wp2_with fail
    refine (check_any l pa _ pc 1 ps [id] _ (by unfold maxLen; omega) HPV.out HIV.out (by omega) (by simp)).mono ?_
    rintro e w2 ⟨rfl, hb2⟩
    have hb12 := below_then (below_box w1 _) hb2
    have e2 := (hb12.block w.heap.size l1).trans HE1.out
    have HE2 := Lib.hid e2
    have HO2 := Lib.hid (HO.out.below hb12)
    have B2 := Lib.hid (below_then B1 hb12)
    have l2 : w.heap.size < w2.heap.size := (Array.getElem?_eq_some_iff.1 e2).1
    clear hb2 hb12
    by_cases hc : checkR l ps [id] = 0
    · have HN := Lib.hid (HR.out.trans (vertexP_good HP.out hc))
      rw [hc]
      clear hc e2
      have h10' : 10 ≤ s.size := by omega
      have h5 : (5 : Int) ≤ (s.size : Int) := by omega
      go_wp2_with fail
      refine wp_region_held_drew (S := (fun _ => True)) (by kernel_rfl) trivial (fun hHeld => ?_)
      have hB4 : Below w2.heap.size w2 w2.drew := (Below.refl _ _).drew
      generalize w2.drew = w4 at hB4 ⊢
      refine wpAnyH_take (i := 0) (oi := ⟨some 31, _, _, _, _, _⟩) (v := ?vvq1) rfl (by kernel_rfl) (by kernel_rfl) (by kernel_rfl) (fun _ _ _ h => h) (Or.inl ⟨by rfl, ?yyq1⟩) hHeld ?rrq1
      case yyq1 => (intro wq hSw; (try dsimp only at hSw); go_simp; first | done | with_reducible rfl)
      simp only [Act.put, List.setIfInBounds_toArray, List.set_cons_zero, List.set_cons_succ]
      refine wpAnyH_take (i := 1) (oi := ⟨some 32, _, _, _, _, _⟩) (v := ?vvq2) rfl (by kernel_rfl) (by kernel_rfl) (by kernel_rfl) (fun _ _ _ h => h) (Or.inl ⟨by rfl, ?yyq2⟩) hHeld ?rrq2
      case yyq2 => (intro wq hSw; (try dsimp only at hSw); go_simp; first | done | with_reducible rfl)
      simp only [Act.put, List.setIfInBounds_toArray, List.set_cons_zero, List.set_cons_succ]
      refine wpAnyH_take (i := 2) (oi := ⟨some 33, _, _, _, _, _⟩) (v := ?vvq3) rfl (by kernel_rfl) (by kernel_rfl) (by kernel_rfl) (fun _ _ _ h => h) (Or.inl ⟨by rfl, ?yyq3⟩) hHeld ?rrq3
      case yyq3 => (intro wq hSw; (try dsimp only at hSw); go_simp; first | done | with_reducible rfl)
      simp only [Act.put, List.setIfInBounds_toArray, List.set_cons_zero, List.set_cons_succ]
      refine wpAnyH_take (i := 4) (oi := ⟨some 35, _, _, _, _, _⟩) (v := ?vvq4) rfl (by kernel_rfl) (by kernel_rfl) (by kernel_rfl) (fun _ _ _ h => h) (Or.inl ⟨by rfl, ?yyq4⟩) hHeld ?rrq4
      case yyq4 => (intro wq hSw; (try dsimp only at hSw); go_simp; first | done | with_reducible rfl)
      simp only [Act.put, List.setIfInBounds_toArray, List.set_cons_zero, List.set_cons_succ]
      refine wpAnyH_take (i := 5) (oi := ⟨some 36, _, _, _, _, _⟩) (v := ?vvq5) rfl (by kernel_rfl) (by kernel_rfl) (by kernel_rfl) (fun _ _ _ h => h) (Or.inl ⟨by rfl, ?yyq5⟩) hHeld ?rrq5
      case yyq5 => (intro wq hSw; (try dsimp only at hSw); go_simp; first | done | with_reducible rfl)
      simp only [Act.put, List.setIfInBounds_toArray, List.set_cons_zero, List.set_cons_succ]
      refine wpAnyH_take (i := 7) (oi := ⟨some 38, _, _, _, _, _⟩) (v := ?vvq6) rfl (by kernel_rfl) (by kernel_rfl) (by kernel_rfl) (fun _ _ _ h => h) (Or.inl ⟨by rfl, ?yyq6⟩) hHeld ?rrq6
      case yyq6 => (intro wq hSw; (try dsimp only at hSw); go_simp; first | done | with_reducible rfl)
      simp only [Act.put, List.setIfInBounds_toArray, List.set_cons_zero, List.set_cons_succ]
      refine wpAnyH_ready (rs := [3]) (by kernel_rfl) (by simp) ?_
      refine AllReadyH.cons (o := ⟨some 34, _, _, _, _, _⟩) rfl (fun K hK => ?_) AllReadyH.nil
      go_simp
      refine (number5 s _ (by omega) (by unfold maxLen; omega)).mono ?_
      rintro e wa ⟨rfl, hbwa⟩
      replace hB4 := below_then hB4 hbwa
      go_wp2_with fail
      refine hK.out _ _ ?ssq7 (fun hHeld => ?_)
      case ssq7 => (exact trivial)
      clear hK K
      try simp only [Act.put, List.setIfInBounds_toArray, List.set_cons_zero, List.set_cons_succ]
      refine wpAnyH_ready (rs := [6]) (by kernel_rfl) (by simp) ?_
      refine AllReadyH.cons (o := ⟨some 37, _, _, _, _, _⟩) rfl (fun K hK => ?_) AllReadyH.nil
      go_simp
      refine (number5 (s.extract 5 s.size) _ (by simp; omega) (by simp; unfold maxLen; omega)).mono ?_
      rintro e wb ⟨rfl, hbwb⟩
      replace hB4 := below_then hB4 hbwb
      go_wp2_with fail
      refine hK.out _ _ ?ssq8 (fun hHeld => ?_)
      case ssq8 => (exact trivial)
      clear hK K
      try simp only [Act.put, List.setIfInBounds_toArray, List.set_cons_zero, List.set_cons_succ]
      refine wpAnyH_take (i := 8) (oi := ⟨some 39, _, _, _, _, _⟩) (v := ?vvq9) rfl (by kernel_rfl) (by kernel_rfl) (by kernel_rfl) (fun _ _ _ h => h) (Or.inl ⟨by rfl, ?yyq9⟩) hHeld ?rrq9
      case yyq9 => (intro wq hSw; (try dsimp only at hSw); go_simp; first | done | with_reducible rfl)
      simp only [Act.put, List.setIfInBounds_toArray, List.set_cons_zero, List.set_cons_succ]
      refine wpAnyH_ready (rs := [9]) (by kernel_rfl) (by simp) ?_
      refine AllReadyH.cons (o := ⟨none, _, _, _, _, _⟩) rfl (fun K hK => ?_) AllReadyH.nil
      have e4 := (hB4.block w.heap.size l2).trans HE2.out
      have l4 := (Array.getElem?_eq_some_iff.1 e4).1
      have f0 := frozen_of_blk e4 0
      have f1 := frozen_of_blk e4 1
      have f2 := frozen_of_blk e4 2
      have f3 := frozen_of_blk e4 3
      have f4 := frozen_of_blk e4 4
      have c0 := cell_of_blk e4 0
      have c1 := cell_of_blk e4 1
      have c2 := cell_of_blk e4 2
      have c3 := cell_of_blk e4 3
      have c4 := cell_of_blk e4 4
      simp at c0 c1 c2 c3 c4
      have HE4 := Lib.hid e4
      have HB4 := Lib.hid hB4
      clear e4
      go_simp
      refine hK.out _ _ ?ssq10 (fun hHeld => ?_)
      case ssq10 => (exact trivial)
      clear hK K
      try simp only [Act.put, List.setIfInBounds_toArray, List.set_cons_zero, List.set_cons_succ]
      refine wpAnyH_take (i := 10) (oi := ⟨some 5, _, _, _, _, _⟩) (v := ?vvq11) rfl (by kernel_rfl) (by kernel_rfl) (by kernel_rfl) (fun _ _ _ h => h) (Or.inl ⟨by rfl, ?yyq11⟩) hHeld ?rrq11
      case yyq11 => (intro wq hSw; (try dsimp only at hSw); go_simp; first | done | with_reducible rfl)
      simp only [Act.put, List.setIfInBounds_toArray, List.set_cons_zero, List.set_cons_succ]
      refine wpAnyH_done (by kernel_rfl) ?_ _
      clear hHeld
      go_wp2_with fail
      exact ex_ret HE4.out (below_then B2.out HB4.out) _ _ _ _ _ _ _ _ _ Tryz.results59 rfl rfl rfl (fun w3 h3 hk => ⟨h3, .inl ⟨l, ps, _, HN.out, rfl, ((HO2.out.below HB4.out).of_others (k := w.heap.size) (by omega) hk).mono (by omega), HOK.out, h16⟩⟩)
    · have HN := Lib.hid (HR.out.trans (vertexP_bad HP.out hc))
      have hc' : (checkR l ps [id] == 0) = false := by simpa using hc
      have f0 := frozen_of_blk e2 0
      have f1 := frozen_of_blk e2 1
      have f2 := frozen_of_blk e2 2
      have f3 := frozen_of_blk e2 3
      have f4 := frozen_of_blk e2 4
      have c0 := cell_of_blk e2 0
      have c1 := cell_of_blk e2 1
      have c2 := cell_of_blk e2 2
      have c3 := cell_of_blk e2 3
      have c4 := cell_of_blk e2 4
      simp at c0 c1 c2 c3 c4
      obtain ⟨k, hk⟩ : ∃ k, checkR l ps [id] = k := ⟨_, rfl⟩
      rw [hk] at hc' ⊢
      clear hc hk e2
      go_wp2_with fail
      exact ex_ret HE2.out B2.out _ _ _ _ _ _ _ _ _ Tryz.results59 rfl rfl rfl (fun w3 h3 _ => ⟨h3, .inr ⟨HN.out, rfl⟩⟩)
  · have HN := Lib.hid (HR.out.trans (vertexP_none hp))
    have f0 := frozen_of_blk e1 0
    have f1 := frozen_of_blk e1 1
    have f2 := frozen_of_blk e1 2
    have f3 := frozen_of_blk e1 3
    have f4 := frozen_of_blk e1 4
    have c0 := cell_of_blk e1 0
    have c1 := cell_of_blk e1 1
    have c2 := cell_of_blk e1 2
    have c3 := cell_of_blk e1 3
    have c4 := cell_of_blk e1 4
    simp at c0 c1 c2 c3 c4
    clear e1 eW bW hb1 hp
    go_wp2_with fail
    exact ex_ret HE1.out B1 _ _ _ _ _ _ _ _ _ Tryz.results59 rfl rfl rfl (fun w3 h3 _ => ⟨h3, .inr ⟨HN.out, rfl⟩⟩)
end Go.Proofs.YtkbmipmegljidaaGreat
namespace Go.Proofs.YtkbmipmegljidaaGreat
open Go.RowKit Go.Maps Go.Lib

theorem u8_of {n : Nat} (h : n < 256) : (UInt8.ofNat n).toNat = n := by simp; omega
theorem ba_eta (a : ByteArray) : (⟨a.data.toList.toArray⟩ : ByteArray) = a := rfl
theorem tkP_bytes : ∀ (rest acc : List Pr) (n : Nat), (∀ p ∈ rest, p.key.size ≤ 200 ∧ p.v.Ok ∧ p.v.right = true ∧ badS p.key = false) → (∀ i, okAt (acc ++ rest) i) →
    tkP rest.length acc (psB rest) n = some (acc ++ rest, n + (psB rest).length)
  | [], acc, n, _, _ => by rw [List.length_nil, tkP_zero]; simp [psB]
  | p :: rest, acc, n, hp, ho => by
    obtain ⟨hk, hv, hr, hb⟩ := hp p (by simp)
    have hkn : (UInt8.ofNat p.key.size).toNat = p.key.size := u8_of (by omega)
    have hps : psB (p :: rest) = UInt8.ofNat p.key.size :: (p.key.data.toList ++ (p.v.bytes ++ psB rest)) := by simp [psB, Pr.bytes]
    have htk : (p.key.data.toList ++ (p.v.bytes ++ psB rest)).take p.key.size = p.key.data.toList := by
      rw [List.take_append_of_le_length (by rw [ba_len]; exact Nat.le_refl _)]
      exact List.take_of_length_le (by rw [ba_len]; exact Nat.le_refl _)
    have hdk : (p.key.data.toList ++ (p.v.bytes ++ psB rest)).drop p.key.size = p.v.bytes ++ psB rest := by
      conv => lhs; rw [← ba_len p.key]
      exact List.drop_left
    rw [hps, List.length_cons]
    rw [tkP_step (v := p.v) (m := p.v.bytes.length) (by rw [hkn]; simp) (by rw [hkn, htk, ba_eta]; exact hb) ?_ (by rw [hkn, hdk]; exact tkV_bytes hv hr _)]
    · rw [hkn, htk, ba_eta, ← List.drop_drop, hdk, List.drop_left]
      have e : acc ++ [⟨p.key, p.v⟩] = acc ++ [p] := rfl
      rw [e, tkP_bytes rest (acc ++ [p]) _ (fun q hq => hp q (by simp [hq])) (fun i => by rw [List.append_assoc]; exact ho i)]
      simp
      omega
    · rw [hkn, htk, ba_eta]
      unfold lateK
      cases hl : acc.getLast? with
      | none => rfl
      | some q =>
        have hne : acc ≠ [] := fun e => by rw [e] at hl; cases hl
        have hpos : 0 < acc.length := List.length_pos_iff.2 hne
        have hq : (acc ++ p :: rest)[acc.length - 1]? = some q := by
          rw [List.getElem?_append_left (by omega), ← List.getLast?_eq_getElem?, hl]
        have := (ho acc.length p (by rw [List.getElem?_append_right (Nat.le_refl _)]; simp)).2.2 q hpos hq
        simp
        omega
theorem okAt_all {ps : List Pr} (hr : rightPs ps = true) (i : Nat) : okAt ps i := by
  by_cases hi : i < ps.length
  · exact (rightPs_yes hr).1 i hi
  · intro p hp
    rw [List.getElem?_eq_none (by omega)] at hp
    cases hp
theorem tkA_bytes {ps : List Pr} (hr : rightPs ps = true) (hk : ∀ p ∈ ps, p.key.size ≤ 200 ∧ p.v.Ok) : tkA (Pr.all ps) = some (ps, (Pr.all ps).length) := by
  have h16 := (rightPs_yes hr).2
  have hn : (UInt8.ofNat ps.length).toNat = ps.length := u8_of (by omega)
  unfold Pr.all tkA
  simp only [hn]
  rw [if_neg (by omega), tkP_bytes ps [] 1 (fun p hp => ⟨(hk p hp).1, (hk p hp).2, (right_mem hr hp).1, (right_mem hr hp).2⟩) (fun i => okAt_all hr i)]
  simp
  omega
theorem ba_get0 {l : List UInt8} {b : UInt8} {r : List UInt8} (h : l = b :: r) (h0 : 0 < (⟨l.toArray⟩ : ByteArray).size) : (⟨l.toArray⟩ : ByteArray)[0] = b := by
  subst h
  rfl
theorem parseP_text {label : ByteArray} {ps : List Pr} (hl : label.size ≤ 200) (hr : rightPs ps = true) (hk : ∀ p ∈ ps, p.key.size ≤ 200 ∧ p.v.Ok) : parseP ⟨(textL label ps).toArray⟩ = some (label, ps) := by
  have hls : (UInt8.ofNat label.size).toNat = label.size := u8_of (by omega)
  have hsz : (⟨(textL label ps).toArray⟩ : ByteArray).size = 1 + label.size + (Pr.all ps).length := by
    show (textL label ps).length = _
    unfold textL
    simp
    omega
  have h0 : 0 < (⟨(textL label ps).toArray⟩ : ByteArray).size := by omega
  have hg : (⟨(textL label ps).toArray⟩ : ByteArray)[0] = UInt8.ofNat label.size := ba_get0 (by unfold textL; rfl) h0
  have he : ((⟨(textL label ps).toArray⟩ : ByteArray).extract (1 + label.size) (⟨(textL label ps).toArray⟩ : ByteArray).size).data.toList = Pr.all ps := by
    rw [hsz]
    simp [textL]
    rw [Nat.add_comm 1 label.size, List.drop_succ_cons]
    conv => lhs; rw [← ba_len label]
    rw [List.drop_left]
    simp
  have hx : (⟨(textL label ps).toArray⟩ : ByteArray).extract 1 (1 + label.size) = label := by
    apply ba_of_list
    simp [textL]
  unfold parseP
  rw [dif_pos h0, hg, hls, if_neg (by omega), he, tkA_bytes hr hk]
  simp only []
  rw [if_pos (by omega), hx]
theorem vertexP_text {id : Int} {label : ByteArray} {ps : List Pr} (hl : label.size ≤ 200) (hc : checkR label ps [id] = 0) (hk : ∀ p ∈ ps, p.key.size ≤ 200 ∧ p.v.Ok) : vertexP id ⟨(textL label ps).toArray⟩ = some (label, ps) :=
  vertexP_good (parseP_text hl (checkR_ok hc).2.2 hk) hc
theorem checkR_one {label : ByteArray} {ps : List Pr} {id : Int} {ids : List Int} (h : checkR label ps (id :: ids) = 0) : checkR label ps [id] = 0 := by
  obtain ⟨h1, h2, h3⟩ := checkR_ok h
  have : [id].any idB = false := by
    simp at h1 ⊢
    exact h1.1
  unfold checkR
  rw [this, h2, h3]
  rfl
theorem edge_ext (f t : Nat) (x : List UInt8) : (⟨(fiveL f ++ fiveL t ++ x).toArray⟩ : ByteArray).extract 10 (⟨(fiveL f ++ fiveL t ++ x).toArray⟩ : ByteArray).size = ⟨x.toArray⟩ := by
  apply ba_of_list
  have hs : (⟨(fiveL f ++ fiveL t ++ x).toArray⟩ : ByteArray).size = 10 + x.length := by
    show (fiveL f ++ fiveL t ++ x).length = _
    simp [five_len]
    omega
  rw [hs]
  simp [fiveL]
theorem edge_from {f : Nat} (hf : f < 1099511627776) (t : Nat) (x : List UInt8) : num5 ⟨(fiveL f ++ fiveL t ++ x).toArray⟩ = f := by
  unfold num5
  have : (⟨(fiveL f ++ fiveL t ++ x).toArray⟩ : ByteArray).data.toList.take 5 = fiveL f := by simp [fiveL]
  rw [this, numL_five hf]
theorem edge_to {t : Nat} (ht : t < 1099511627776) (f : Nat) (x : List UInt8) : num5 ((⟨(fiveL f ++ fiveL t ++ x).toArray⟩ : ByteArray).extract 5 (⟨(fiveL f ++ fiveL t ++ x).toArray⟩ : ByteArray).size) = t := by
  unfold num5
  have hs : (⟨(fiveL f ++ fiveL t ++ x).toArray⟩ : ByteArray).size = 10 + x.length := by
    show (fiveL f ++ fiveL t ++ x).length = _
    simp [five_len]
    omega
  have : ((⟨(fiveL f ++ fiveL t ++ x).toArray⟩ : ByteArray).extract 5 (⟨(fiveL f ++ fiveL t ++ x).toArray⟩ : ByteArray).size).data.toList.take 5 = fiveL t := by
    rw [hs]
    simp [fiveL]
    rw [show 10 + x.length - 5 = x.length + 5 by omega]
    rfl
  rw [this, numL_five ht]
theorem edgeP_text {id : Int} {f t : Nat} {label : ByteArray} {ps : List Pr} (hl : label.size ≤ 200) (hc : checkR label ps [id, (f : Int), (t : Int)] = 0) (hk : ∀ p ∈ ps, p.key.size ≤ 200 ∧ p.v.Ok) : edgeP id ⟨(fiveL f ++ fiveL t ++ textL label ps).toArray⟩ = some (label, ps) := by
  have hs : (⟨(fiveL f ++ fiveL t ++ textL label ps).toArray⟩ : ByteArray).size = 10 + (textL label ps).length := by
    show (fiveL f ++ fiveL t ++ textL label ps).length = _
    simp [five_len]
    omega
  unfold edgeP
  rw [if_neg (by omega), edge_ext, vertexP_text hl (checkR_one hc) hk]
end Go.Proofs.YtkbmipmegljidaaGreat
