/- The reference's Install. Conditions: the contract's own premises. The reference's Unlock. Conditions: the contract's own premises. The reference's Same of keys; keys by their order, plainly. Conditions: each lemma's own premises. The reference's Keys. Conditions: the contract's own premises. Install of what may not be; the plain law of CellActs: a store's cells and the reference's list. Conditions: each lemma's own premises. -/
import Derived.Test.YtkhkdedjffkhdaaGreatRfA
import Derived.StillTailTactics
import Derived.Test.YtkhkdedjffkhdaaGreatCelB
import Derived.Deep.RegionHeld3
namespace Go.Proofs.YtkhkdedjffkhdaaGreat
open Go.RowKit Go.Maps

open Classical in
noncomputable def instL (L : List (Ky × Cl)) (k : Ky) (who : Int) (t : Nat) (vs : ByteArray) (vh : Bool) : Int × List (Ky × Cl) :=
  match lookL L k with
  | none => (51, L)
  | some x => if holdsV (some x) who = true then (if 4611686018427387904 ≤ t ∨ t ≤ x.st ∨ (vs.toList ≠ [] ∧ vh = false) then (2, L) else (0, updL k ⟨t, false, !vh, vs, x.who⟩ L)) else (51, L)
def RIn (w : World) (rb D room : Nat) (v : Value) (L : List (Ky × Cl)) (k : Ky) (who : Int) (t : Nat) (vs : ByteArray) (vh : Bool) (e : Ending) (w' : World) : Prop :=
  e = .returned (.int .i64 (instL L k who t vs vh).1) ∧ RPost w rb D room v (instL L k who t vs vh).2 w'
set_option maxRecDepth 100000 in
set_option maxHeartbeats 8000000 in
theorem rinst_any (rb D room : Nat) (v : Value) (L : List (Ky × Cl)) (k : Ky) (who : Int) (t : Nat) (vw : Int) (vs : ByteArray) (vh : Bool) (w : World) (h : RO w rb D room v L) :
    Calls Tryz.prog 72 #[.pointer (some ⟨rb, 0, none⟩), .agg #[.int .i64 k.kind, .int .i64 k.a, .int .i64 k.b, .string k.s], .int .i64 who, .int .u64 (t : Int), .agg #[.int .u64 vw, .string vs, .bool vh]] w (RIn w rb D room v L k who t vs vh) := by
  obtain ⟨kb, hkb⟩ : ∃ kb, kb = w.heap.size := ⟨_, rfl⟩
  obtain ⟨sb, hsb⟩ : ∃ sb, sb = w.heap.size + 1 := ⟨_, rfl⟩
  obtain ⟨W, hW⟩ : ∃ W, W = (w.alloc (.cells #[.int .i64 k.kind, .int .i64 k.a, .int .i64 k.b, .string k.s] 47)).alloc (.cells #[.int .u64 vw, .string vs, .bool vh] 96) := ⟨_, rfl⟩
  have HBW : Hid (Below w.heap.size w W) := Lib.hid (by rw [hW]; exact (below_box _ _).alloc (by simp) _)
  have HKX : Hid (∀ u, Below W.heap.size W u → u.heap[kb]? = some (.cells #[.int .i64 k.kind, .int .i64 k.a, .int .i64 k.b, .string k.s] 47 (0, 0))) := Lib.hid (fun u hu => by
    have e : W.heap[kb]? = some (.cells #[.int .i64 k.kind, .int .i64 k.a, .int .i64 k.b, .string k.s] 47 (0, 0)) := by rw [hW, hkb]; exact (Below.heap_alloc _ _ _ (by simp)).trans (heap_new w _)
    exact (hu.block _ (Array.getElem?_eq_some_iff.1 e).1).trans e)
  have HSX : Hid (∀ u, Below W.heap.size W u → u.heap[sb]? = some (.cells #[.int .u64 vw, .string vs, .bool vh] 96 (0, 0))) := Lib.hid (fun u hu => by
    have e : W.heap[sb]? = some (.cells #[.int .u64 vw, .string vs, .bool vh] 96 (0, 0)) := by rw [hW, hsb]; exact (show w.heap.size + 1 = (w.alloc (.cells #[.int .i64 k.kind, .int .i64 k.a, .int .i64 k.b, .string k.s] 47)).heap.size by simp) ▸ heap_new _ _
    exact (hu.block _ (Array.getElem?_eq_some_iff.1 e).1).trans e)
  obtain ⟨a, cap, rfl⟩ := h.o.shape
  obtain ⟨m, hm⟩ : ∃ m, m = L.length := ⟨_, rfl⟩
  rw [← hm] at h ⊢
  have HM : Hid (m = L.length ∧ m ≤ 1048576) := Lib.hid ⟨hm, by have := h.len; omega⟩
  have HRW := Lib.hid (h.below HBW.out)
  have HR0 := Lib.hid h
  have HW := Lib.hid hW.symm
  have HKB := Lib.hid hkb.symm
  have HSBE := Lib.hid hsb.symm
  clear h hW hkb hsb hm
  go_enter Tryz.func72, Tryz.ntmps72
  go_upto_region 1 with fail
  rw [HW.out, HSBE.out, HKB.out]
  have hk0 := HKX.out W (Below.refl _ _)
  have p0 := cell_of_blk hk0 0
  have p1 := cell_of_blk hk0 1
  have p2 := cell_of_blk hk0 2
  have p3 := cell_of_blk hk0 3
  have zk := (Array.getElem?_eq_some_iff.1 hk0).1
  simp at p0 p1 p2 p3
  have HHO := Lib.hid (r9holds_any rb cap room a L k who W HRW.out.rv.1)
  clear hk0
  go_wp2_with fail
  refine HHO.out.mono ?_
  rintro e w1 ⟨rfl, b1⟩
  have HB1 : Hid (Below w.heap.size w w1) := Lib.hid (HBW.out.trans (b1.mono HBW.out.size))
  have HBX1 : Hid (Below W.heap.size W w1) := Lib.hid b1
  clear b1 p0 p1 p2 p3 zk
  cases hh : holdsV (lookL L k) who
  case false =>
    have HHF := Lib.hid hh
    clear hh
    go_wp2_with fail
    go_ret
    have HLK : instL L k who t vs vh = (51, L) := by
      unfold instL
      have := HHF.out
      cases hl : lookL L k with
      | none => rfl
      | some x =>
        rw [hl] at this
        simp only
        rw [if_neg (by rw [this]; decide)]
    unfold RIn
    rw [HLK]
    exact ⟨rfl, RPost.same HR0.out HB1.out⟩
  case true =>
  obtain ⟨x, hl⟩ : ∃ x, lookL L k = some x := by
    cases hl : lookL L k with
    | none => rw [hl] at hh; cases hh
    | some x => exact ⟨x, rfl⟩
  rw [hl] at hh
  have HHT := Lib.hid hh
  have HLS := Lib.hid hl
  have HF := Lib.hid (r9find_at rb cap room a L k x w1 (HRW.out.below HBX1.out).rv.1 hl)
  have hk0 := HKX.out w1 HBX1.out
  have p0 := cell_of_blk hk0 0
  have p1 := cell_of_blk hk0 1
  have p2 := cell_of_blk hk0 2
  have p3 := cell_of_blk hk0 3
  have zk := (Array.getElem?_eq_some_iff.1 hk0).1
  simp at p0 p1 p2 p3
  clear hh hl hk0
  go_wp2_with fail
  refine HF.out.mono ?_
  rintro e w2 ⟨i, rfl, hi, hf, b2⟩
  have HBX2 : Hid (Below W.heap.size W w2) := Lib.hid (below_then HBX1.out b2)
  have HB2 : Hid (Below w.heap.size w w2) := Lib.hid (HBW.out.trans (HBX2.out.mono HBW.out.size))
  have HRO := Lib.hid (HRW.out.below HBX2.out)
  have HI := Lib.hid hi
  have HFS := Lib.hid hf
  obtain ⟨g, cp, hve, _, _, _⟩ := HRO.out.o.at' (fun e => by rw [e] at hi; simp at hi)
  injection hve with hv1 hv2 hv3
  subst hv1
  have HSw2 := Lib.hid (HSX.out w2 HBX2.out)
  have HSG : Hid (sb ≠ g) := Lib.hid (fun e => by have h1 := (HR0.out.o.lt g rfl).2; have h2 := HSBE.out; omega)
  have s1 := cell_of_blk HSw2.out 1
  have s2 := cell_of_blk HSw2.out 2
  have zs := (Array.getElem?_eq_some_iff.1 HSw2.out).1
  simp at s1 s2
  have hin : i < m := by have h1 := (List.getElem?_eq_some_iff.1 HI.out).1; have h2 := HM.out; omega
  have hin2 : (i : Int) < (m : Int) := by omega
  have hm6 := HM.out.2
  clear hi hf b2 p0 p1 p2 p3 zk hv2 hv3
  have hat := HRO.out.at_ HI.out
  have q1 := cell_of_blk HRO.out.blk 1
  have zr := HRO.out.lt
  have c4 := hat.cells i (k, x) HI.out 4 _ rfl
  simp [kC] at q1 c4
  have zg := hat.lt
  clear hat

  by_cases k1 : 4611686018427387904 ≤ t
  · have t1 : decide ((4611686018427387904 : Int) ≤ (t : Int)) = true := decide_eq_true (by omega)
    have HBAD : Hid (4611686018427387904 ≤ t ∨ t ≤ x.st ∨ (vs.toList ≠ [] ∧ vh = false)) := Lib.hid (.inl k1)
    clear k1
    go_wp2_with fail
    go_ret
    have HLK : instL L k who t vs vh = (2, L) := by
      unfold instL
      rw [HLS.out]
      simp only
      rw [if_pos HHT.out, if_pos HBAD.out]
    unfold RIn
    rw [HLK]
    exact ⟨rfl, RPost.same HR0.out HB2.out⟩
  have t1 : decide ((4611686018427387904 : Int) ≤ (t : Int)) = false := decide_eq_false (by omega)
  by_cases k2 : t ≤ x.st
  · have t2 : decide (t ≤ x.st) = true := decide_eq_true k2
    have t2' : decide ((t : Int) ≤ (x.st : Int)) = true := decide_eq_true (by omega)
    have HBAD : Hid (4611686018427387904 ≤ t ∨ t ≤ x.st ∨ (vs.toList ≠ [] ∧ vh = false)) := Lib.hid (.inr (.inl k2))
    clear k1 k2
    go_wp2_with fail
    go_ret
    have HLK : instL L k who t vs vh = (2, L) := by
      unfold instL
      rw [HLS.out]
      simp only
      rw [if_pos HHT.out, if_pos HBAD.out]
    unfold RIn
    rw [HLK]
    exact ⟨rfl, RPost.same HR0.out HB2.out⟩
  have t2 : decide (t ≤ x.st) = false := decide_eq_false k2
  have t2' : decide ((t : Int) ≤ (x.st : Int)) = false := decide_eq_false (by omega)
  by_cases k3 : vs.toList ≠ [] ∧ vh = false
  · have t3 : vs.toList.isEmpty = false := by simpa using k3.1
    have HBAD : Hid (4611686018427387904 ≤ t ∨ t ≤ x.st ∨ (vs.toList ≠ [] ∧ vh = false)) := Lib.hid (.inr (.inr k3))
    have hvh : vh = false := k3.2
    clear k1 k2 k3
    go_wp2_with fail
    go_ret
    have HLK : instL L k who t vs vh = (2, L) := by
      unfold instL
      rw [HLS.out]
      simp only
      rw [if_pos HHT.out, if_pos HBAD.out]
    unfold RIn
    rw [HLK]
    exact ⟨rfl, RPost.same HR0.out HB2.out⟩
  have HGOOD : Hid (¬ (4611686018427387904 ≤ t ∨ t ≤ x.st ∨ (vs.toList ≠ [] ∧ vh = false))) := Lib.hid (fun h => h.elim k1 (fun h => h.elim k2 k3))

  by_cases ev : vs.toList = []
  · have t3 : vs.toList.isEmpty = true := by simp [ev]
    clear k1 k2 k3 ev
    go_upto_region 6 with fail
    clear t1 t2 t2' t3 s1 s2 zs
    have f4 := HRO.out.fz (i * 9 + 4)
    obtain ⟨x1, hx1⟩ : ∃ y : Cl, y = { x with st := t } := ⟨_, rfl⟩
    have hp := HRO.out.put1 (y := x1) HI.out 4 (by omega) (.int .u64 (t : Int)) (by rw [hx1]; rfl)
    obtain ⟨U1, hU1⟩ : ∃ U, U = (w2.setCell ⟨g, i * 9 + 4, none⟩ (.int .u64 (t : Int))) := ⟨_, rfl⟩
    have HRO1 := Lib.hid (show RO U1 rb D room (.slice (some ⟨g, 0, none⟩) m cap) (L.set i (k, x1)) from by rw [hU1]; exact hp.1)
    have HC1 : Hid (Chg w2 U1 (RF rb (.slice (some ⟨g, 0, none⟩) m cap))) := Lib.hid (by rw [hU1]; exact hp.2)
    have HI1 : Hid ((L.set i (k, x1))[i]? = some (k, x1)) := Lib.hid (List.getElem?_set_self (List.getElem?_eq_some_iff.1 HI.out).1)
    have HXx1 := Lib.hid hx1
    have HSU1 : Hid (U1.heap[sb]? = some (.cells #[.int .u64 vw, .string vs, .bool vh] 96 (0, 0))) := Lib.hid (by rw [hU1]; exact (Below.heap_setCell _ _ _ _ (HSG.out)).trans HSw2.out)
    have HEU1 := Lib.hid hU1.symm
    clear hp hx1 hU1
    go_upto_region 7 with fail
    rw [HEU1.out]
    clear q1 zr c4 zg f4
    have hat := HRO1.out.at_ HI1.out
    have q1 := cell_of_blk HRO1.out.blk 1
    have zr := HRO1.out.lt
    have c5 := hat.cells i (k, x1) HI1.out 5 _ rfl
    simp [kC] at q1 c5
    have zg := hat.lt
    clear hat
    have s1 := cell_of_blk HSU1.out 1
    have s2 := cell_of_blk HSU1.out 2
    have zs := (Array.getElem?_eq_some_iff.1 HSU1.out).1
    simp at s1 s2
    have f5 := HRO1.out.fz (i * 9 + 5)
    refine wp_region_still_tail 9 (by kernel_rfl) (by kernel_rfl) ?_
    change wpStill _ _ (World.drew _) (fun a' => wpList _ _ _ _ a' (World.drew _)) _ _
    simp only [List.take_succ_cons, List.take_zero, List.drop_succ_cons, List.drop_zero]
    repeat still_step
    refine wpStill_nil ?_
    obtain ⟨x2, hx2⟩ : ∃ y : Cl, y = { x1 with ab := !vh } := ⟨_, rfl⟩
    have hp := HRO1.out.put1 (y := x2) HI1.out 5 (by omega) (.bool vh) (by rw [hx2]; simp [encC])
    obtain ⟨U2, hU2⟩ : ∃ U, U = (U1.setCell ⟨g, i * 9 + 5, none⟩ (.bool vh)).drew := ⟨_, rfl⟩
    rw [List.set_set] at hp
    have HRO2 := Lib.hid (show RO U2 rb D room (.slice (some ⟨g, 0, none⟩) m cap) (L.set i (k, x2)) from by rw [hU2]; exact hp.1.below (below_drewN (Below.refl _ _) 1))
    have HC2 : Hid (Chg U1 U2 (RF rb (.slice (some ⟨g, 0, none⟩) m cap))) := Lib.hid (by rw [hU2]; exact hp.2.drew)
    have HI2 : Hid ((L.set i (k, x2))[i]? = some (k, x2)) := Lib.hid (List.getElem?_set_self (List.getElem?_eq_some_iff.1 HI.out).1)
    have HXx2 := Lib.hid hx2
    have HSU2 : Hid (U2.heap[sb]? = some (.cells #[.int .u64 vw, .string vs, .bool vh] 96 (0, 0))) := Lib.hid (by rw [hU2]; exact (Below.heap_setCell _ _ _ _ (HSG.out)).trans HSU1.out)
    have HEU2 := Lib.hid hU2.symm
    clear hp hx2 hU2
    go_upto_region 8 with fail
    rw [HEU2.out]
    clear q1 zr c5 zg f5 s1 s2 zs
    have hat := HRO2.out.at_ HI2.out
    have q1 := cell_of_blk HRO2.out.blk 1
    have zr := HRO2.out.lt
    have c6 := hat.cells i (k, x2) HI2.out 6 _ rfl
    simp [kC] at q1 c6
    have zg := hat.lt
    clear hat
    have s1 := cell_of_blk HSU2.out 1
    have s2 := cell_of_blk HSU2.out 2
    have zs := (Array.getElem?_eq_some_iff.1 HSU2.out).1
    simp at s1 s2
    have f6 := HRO2.out.fz (i * 9 + 6)
    refine wp_region_still_tail 9 (by kernel_rfl) (by kernel_rfl) ?_
    change wpStill _ _ (World.drew _) (fun a' => wpList _ _ _ _ a' (World.drew _)) _ _
    simp only [List.take_succ_cons, List.take_zero, List.drop_succ_cons, List.drop_zero]
    repeat still_step
    refine wpStill_nil ?_
    obtain ⟨x3, hx3⟩ : ∃ y : Cl, y = { x2 with text := vs } := ⟨_, rfl⟩
    have hp := HRO2.out.put1 (y := x3) HI2.out 6 (by omega) (.string vs) (by rw [hx3]; rfl)
    obtain ⟨U3, hU3⟩ : ∃ U, U = (U2.setCell ⟨g, i * 9 + 6, none⟩ (.string vs)).drew := ⟨_, rfl⟩
    rw [List.set_set] at hp
    have HRO3 := Lib.hid (show RO U3 rb D room (.slice (some ⟨g, 0, none⟩) m cap) (L.set i (k, x3)) from by rw [hU3]; exact hp.1.below (below_drewN (Below.refl _ _) 1))
    have HC3 : Hid (Chg U2 U3 (RF rb (.slice (some ⟨g, 0, none⟩) m cap))) := Lib.hid (by rw [hU3]; exact hp.2.drew)
    have HI3 : Hid ((L.set i (k, x3))[i]? = some (k, x3)) := Lib.hid (List.getElem?_set_self (List.getElem?_eq_some_iff.1 HI.out).1)
    have HXx3 := Lib.hid hx3
    have HSU3 : Hid (U3.heap[sb]? = some (.cells #[.int .u64 vw, .string vs, .bool vh] 96 (0, 0))) := Lib.hid (by rw [hU3]; exact (Below.heap_setCell _ _ _ _ (HSG.out)).trans HSU2.out)
    have HEU3 := Lib.hid hU3.symm
    clear hp hx3 hU3
    go_upto_region 9 with fail
    rw [HEU3.out]
    clear q1 zr c6 zg f6 s1 s2 zs
    have hat := HRO3.out.at_ HI3.out
    have q1 := cell_of_blk HRO3.out.blk 1
    have zr := HRO3.out.lt
    have c7 := hat.cells i (k, x3) HI3.out 7 _ rfl
    simp [kC] at q1 c7
    have zg := hat.lt
    clear hat
    have f7 := HRO3.out.fz (i * 9 + 7)
    obtain ⟨x4, hx4⟩ : ∃ y : Cl, y = { x3 with lk := false } := ⟨_, rfl⟩
    have hp := HRO3.out.put1 (y := x4) HI3.out 7 (by omega) (.bool false) (by rw [hx4]; rfl)
    obtain ⟨U4, hU4⟩ : ∃ U, U = (U3.setCell ⟨g, i * 9 + 7, none⟩ (.bool false)) := ⟨_, rfl⟩
    rw [List.set_set] at hp
    have HRO4 := Lib.hid (show RO U4 rb D room (.slice (some ⟨g, 0, none⟩) m cap) (L.set i (k, x4)) from by rw [hU4]; exact hp.1)
    have HC4 : Hid (Chg U3 U4 (RF rb (.slice (some ⟨g, 0, none⟩) m cap))) := Lib.hid (by rw [hU4]; exact hp.2)
    have HI4 : Hid ((L.set i (k, x4))[i]? = some (k, x4)) := Lib.hid (List.getElem?_set_self (List.getElem?_eq_some_iff.1 HI.out).1)
    have HXx4 := Lib.hid hx4
    have HSU4 : Hid (U4.heap[sb]? = some (.cells #[.int .u64 vw, .string vs, .bool vh] 96 (0, 0))) := Lib.hid (by rw [hU4]; exact (Below.heap_setCell _ _ _ _ (HSG.out)).trans HSU3.out)
    have HEU4 := Lib.hid hU4.symm
    clear hp hx4 hU4
    go_upto_region 10 with fail
    rw [HEU4.out]
    clear q1 zr c7 zg f7
    go_wp2_with fail
    go_ret
    have hx4 : x4 = ⟨t, false, !vh, vs, x.who⟩ := by rw [HXx4.out, HXx3.out, HXx2.out, HXx1.out]
    have HLK : instL L k who t vs vh = (0, updL k x4 L) := by
      unfold instL
      rw [HLS.out]
      simp only
      rw [if_pos HHT.out, if_neg HGOOD.out, hx4]
    unfold RIn
    rw [HLK]
    refine ⟨rfl, ⟨.slice (some ⟨g, 0, none⟩) m cap, ?_, fun j hj => .inl hj⟩, ((((Chg.of_below HB2.out _).trans HC1.out (fun _ _ h => h)).trans HC2.out (fun _ _ h => h)).trans HC3.out (fun _ _ h => h)).trans HC4.out (fun _ _ h => h)⟩
    rw [← set_upd HI.out HFS.out]
    exact HRO4.out

  · have t3 : vs.toList.isEmpty = false := by simpa using ev
    have hvh : vh = true := by
      cases hv : vh
      · exact absurd ⟨ev, hv⟩ k3
      · rfl
    clear k1 k2 k3 ev
    go_upto_region 6 with fail
    clear t1 t2 t2' t3 hvh s1 s2 zs
    have f4 := HRO.out.fz (i * 9 + 4)
    obtain ⟨x1, hx1⟩ : ∃ y : Cl, y = { x with st := t } := ⟨_, rfl⟩
    have hp := HRO.out.put1 (y := x1) HI.out 4 (by omega) (.int .u64 (t : Int)) (by rw [hx1]; rfl)
    obtain ⟨U1, hU1⟩ : ∃ U, U = (w2.setCell ⟨g, i * 9 + 4, none⟩ (.int .u64 (t : Int))) := ⟨_, rfl⟩
    have HRO1 := Lib.hid (show RO U1 rb D room (.slice (some ⟨g, 0, none⟩) m cap) (L.set i (k, x1)) from by rw [hU1]; exact hp.1)
    have HC1 : Hid (Chg w2 U1 (RF rb (.slice (some ⟨g, 0, none⟩) m cap))) := Lib.hid (by rw [hU1]; exact hp.2)
    have HI1 : Hid ((L.set i (k, x1))[i]? = some (k, x1)) := Lib.hid (List.getElem?_set_self (List.getElem?_eq_some_iff.1 HI.out).1)
    have HXx1 := Lib.hid hx1
    have HSU1 : Hid (U1.heap[sb]? = some (.cells #[.int .u64 vw, .string vs, .bool vh] 96 (0, 0))) := Lib.hid (by rw [hU1]; exact (Below.heap_setCell _ _ _ _ (HSG.out)).trans HSw2.out)
    have HEU1 := Lib.hid hU1.symm
    clear hp hx1 hU1
    go_upto_region 7 with fail
    rw [HEU1.out]
    clear q1 zr c4 zg f4
    have hat := HRO1.out.at_ HI1.out
    have q1 := cell_of_blk HRO1.out.blk 1
    have zr := HRO1.out.lt
    have c5 := hat.cells i (k, x1) HI1.out 5 _ rfl
    simp [kC] at q1 c5
    have zg := hat.lt
    clear hat
    have s1 := cell_of_blk HSU1.out 1
    have s2 := cell_of_blk HSU1.out 2
    have zs := (Array.getElem?_eq_some_iff.1 HSU1.out).1
    simp at s1 s2
    have f5 := HRO1.out.fz (i * 9 + 5)
    refine wp_region_still_tail 9 (by kernel_rfl) (by kernel_rfl) ?_
    change wpStill _ _ (World.drew _) (fun a' => wpList _ _ _ _ a' (World.drew _)) _ _
    simp only [List.take_succ_cons, List.take_zero, List.drop_succ_cons, List.drop_zero]
    repeat still_step
    refine wpStill_nil ?_
    obtain ⟨x2, hx2⟩ : ∃ y : Cl, y = { x1 with ab := !vh } := ⟨_, rfl⟩
    have hp := HRO1.out.put1 (y := x2) HI1.out 5 (by omega) (.bool vh) (by rw [hx2]; simp [encC])
    obtain ⟨U2, hU2⟩ : ∃ U, U = (U1.setCell ⟨g, i * 9 + 5, none⟩ (.bool vh)).drew := ⟨_, rfl⟩
    rw [List.set_set] at hp
    have HRO2 := Lib.hid (show RO U2 rb D room (.slice (some ⟨g, 0, none⟩) m cap) (L.set i (k, x2)) from by rw [hU2]; exact hp.1.below (below_drewN (Below.refl _ _) 1))
    have HC2 : Hid (Chg U1 U2 (RF rb (.slice (some ⟨g, 0, none⟩) m cap))) := Lib.hid (by rw [hU2]; exact hp.2.drew)
    have HI2 : Hid ((L.set i (k, x2))[i]? = some (k, x2)) := Lib.hid (List.getElem?_set_self (List.getElem?_eq_some_iff.1 HI.out).1)
    have HXx2 := Lib.hid hx2
    have HSU2 : Hid (U2.heap[sb]? = some (.cells #[.int .u64 vw, .string vs, .bool vh] 96 (0, 0))) := Lib.hid (by rw [hU2]; exact (Below.heap_setCell _ _ _ _ (HSG.out)).trans HSU1.out)
    have HEU2 := Lib.hid hU2.symm
    clear hp hx2 hU2
    go_upto_region 8 with fail
    rw [HEU2.out]
    clear q1 zr c5 zg f5 s1 s2 zs
    have hat := HRO2.out.at_ HI2.out
    have q1 := cell_of_blk HRO2.out.blk 1
    have zr := HRO2.out.lt
    have c6 := hat.cells i (k, x2) HI2.out 6 _ rfl
    simp [kC] at q1 c6
    have zg := hat.lt
    clear hat
    have s1 := cell_of_blk HSU2.out 1
    have s2 := cell_of_blk HSU2.out 2
    have zs := (Array.getElem?_eq_some_iff.1 HSU2.out).1
    simp at s1 s2
    have f6 := HRO2.out.fz (i * 9 + 6)
    refine wp_region_still_tail 9 (by kernel_rfl) (by kernel_rfl) ?_
    change wpStill _ _ (World.drew _) (fun a' => wpList _ _ _ _ a' (World.drew _)) _ _
    simp only [List.take_succ_cons, List.take_zero, List.drop_succ_cons, List.drop_zero]
    repeat still_step
    refine wpStill_nil ?_
    obtain ⟨x3, hx3⟩ : ∃ y : Cl, y = { x2 with text := vs } := ⟨_, rfl⟩
    have hp := HRO2.out.put1 (y := x3) HI2.out 6 (by omega) (.string vs) (by rw [hx3]; rfl)
    obtain ⟨U3, hU3⟩ : ∃ U, U = (U2.setCell ⟨g, i * 9 + 6, none⟩ (.string vs)).drew := ⟨_, rfl⟩
    rw [List.set_set] at hp
    have HRO3 := Lib.hid (show RO U3 rb D room (.slice (some ⟨g, 0, none⟩) m cap) (L.set i (k, x3)) from by rw [hU3]; exact hp.1.below (below_drewN (Below.refl _ _) 1))
    have HC3 : Hid (Chg U2 U3 (RF rb (.slice (some ⟨g, 0, none⟩) m cap))) := Lib.hid (by rw [hU3]; exact hp.2.drew)
    have HI3 : Hid ((L.set i (k, x3))[i]? = some (k, x3)) := Lib.hid (List.getElem?_set_self (List.getElem?_eq_some_iff.1 HI.out).1)
    have HXx3 := Lib.hid hx3
    have HSU3 : Hid (U3.heap[sb]? = some (.cells #[.int .u64 vw, .string vs, .bool vh] 96 (0, 0))) := Lib.hid (by rw [hU3]; exact (Below.heap_setCell _ _ _ _ (HSG.out)).trans HSU2.out)
    have HEU3 := Lib.hid hU3.symm
    clear hp hx3 hU3
    go_upto_region 9 with fail
    rw [HEU3.out]
    clear q1 zr c6 zg f6 s1 s2 zs
    have hat := HRO3.out.at_ HI3.out
    have q1 := cell_of_blk HRO3.out.blk 1
    have zr := HRO3.out.lt
    have c7 := hat.cells i (k, x3) HI3.out 7 _ rfl
    simp [kC] at q1 c7
    have zg := hat.lt
    clear hat
    have f7 := HRO3.out.fz (i * 9 + 7)
    obtain ⟨x4, hx4⟩ : ∃ y : Cl, y = { x3 with lk := false } := ⟨_, rfl⟩
    have hp := HRO3.out.put1 (y := x4) HI3.out 7 (by omega) (.bool false) (by rw [hx4]; rfl)
    obtain ⟨U4, hU4⟩ : ∃ U, U = (U3.setCell ⟨g, i * 9 + 7, none⟩ (.bool false)) := ⟨_, rfl⟩
    rw [List.set_set] at hp
    have HRO4 := Lib.hid (show RO U4 rb D room (.slice (some ⟨g, 0, none⟩) m cap) (L.set i (k, x4)) from by rw [hU4]; exact hp.1)
    have HC4 : Hid (Chg U3 U4 (RF rb (.slice (some ⟨g, 0, none⟩) m cap))) := Lib.hid (by rw [hU4]; exact hp.2)
    have HI4 : Hid ((L.set i (k, x4))[i]? = some (k, x4)) := Lib.hid (List.getElem?_set_self (List.getElem?_eq_some_iff.1 HI.out).1)
    have HXx4 := Lib.hid hx4
    have HSU4 : Hid (U4.heap[sb]? = some (.cells #[.int .u64 vw, .string vs, .bool vh] 96 (0, 0))) := Lib.hid (by rw [hU4]; exact (Below.heap_setCell _ _ _ _ (HSG.out)).trans HSU3.out)
    have HEU4 := Lib.hid hU4.symm
    clear hp hx4 hU4
    go_upto_region 10 with fail
    rw [HEU4.out]
    clear q1 zr c7 zg f7
    go_wp2_with fail
    go_ret
    have hx4 : x4 = ⟨t, false, !vh, vs, x.who⟩ := by rw [HXx4.out, HXx3.out, HXx2.out, HXx1.out]
    have HLK : instL L k who t vs vh = (0, updL k x4 L) := by
      unfold instL
      rw [HLS.out]
      simp only
      rw [if_pos HHT.out, if_neg HGOOD.out, hx4]
    unfold RIn
    rw [HLK]
    refine ⟨rfl, ⟨.slice (some ⟨g, 0, none⟩) m cap, ?_, fun j hj => .inl hj⟩, ((((Chg.of_below HB2.out _).trans HC1.out (fun _ _ h => h)).trans HC2.out (fun _ _ h => h)).trans HC3.out (fun _ _ h => h)).trans HC4.out (fun _ _ h => h)⟩
    rw [← set_upd HI.out HFS.out]
    exact HRO4.out

end Go.Proofs.YtkhkdedjffkhdaaGreat
namespace Go.Proofs.YtkhkdedjffkhdaaGreat
open Go.RowKit Go.Maps

theorem look_upd_ne {k k' : Ky} {y : Cl} (hne : k ≠ k') : ∀ {L : List (Ky × Cl)}, lookL (updL k' y L) k = lookL L k
  | [] => rfl
  | (q, x) :: t => by
    by_cases h : k' = q
    · subst h
      rw [show updL k' y ((k', x) :: t) = (k', y) :: t by simp [updL, Ky.eqB_true rfl]]
      simp [lookL, Ky.eqB_false hne]
    · rw [show updL k' y ((q, x) :: t) = (q, x) :: updL k' y t by simp [updL, Ky.eqB_false h]]
      by_cases e : k = q
      · subst e
        simp [lookL, Ky.eqB_true rfl]
      · simp only [lookL, Ky.eqB_false e, Bool.false_eq_true, if_false]
        exact look_upd_ne hne (L := t)
theorem look_upd_eq {k : Ky} {y : Cl} : ∀ {L : List (Ky × Cl)}, lookL (updL k y L) k = (lookL L k).map (fun _ => y)
  | [] => rfl
  | (q, x) :: t => by
    by_cases h : k = q
    · subst h
      simp [updL, lookL, Ky.eqB_true rfl]
    · rw [show updL k y ((q, x) :: t) = (q, x) :: updL k y t by simp [updL, Ky.eqB_false h]]
      simp only [lookL, Ky.eqB_false h, Bool.false_eq_true, if_false]
      exact look_upd_eq (L := t)
theorem look_del {k k' : Ky} (hne : k ≠ k') : ∀ {L : List (Ky × Cl)}, lookL (delL k' L) k = lookL L k
  | [] => rfl
  | (q, x) :: t => by
    by_cases h : k' = q
    · subst h
      rw [show delL k' ((k', x) :: t) = t by simp [delL, Ky.eqB_true rfl]]
      simp [lookL, Ky.eqB_false hne]
    · rw [show delL k' ((q, x) :: t) = (q, x) :: delL k' t by simp [delL, Ky.eqB_false h]]
      by_cases e : k = q
      · subst e
        simp [lookL, Ky.eqB_true rfl]
      · simp only [lookL, Ky.eqB_false e, Bool.false_eq_true, if_false]
        exact look_del hne (L := t)
theorem del_upd {k : Ky} {y : Cl} : ∀ {L : List (Ky × Cl)}, delL k (updL k y L) = delL k L
  | [] => rfl
  | (q, x) :: t => by
    by_cases h : k = q
    · subst h
      simp [updL, delL, Ky.eqB_true rfl]
    · simp [updL, delL, Ky.eqB_false h, del_upd (L := t)]
def unStepL (L : List (Ky × Cl)) (k : Ky) : List (Ky × Cl) := match lookL L k with
  | none => L
  | some x => if x.st = 0 then delL k L else updL k { x with lk := false } L
def unL (L : List (Ky × Cl)) (ks : List Ky) : List (Ky × Cl) := ks.foldl unStepL L
theorem unL_snoc (L : List (Ky × Cl)) (ks : List Ky) (k : Ky) : unL L (ks ++ [k]) = unStepL (unL L ks) k := by unfold unL; rw [List.foldl_append]; rfl
theorem look_unStep {L : List (Ky × Cl)} {k k' : Ky} (h : k ≠ k') : lookL (unStepL L k') k = lookL L k := by
  unfold unStepL
  split
  · rfl
  · split
    · exact look_del h
    · exact look_upd_ne h
theorem look_un {k : Ky} : ∀ (ks : List Ky) (L : List (Ky × Cl)), k ∉ ks → lookL (unL L ks) k = lookL L k
  | [], _, _ => rfl
  | q :: t, L, h => by
    have h1 : k ≠ q := fun e => h (by simp [e])
    have h2 : k ∉ t := fun e => h (by simp [e])
    show lookL (unL (unStepL L q) t) k = _
    rw [look_un t _ h2, look_unStep h1]
open Classical in
noncomputable def unlL (L : List (Ky × Cl)) (who : Int) (ks : List Ky) : Int × List (Ky × Cl) := if unlockOk (lookL L) who ks ks.length then (0, unL L ks) else (51, L)
def RUn (w : World) (rb D room : Nat) (v : Value) (L : List (Ky × Cl)) (who : Int) (ks : List Ky) (e : Ending) (w' : World) : Prop :=
  e = .returned (.int .i64 (unlL L who ks).1) ∧ RPost w rb D room v (unlL L who ks).2 w'
set_option maxRecDepth 100000 in
set_option maxHeartbeats 8000000 in
theorem runlock_at (rb D room : Nat) (v : Value) (L : List (Ky × Cl)) (who : Int) (ka : Option Addr) (kc : Nat) (ks : List Ky) (w : World) (h : RO w rb D room v L) (hD : D ≤ w.heap.size) (hks : ks ≠ [] → ∃ b off, ka = some ⟨b, off, none⟩ ∧ KsAt w b off ks ∧ ¬ RF rb v b) (hlen : ks.length ≤ 1000) :
    Calls Tryz.prog 94 #[.pointer (some ⟨rb, 0, none⟩), .int .i64 who, .slice ka ks.length kc] w (RUn w rb D room v L who ks) := by
  obtain ⟨nk, hnk⟩ : ∃ n, n = ks.length := ⟨_, rfl⟩
  have HNK : Hid (nk = ks.length ∧ nk ≤ 1000) := Lib.hid (by omega)
  have HKS : Hid (∀ u, Chg w u (RF rb v) → ks ≠ [] → ∃ b off, ka = some ⟨b, off, none⟩ ∧ KsAt u b off ks) := Lib.hid (fun u hu hn => by
    obtain ⟨b, off, e, hat, hb⟩ := hks hn
    exact ⟨b, off, e, hat.of_block (hu.block b hat.lt hb)⟩)
  have HRO := Lib.hid h
  have HDD : Hid (D ≤ w.heap.size) := Lib.hid hD
  rw [← hnk]
  clear hnk hks h hD hlen
  go_enter Tryz.func94, Tryz.ntmps94
  go_wp2_with fail
  go_loopw [7] (fun iv wr => ∃ i : Nat, iv = .int .i64 (i : Int) ∧ i ≤ nk ∧ Hid (Below w.heap.size w wr) ∧ Hid (unlockOk (lookL L) who ks i)) (fun iv _ => nk - (intOf iv).toNat)
  case atStart => exact ⟨0, rfl, Nat.zero_le _, Lib.hid (Below.refl _ _), Lib.hid (fun i k hi => absurd hi (Nat.not_lt_zero _))⟩
  case round =>
    obtain ⟨i, rfl, hi, HB, HOK⟩ := hrel
    have hn6 := HNK.out.2
    by_cases hlt : i < nk
    · obtain ⟨k, hk⟩ : ∃ k, ks[i]? = some k := ⟨_, List.getElem?_eq_getElem (by have := HNK.out.1; omega)⟩
      have HK := Lib.hid hk
      obtain ⟨b, off, hka, hat⟩ := HKS.out wr (Chg.of_below HB.out _) (fun e => by rw [e] at hk; simp at hk)
      subst hka
      obtain ⟨p0, p1, p2, p3⟩ := hat.cells i k hk
      have zk := hat.lt
      obtain ⟨a, cap, hsh⟩ := HRO.out.o.shape
      have hr := HRO.out.below HB.out
      rw [hsh] at hr
      have HHO := Lib.hid (r9holds_any rb cap room a L k who wr hr.rv.1)
      obtain ⟨hb0, hhb⟩ : ∃ b, b = holdsV (lookL L k) who := ⟨_, rfl⟩
      rw [← hhb] at HHO
      have HHB := Lib.hid hhb
      clear hk hat hr hsh hhb
      go_wp2_with fail
      refine HHO.out.mono ?_
      rintro e w1 ⟨rfl, b1⟩
      have HB1 : Hid (Below w.heap.size w w1) := Lib.hid (below_then HB.out b1)
      clear b1 p0 p1 p2 p3 zk
      cases hb0
      case false =>
        go_wp2_with fail
        go_ret
        have hno : ¬ unlockOk (lookL L) who ks ks.length := fun h => by
          have := (h i k (by have := HNK.out.1; omega) HK.out).1
          rw [← HHB.out] at this
          cases this
        unfold RUn unlL
        rw [if_neg hno]
        exact ⟨rfl, RPost.same HRO.out HB1.out⟩
      case true =>
      go_wp2_with fail
      obtain ⟨wo, hwo⟩ : ∃ wo : World, wo = w1 := ⟨_, rfl⟩
      have HB0 : Hid (Below wo.heap.size wo w1) := Lib.hid (by rw [hwo]; exact Below.refl _ _)
      rw [← hwo] at HB1
      clear hwo
      go_loopw [8] (fun jv wk => ∃ j : Nat, jv = .int .i64 (j : Int) ∧ j ≤ i ∧ Hid (Below wo.heap.size wo wk) ∧ Hid (∀ (q : Nat) (z : Ky), q < j → ks[q]? = some z → z ≠ k)) (fun jv _ => i - (intOf jv).toNat)
      case atStart => exact ⟨0, rfl, Nat.zero_le _, HB0, Lib.hid (fun q z hq => absurd hq (Nat.not_lt_zero _))⟩
      case round =>
        obtain ⟨j, rfl, hj, HBJ, HNE⟩ := hrel
        have HB2 : Hid (Below w.heap.size w wr) := Lib.hid (below_then HB1.out HBJ.out)
        by_cases hlj : j < i
        · obtain ⟨z, hz⟩ : ∃ k, ks[j]? = some k := ⟨_, List.getElem?_eq_getElem (by have := HNK.out.1; omega)⟩
          have HZ := Lib.hid hz
          obtain ⟨b2, off2, hka, hat⟩ := HKS.out wr (Chg.of_below HB2.out _) (fun e => by rw [e] at hz; simp at hz)
          injection hka with hka
          injection hka with q1 q2
          subst q1 q2
          obtain ⟨p0, p1, p2, p3⟩ := hat.cells i k HK.out
          obtain ⟨r0, r1, r2, r3⟩ := hat.cells j z hz
          have zk := hat.lt
          have hE := eqKy z k
          clear hz hat
          by_cases he : z = k
          · rw [Ky.eqB_true he] at hE
            have HEQ := Lib.hid he
            clear he
            go_wp2_with fail
            go_quiet (fail)
            go_wp2_with fail
            go_ret
            have hno : ¬ unlockOk (lookL L) who ks ks.length := fun h => by
              refine (h i k (by have := HNK.out.1; omega) HK.out).2 ?_
              have h1 : (ks.take i)[j]? = some z := by rw [List.getElem?_take_of_lt hlj]; exact HZ.out
              rw [HEQ.out] at h1
              exact List.mem_of_getElem? h1
            unfold RUn unlL
            rw [if_neg hno]
            exact ⟨rfl, RPost.same HRO.out (below_drewN HB2.out _)⟩
          · rw [Ky.eqB_false he] at hE
            have HNE2 : Hid (∀ (q : Nat) (y : Ky), q < j + 1 → ks[q]? = some y → y ≠ k) := Lib.hid (fun q y hq hy => by
              by_cases hqj : q < j
              · exact HNE.out q y hqj hy
              · obtain rfl : q = j := by omega
                rw [HZ.out] at hy
                injection hy with hy
                rw [← hy]
                exact he)
            clear he
            go_wp2_with fail
            go_quiet (fail)
            go_wp2_with fail
            exact ⟨⟨j + 1, by simp, hlj, Lib.hid (below_drewN HBJ.out _), HNE2⟩, by simp [intOf]; omega⟩
        · have hji : j = i := by omega
          have tk2 : decide (j < i) = false := decide_eq_false hlj
          have tk : decide ((j : Int) < (i : Int)) = false := decide_eq_false (by omega)
          have HOK2 : Hid (unlockOk (lookL L) who ks (i + 1)) := Lib.hid (HOK.out.next HK.out HHB.out.symm (fun hm => by
            obtain ⟨q, hq⟩ := List.getElem?_of_mem hm
            rw [List.getElem?_take] at hq
            split at hq
            · exact HNE.out q k (by omega) hq rfl
            · cases hq))
          go_wp2_with fail
          exact ⟨⟨i + 1, by simp, hlt, HB2, HOK2⟩, by simp [intOf]; omega⟩
    · have hin : i = nk := by omega
      have ti : decide ((i : Int) < (nk : Int)) = false := decide_eq_false (by omega)
      have HYES : Hid (unlockOk (lookL L) who ks ks.length) := Lib.hid (by have h := HOK.out; rw [hin, HNK.out.1] at h; exact h)
      have HROB := Lib.hid (HRO.out.below HB.out)
      go_wp2_with fail
      clear hin ti hlt hi
      go_loopw [9] (fun iv wk => ∃ (i : Nat) (v' : Value), iv = .int .i64 (i : Int) ∧ i ≤ nk ∧ Hid (RO wk rb D room v' (unL L (ks.take i))) ∧ Hid (Chg w wk (RF rb v)) ∧ Hid (∀ j, v'.ownBlock = some j → v.ownBlock = some j ∨ w.heap.size ≤ j)) (fun iv _ => nk - (intOf iv).toNat)
      case atStart => exact ⟨0, v, rfl, Nat.zero_le _, HROB, Lib.hid (Chg.of_below HB.out _), Lib.hid (fun j hj => .inl hj)⟩
      case round =>
        obtain ⟨i, v1, rfl, hi, HR1, HC1, HOB1⟩ := hrel
        have hn6 := HNK.out.2
        by_cases hlt : i < nk
        · obtain ⟨k, hk⟩ : ∃ k, ks[i]? = some k := ⟨_, List.getElem?_eq_getElem (by have := HNK.out.1; omega)⟩
          have HK := Lib.hid hk
          obtain ⟨b, off, hka, hat⟩ := HKS.out wr HC1.out (fun e => by rw [e] at hk; simp at hk)
          subst hka
          obtain ⟨p0, p1, p2, p3⟩ := hat.cells i k hk
          have zk := hat.lt
          have hyes := HYES.out i k (by have := HNK.out.1; omega) hk
          have hlook : lookL (unL L (ks.take i)) k = lookL L k := look_un _ _ hyes.2
          obtain ⟨x, hl⟩ : ∃ x, lookL L k = some x := by
            cases hl : lookL L k with
            | none => rw [hl] at hyes; cases hyes.1
            | some x => exact ⟨x, rfl⟩
          rw [hl] at hlook
          obtain ⟨a, cap, rfl⟩ := HR1.out.o.shape
          obtain ⟨L1, hL1⟩ : ∃ M, M = unL L (ks.take i) := ⟨_, rfl⟩
          have HL1 := Lib.hid hL1
          rw [← hL1] at HR1 HOB1 hlook
          obtain ⟨m, hm⟩ : ∃ m, m = L1.length := ⟨_, rfl⟩
          rw [← hm] at HR1 HOB1
          have HM : Hid (m = L1.length ∧ m ≤ 1048576) := Lib.hid ⟨hm, by have := HR1.out.len; omega⟩
          have HLK := Lib.hid hlook
          have HF := Lib.hid (r9find_at rb cap room a L1 k x wr HR1.out.rv.1 hlook)
          clear hk hat hyes hlook hl hL1 hm
          go_wp2_with fail
          refine HF.out.mono ?_
          rintro e w2 ⟨p, rfl, hp, hpf, b2⟩
          have HR2 := Lib.hid (HR1.out.below b2)
          have HC2 : Hid (Chg w w2 (RF rb v)) := Lib.hid (HC1.out.trans (Chg.of_below b2 (RF rb v)) (fun _ _ h => h))
          have HP := Lib.hid hp
          have HPF := Lib.hid hpf
          obtain ⟨g, cp, hve, _, _, _⟩ := HR2.out.o.at' (fun e => by rw [e] at hp; simp at hp)
          injection hve with hv1 hv2 hv3
          subst hv1
          clear hp hpf b2 hv2 hv3 p0 p1 p2 p3 zk
          have hat := HR2.out.at_ HP.out
          have q1 := cell_of_blk HR2.out.blk 1
          have zr := HR2.out.lt
          have c7 := hat.cells p (k, x) HP.out 7 _ rfl
          simp [kC] at q1 c7
          have zg := hat.lt
          have f7 := HR2.out.fz (p * 9 + 7)
          have hpm : p < m := by have h1 := (List.getElem?_eq_some_iff.1 HP.out).1; have := HM.out; omega
          have hpm2 : (p : Int) < (m : Int) := by omega
          have hm6 := HM.out.2
          obtain ⟨x1, hx1⟩ : ∃ y : Cl, y = { x with lk := false } := ⟨_, rfl⟩
          have hpp := HR2.out.put1 (y := x1) HP.out 7 (by omega) (.bool false) (by rw [hx1]; rfl)
          obtain ⟨U1, hU1⟩ : ∃ U, U = w2.setCell ⟨g, p * 9 + 7, none⟩ (.bool false) := ⟨_, rfl⟩
          rw [← hU1] at hpp
          have HRU := Lib.hid hpp.1
          have HCU : Hid (Chg w U1 (RF rb v)) := Lib.hid (HC2.out.trans hpp.2 (fun j hj hs => hs.elim .inl (fun q => (HOB1.out j q).elim .inr (fun q2 => absurd hj (by omega)))))
          have HPU : Hid ((L1.set p (k, x1))[p]? = some (k, x1)) := Lib.hid (List.getElem?_set_self (List.getElem?_eq_some_iff.1 HP.out).1)
          have HX1 := Lib.hid hx1
          have HEU := Lib.hid hU1.symm
          have HSU : Hid (L1.set p (k, x1) = updL k x1 L1) := Lib.hid (set_upd HP.out HPF.out)
          clear hpp hU1 hx1 hat
          go_upto_region 16 with fail
          rw [HEU.out]
          clear q1 zr c7 zg f7
          have hat := HRU.out.at_ HPU.out
          have q1 := cell_of_blk HRU.out.blk 1
          have zr := HRU.out.lt
          have c4 := hat.cells p (k, x1) HPU.out 4 _ rfl
          simp [kC] at q1 c4
          have zg := hat.lt
          clear hat
          have HTK : Hid (ks.take (i + 1) = ks.take i ++ [k]) := Lib.hid (by rw [List.take_add_one, HK.out]; rfl)
          by_cases hst : x1.st = 0
          · have t0 : ((x1.st : Int) == 0) = true := by rw [hst]; rfl
            have HST := Lib.hid hst
            have HDR := Lib.hid (rdrop_any rb D room _ (L1.set p (k, x1)) p U1 HRU.out (Nat.le_trans HDD.out HCU.out.size) (by rw [List.length_set]; have := HM.out; omega))
            clear hst
            go_wp2_with fail
            refine HDR.out.mono ?_
            rintro e w4 ⟨rfl, ⟨v4, hro, hob⟩, hch⟩
            have HR4 : Hid (RO w4 rb D room v4 (unL L (ks.take (i + 1)))) := Lib.hid (by
              rw [HTK.out, unL_snoc, ← HL1.out]
              unfold unStepL
              rw [HLK.out]
              simp only
              rw [if_pos (by have := HST.out; rw [HX1.out] at this; exact this)]
              rw [cut_del HPU.out (fst_set HPF.out), HSU.out, del_upd] at hro
              exact hro)
            have HC4 : Hid (Chg w w4 (RF rb v)) := Lib.hid (HCU.out.trans hch (fun j hj hs => hs.elim .inl (fun q => (HOB1.out j q).elim .inr (fun q2 => absurd hj (by omega)))))
            have HOB4 : Hid (∀ j, v4.ownBlock = some j → v.ownBlock = some j ∨ w.heap.size ≤ j) := Lib.hid (fun j hj => (hob j hj).elim (HOB1.out j) (fun q => .inr (Nat.le_trans HCU.out.size q)))
            clear hro hob hch q1 zr c4 zg t0
            go_wp2_with fail
            exact ⟨⟨i + 1, v4, by simp, hlt, HR4, HC4, HOB4⟩, by simp [intOf]; omega⟩
          · have t0 : ((x1.st : Int) == 0) = false := by simp; exact hst
            have HR4 : Hid (RO U1 rb D room (.slice (some ⟨g, 0, none⟩) m cap) (unL L (ks.take (i + 1)))) := Lib.hid (by
              have hro := HRU.out
              rw [HTK.out, unL_snoc, ← HL1.out]
              unfold unStepL
              rw [HLK.out]
              simp only
              rw [if_neg (by rw [HX1.out] at hst; exact hst)]
              rw [HSU.out, HX1.out] at hro
              exact hro)
            clear hst
            go_wp2_with fail
            exact ⟨⟨i + 1, _, by simp, hlt, HR4, HCU, HOB1⟩, by simp [intOf]; omega⟩
        · have hin : i = nk := by omega
          have ti : decide ((i : Int) < (nk : Int)) = false := decide_eq_false (by omega)
          go_wp2_with fail
          go_ret
          unfold RUn unlL
          rw [if_pos HYES.out]
          refine ⟨rfl, ⟨v1, ?_, HOB1.out⟩, HC1.out⟩
          have h := HR1.out
          rw [List.take_of_length_le (by have := HNK.out.1; omega)] at h
          exact h
end Go.Proofs.YtkhkdedjffkhdaaGreat
namespace Go.Proofs.YtkhkdedjffkhdaaGreat
open Go.RowKit Go.Maps

/-- one key more, by its order -/
def insK (k : Ky) : List Ky → List Ky
  | [] => [k]
  | y :: t => if y.cmp k < 0 then y :: insK k t else k :: y :: t
theorem mem_insK {k : Ky} : ∀ {l : List Ky} {y : Ky}, y ∈ insK k l ↔ y = k ∨ y ∈ l
  | [], y => by simp [insK]
  | z :: t, y => by
    unfold insK
    split
    · rw [List.mem_cons, mem_insK, List.mem_cons]
      constructor
      · rintro (h | h | h)
        · exact .inr (.inl h)
        · exact .inl h
        · exact .inr (.inr h)
      · rintro (h | h | h)
        · exact .inr (.inl h)
        · exact .inl h
        · exact .inr (.inr h)
    · rw [List.mem_cons]
theorem len_insK (k : Ky) : ∀ l : List Ky, (insK k l).length = l.length + 1
  | [] => rfl
  | z :: t => by
    unfold insK
    split
    · simp [len_insK k t]
    · rfl
theorem sorted_insK {k : Ky} : ∀ {l : List Ky}, KySorted l → k ∉ l → KySorted (insK k l)
  | [], _, _ => List.pairwise_singleton _ _
  | z :: t, h, hn => by
    obtain ⟨h1, h2⟩ := List.pairwise_cons.1 h
    unfold insK
    split
    · rename_i hlt
      refine List.pairwise_cons.2 ⟨fun y hy => ?_, sorted_insK h2 (fun hk => hn (List.mem_cons.2 (.inr hk)))⟩
      rcases mem_insK.1 hy with rfl | hy
      · exact hlt
      · exact h1 y hy
    · rename_i hlt
      have hz : k.cmp z < 0 := by
        have a1 := Ky.cmp_neg k z
        have a2 : ¬ k.cmp z = 0 := fun e => hn (List.mem_cons.2 (.inl ((Ky.cmp_zero k z).1 e)))
        omega
      refine List.pairwise_cons.2 ⟨fun y hy => ?_, h⟩
      rcases List.mem_cons.1 hy with rfl | hy
      · exact hz
      · have h3 := h1 y hy
        have h4 := Ky.cmp_trans k z y (by omega) (by omega)
        have h5 : ¬ k.cmp y = 0 := fun e => hn (List.mem_cons.2 (.inr (by rw [(Ky.cmp_zero k y).1 e]; exact hy)))
        omega
theorem insK_at {k : Ky} : ∀ {l : List Ky} {j : Nat}, (∀ i y, i < j → l[i]? = some y → y.cmp k < 0) → (∀ y, l[j]? = some y → ¬ y.cmp k < 0) → insK k l = l.take j ++ [k] ++ l.drop j
  | [], j, _, _ => by simp [insK]
  | z :: t, 0, _, h2 => by
    unfold insK
    rw [if_neg (h2 z rfl)]
    rfl
  | z :: t, j + 1, h1, h2 => by
    unfold insK
    rw [if_pos (h1 0 z (by omega) rfl), insK_at (l := t) (j := j) (fun i y hi hy => h1 (i + 1) y (by omega) (by simpa using hy)) (fun y hy => h2 y (by simpa using hy))]
    rfl
/-- the keys of those of which something is so, by their order -/
def keysL (p : Cl → Bool) (L : List (Ky × Cl)) : List Ky := L.foldl (fun out q => if p q.2 then insK q.1 out else out) []
theorem keysL_snoc (p : Cl → Bool) (L : List (Ky × Cl)) (q : Ky × Cl) : keysL p (L ++ [q]) = if p q.2 then insK q.1 (keysL p L) else keysL p L := by unfold keysL; rw [List.foldl_append]; rfl
theorem snocC {α : Type} {P : List α → Prop} (h0 : P []) (hs : ∀ l x, P l → P (l ++ [x])) (l : List α) : P l := by
  rw [← List.reverse_reverse l]
  induction l.reverse with
  | nil => exact h0
  | cons x t ih =>
    rw [List.reverse_cons]
    exact hs _ _ ih
theorem keysL_len (p : Cl → Bool) (L : List (Ky × Cl)) : (keysL p L).length ≤ L.length := by
  refine snocC (P := fun L => (keysL p L).length ≤ L.length) (Nat.le_refl _) (fun l x ih => ?_) L
  rw [keysL_snoc, List.length_append]
  split
  · rw [len_insK]; simp; omega
  · simp; omega
theorem mem_keysL (p : Cl → Bool) (L : List (Ky × Cl)) : ∀ k, k ∈ keysL p L ↔ ∃ q ∈ L, q.1 = k ∧ p q.2 = true := by
  refine snocC (P := fun L => ∀ k, k ∈ keysL p L ↔ ∃ q ∈ L, q.1 = k ∧ p q.2 = true) (fun k => by simp [keysL]) (fun l x ih k => ?_) L
  rw [keysL_snoc]
  by_cases h : p x.2 = true
  · rw [if_pos h, mem_insK, ih]
    constructor
    · rintro (rfl | ⟨q, hq, e⟩)
      · exact ⟨x, by simp, rfl, h⟩
      · exact ⟨q, by simp [hq], e⟩
    · rintro ⟨q, hq, e1, e2⟩
      rcases List.mem_append.1 hq with hq | hq
      · exact .inr ⟨q, hq, e1, e2⟩
      · obtain rfl : q = x := by simpa using hq
        exact .inl e1.symm
  · rw [if_neg h, ih]
    constructor
    · rintro ⟨q, hq, e⟩
      exact ⟨q, by simp [hq], e⟩
    · rintro ⟨q, hq, e1, e2⟩
      rcases List.mem_append.1 hq with hq | hq
      · exact ⟨q, hq, e1, e2⟩
      · obtain rfl : q = x := by simpa using hq
        exact absurd e2 h
theorem sorted_keysL (p : Cl → Bool) (L : List (Ky × Cl)) : (L.map (·.1)).Nodup → KySorted (keysL p L) := by
  refine snocC (P := fun L => (L.map (·.1)).Nodup → KySorted (keysL p L)) (fun _ => List.Pairwise.nil) (fun l x ih hd => ?_) L
  rw [List.map_append] at hd
  obtain ⟨h1, _, h2⟩ := List.nodup_append.1 hd
  rw [keysL_snoc]
  split
  · refine sorted_insK (ih h1) (fun hm => ?_)
    obtain ⟨q, hq, e, _⟩ := (mem_keysL p l _).1 hm
    exact h2 q.1 (List.mem_map.2 ⟨q, hq, rfl⟩) x.1 (by simp) e
  · exact ih h1
set_option maxRecDepth 100000 in
set_option maxHeartbeats 2000000 in
theorem rsameK_any (a b : Option Addr) (ca cb : Nat) (ks : List Ky) (w : World) (h1 : kK.V w a ks) (h2 : kK.V w b ks) (hl : ks.length ≤ 2000000) :
    Calls Tryz.prog 9 #[.slice a ks.length ca, .slice b ks.length cb] w fun e w' => e = .returned (.bool true) ∧ ∃ n, w' = w.drewN n := by
  have HA := Lib.hid h1
  have HB := Lib.hid h2
  obtain ⟨m, hm⟩ : ∃ m, m = ks.length := ⟨_, rfl⟩
  have HM : Hid (m = ks.length ∧ m ≤ 2000000) := Lib.hid (by omega)
  have tm : ((m : Int) != (m : Int)) = false := by simp
  rw [← hm]
  clear h1 h2 hl hm
  go_enter Tryz.func9, Tryz.ntmps9
  go_wp2_with fail
  clear tm
  go_loopw [5] (fun i wr => ∃ j : Nat, i = .int .i64 (j : Int) ∧ j ≤ m ∧ ∃ n, wr = w.drewN n) (fun i _ => m - (intOf i).toNat)
  case atStart => exact ⟨0, rfl, Nat.zero_le _, 0, rfl⟩
  case round =>
    obtain ⟨j, rfl, hj, n, rfl⟩ := hrel
    have hm6 := HM.out.2
    by_cases hlt : j < m
    · obtain ⟨k, hk⟩ : ∃ k, ks[j]? = some k := ⟨_, List.getElem?_eq_getElem (by have := HM.out.1; omega)⟩
      obtain ⟨b1, o1, rfl, at1⟩ := HA.out (fun e => by rw [e] at hk; simp at hk)
      obtain ⟨b2, o2, rfl, at2⟩ := HB.out (fun e => by rw [e] at hk; simp at hk)
      have p0 := at1.cells j k hk 0 _ rfl
      have p1 := at1.cells j k hk 1 _ rfl
      have p2 := at1.cells j k hk 2 _ rfl
      have p3 := at1.cells j k hk 3 _ rfl
      have q0 := at2.cells j k hk 0 _ rfl
      have q1 := at2.cells j k hk 1 _ rfl
      have q2 := at2.cells j k hk 2 _ rfl
      have q3 := at2.cells j k hk 3 _ rfl
      have l1 := at1.lt
      have l2 := at2.lt
      simp [kK] at p0 p1 p2 p3 q0 q1 q2 q3
      clear at1 at2 hk
      go_wp2_with fail
      go_quiet (fail)
      go_wp2_with fail
      exact ⟨⟨j + 1, by simp, hlt, _, rfl⟩, by simp [intOf]; omega⟩
    · have tj : decide ((j : Int) < (m : Int)) = false := decide_eq_false (by omega)
      go_wp2_with fail
      go_ret
      exact ⟨rfl, _, rfl⟩
end Go.Proofs.YtkhkdedjffkhdaaGreat
namespace Go.Proofs.YtkhkdedjffkhdaaGreat
open Go.RowKit Go.Maps

theorem below_grownQ {w w' : World} {B : Nat} {v : Value} {l : List Ky} (h : kK.Own w B v l) (hg : w.grownBy w' v.ownBlock) (hB : B ≤ w.heap.size) : Below B w w' :=
  ⟨hg.os, hg.tape, hg.output, hg.size, fun k hk => hg.block k (by omega) (fun e => by have := (h.lt k e.symm).1; omega)⟩
def RKs (w : World) (p : Cl → Bool) (L : List (Ky × Cl)) (e : Ending) (w' : World) : Prop := ∃ v, e = .returned v ∧ kK.Own w' w.heap.size v (keysL p L) ∧ Below w.heap.size w w'

set_option maxRecDepth 100000 in
set_option maxHeartbeats 16000000 in
theorem rkeys0_any (rb cap room : Nat) (a : Option Addr) (L : List (Ky × Cl)) (who : Int) (w : World) (h : RV w rb a cap room L) (hok : ∀ q ∈ L, q.1.s.size ≤ maxLen) :
    Calls Tryz.prog 11 #[.pointer (some ⟨rb, 0, none⟩), .int .i64 0, .int .i64 who] w (RKs w (heldC who) L) := by
  obtain ⟨p, hp⟩ : ∃ p, p = (heldC who) := ⟨_, rfl⟩
  rw [← hp]
  have HPD := Lib.hid hp
  obtain ⟨m, hm⟩ : ∃ m, m = L.length := ⟨_, rfl⟩
  have HM : Hid (m = L.length ∧ m ≤ 1048576) := Lib.hid ⟨hm, by have := h.len; omega⟩
  have HRV : Hid (∀ u, Below w.heap.size w u → u.cell? ⟨rb, 1, none⟩ = some (.slice a m cap) ∧ rb < u.heap.size ∧ (L ≠ [] → ∃ lb, a = some ⟨lb, 0, none⟩ ∧ RAt u lb L)) := Lib.hid (fun u hu => by
    have h2 := h.below hu
    rw [hm]
    exact ⟨h2.cell1, h2.lt, h2.row⟩)
  have HOK := Lib.hid hok
  clear h hok hp hm
  go_enter Tryz.func11, Tryz.ntmps11
  go_wp2_with fail
  go_loopw [7, 8] (fun ov iv wr => ∃ (i : Nat) (ks : List Ky), iv = .int .i64 (i : Int) ∧ i ≤ m ∧ Hid (ks = keysL p (L.take i)) ∧ Hid (kK.Own wr w.heap.size ov ks) ∧ Hid (Below w.heap.size w wr)) (fun _ iv _ => m - (intOf iv).toNat)
  case atStart => exact ⟨0, [], rfl, Nat.zero_le _, Lib.hid rfl, Lib.hid (RowK.Own.nil kK _ _), Lib.hid (Below.refl _ _)⟩
  case round =>
    obtain ⟨i, ks, rfl, hi, HKS, HO, HB⟩ := hrel
    obtain ⟨oa, oc, rfl⟩ := HO.out.shape
    obtain ⟨n, hn⟩ : ∃ n, n = ks.length := ⟨_, rfl⟩
    have HN : Hid (n = ks.length ∧ n ≤ 1048576) := Lib.hid ⟨hn, by have h1 := keysL_len p (L.take i); rw [← HKS.out, List.length_take] at h1; have := HM.out; omega⟩
    rw [← hn] at HO ⊢
    clear hn
    obtain ⟨c0, z0, hrow⟩ := HRV.out wr HB.out
    have hm6 := HM.out.2
    by_cases hlt : i < m
    · obtain ⟨⟨k, x⟩, hx⟩ : ∃ q, L[i]? = some q := ⟨_, List.getElem?_eq_getElem (by have := HM.out.1; omega)⟩
      obtain ⟨lb, rfl, hat⟩ := hrow (fun e => by rw [e] at hx; simp at hx)
      obtain ⟨x0, x1, x2, x3, x4, x5, x6, x7, x8⟩ := hat.cells i k x hx
      have zl := hat.lt
      have HX := Lib.hid hx
      have HTK : Hid (L.take (i + 1) = L.take i ++ [(k, x)]) := Lib.hid (by rw [List.take_add_one, hx]; rfl)
      clear hx hat hrow
      go_upto_region 6 with fail
      clear x0 x1 x2 x3 x4 x5 x6 x7 x8 zl c0 z0
      obtain ⟨u0, hu0⟩ : ∃ u, u = wr.alloc (.cells #[.int .i64 k.kind, .int .i64 k.a, .int .i64 k.b, .string k.s, .int .u64 x.st, .bool (!x.ab), .string x.text, .bool x.lk, .int .i64 x.who] 90) := ⟨_, rfl⟩
      obtain ⟨xb, hxb⟩ : ∃ b, b = wr.heap.size := ⟨_, rfl⟩
      rw [← hu0, ← hxb]
      have HU0 : Hid (Below w.heap.size w u0) := Lib.hid (by rw [hu0]; exact HB.out.alloc HB.out.size _)
      have HO0 : Hid (kK.Own u0 w.heap.size (.slice oa n oc) ks) := Lib.hid (by rw [hu0]; exact HO.out.alloc _)
      have hbx : u0.heap[xb]? = some (.cells #[.int .i64 k.kind, .int .i64 k.a, .int .i64 k.b, .string k.s, .int .u64 x.st, .bool (!x.ab), .string x.text, .bool x.lk, .int .i64 x.who] 90 (0, 0)) := by rw [hu0, hxb]; exact heap_new _ _
      have HBX : Hid (∀ u, Below u0.heap.size u0 u → u.cell? ⟨xb, 0, none⟩ = some (.int .i64 k.kind) ∧ u.cell? ⟨xb, 1, none⟩ = some (.int .i64 k.a) ∧ u.cell? ⟨xb, 2, none⟩ = some (.int .i64 k.b) ∧ u.cell? ⟨xb, 3, none⟩ = some (.string k.s) ∧ xb < u.heap.size) := Lib.hid (fun u hu => by
        have e := (hu.block _ (Array.getElem?_eq_some_iff.1 hbx).1).trans hbx
        exact ⟨by rw [cell_of_blk e]; rfl, by rw [cell_of_blk e]; rfl, by rw [cell_of_blk e]; rfl, by rw [cell_of_blk e]; rfl, (Array.getElem?_eq_some_iff.1 e).1⟩)
      have b5 := cell_of_blk hbx 5
      have b7 := cell_of_blk hbx 7
      have b8 := cell_of_blk hbx 8
      have zx := (Array.getElem?_eq_some_iff.1 hbx).1
      simp at b5 b7 b8
      clear hu0 hxb hbx
      cases hlk : x.lk
      case false =>
        rw [hlk] at b7
        have HPX : Hid (p x = false) := Lib.hid (by rw [HPD.out]; unfold heldC; rw [hlk]; rfl)
        clear hlk
        go_wp2_with fail
        exact ⟨⟨i + 1, ks, by simp, hlt, Lib.hid (by rw [HTK.out, keysL_snoc, if_neg (by have := HPX.out; show ¬ p x = true; rw [this]; decide)]; exact HKS.out), HO0, HU0⟩, by simp [intOf]; omega⟩
      case true =>
      rw [hlk] at b7
      by_cases hwh : x.who = who
      case neg =>
        have tw : (x.who != who) = true := by simpa using hwh
        have HPX : Hid (p x = false) := Lib.hid (by rw [HPD.out]; unfold heldC; rw [hlk]; simp [hwh])
        clear hlk hwh
        go_wp2_with fail
        exact ⟨⟨i + 1, ks, by simp, hlt, Lib.hid (by rw [HTK.out, keysL_snoc, if_neg (by have := HPX.out; show ¬ p x = true; rw [this]; decide)]; exact HKS.out), HO0, HU0⟩, by simp [intOf]; omega⟩
      case pos =>
      have tw : (x.who != who) = false := by simpa using hwh
      have HPX : Hid (p x = true) := Lib.hid (by rw [HPD.out]; unfold heldC; rw [hlk]; simp [hwh])
      clear hlk hwh
      go_wp2_with fail
      clear b5 b7 b8 zx
      go_loopw [10] (fun jv wk => ∃ j : Nat, jv = .int .i64 (j : Int) ∧ j ≤ n ∧ Hid (Below u0.heap.size u0 wk) ∧ Hid (∀ (q : Nat) (y : Ky), q < j → ks[q]? = some y → y.cmp k < 0)) (fun jv _ => n - (intOf jv).toNat)
      case atStart => exact ⟨0, rfl, Nat.zero_le _, Lib.hid (Below.refl _ _), Lib.hid (fun q y hq => absurd hq (Nat.not_lt_zero _))⟩
      case round =>
        obtain ⟨j, rfl, hj, HBJ, HLT⟩ := hrel
        have hn6 := HN.out.2
        obtain ⟨p0, p1, p2, p3, zb⟩ := HBX.out wr HBJ.out
        by_cases hlj : j < n
        · obtain ⟨y, hy⟩ : ∃ y, ks[j]? = some y := ⟨_, List.getElem?_eq_getElem (by have := HN.out.1; omega)⟩
          obtain ⟨ob, oo, hoa, hat⟩ := (HO0.out.below HBJ.out).toV (fun e => by rw [e] at hy; simp at hy)
          subst hoa
          have r0 := hat.cells j y hy 0 _ rfl
          have r1 := hat.cells j y hy 1 _ rfl
          have r2 := hat.cells j y hy 2 _ rfl
          have r3 := hat.cells j y hy 3 _ rfl
          simp [kK] at r0 r1 r2 r3
          have zo := hat.lt
          obtain ⟨c, hc⟩ : ∃ c, c = y.cmp k := ⟨_, rfl⟩
          have HCC := Lib.hid hc
          have hys : y.s.size ≤ maxLen := by
            have hm := List.mem_of_getElem? hy
            rw [HKS.out] at hm
            obtain ⟨q, hq, e, _⟩ := (mem_keysL p _ _).1 hm
            rw [← e]
            exact HOK.out q (List.mem_of_mem_take hq)
          have HORD : Hid (Calls Tryz.prog 34 #[.agg #[.int .i64 y.kind, .int .i64 y.a, .int .i64 y.b, .string y.s], .agg #[.int .i64 k.kind, .int .i64 k.a, .int .i64 k.b, .string k.s]] wr.drew fun e w' => e = .returned (.int .i64 c) ∧ Below wr.drew.heap.size wr.drew w') := Lib.hid (by rw [hc]; exact r9order_any y k wr.drew hys)
          have hbd : Below wr.heap.size wr wr.drew := below_drewN (Below.refl _ _) 1
          have KS : Hid (∀ u, Below wr.drew.heap.size wr.drew u → u.cell? ⟨ob, oo + j * 4, none⟩ = some (.int .i64 y.kind) ∧ u.cell? ⟨ob, oo + j * 4 + 1, none⟩ = some (.int .i64 y.a) ∧ u.cell? ⟨ob, oo + j * 4 + 2, none⟩ = some (.int .i64 y.b) ∧ u.cell? ⟨ob, oo + j * 4 + 3, none⟩ = some (.string y.s) ∧ u.cell? ⟨xb, 0, none⟩ = some (.int .i64 k.kind) ∧ u.cell? ⟨xb, 1, none⟩ = some (.int .i64 k.a) ∧ u.cell? ⟨xb, 2, none⟩ = some (.int .i64 k.b) ∧ u.cell? ⟨xb, 3, none⟩ = some (.string k.s)) := Lib.hid (fun u hu => by
            have h := below_then hbd hu
            exact ⟨below_cell h _ zo r0, below_cell h _ zo r1, below_cell h _ zo r2, below_cell h _ zo r3, below_cell h _ zb p0, below_cell h _ zb p1, below_cell h _ zb p2, below_cell h _ zb p3⟩)
          have HBD : Hid (Below u0.heap.size u0 wr.drew) := Lib.hid (below_then HBJ.out hbd)
          have HY := Lib.hid hy
          have tn : decide (j < n) = true := decide_eq_true hlj
          have tn2 : decide ((j : Int) < (n : Int)) = true := decide_eq_true (by omega)
          clear hy hat hc hys hbd
          by_cases hc0 : c < 0
          · have tc : decide (c < 0) = true := decide_eq_true hc0
            have HLT2 : Hid (∀ (q : Nat) (z : Ky), q < j + 1 → ks[q]? = some z → z.cmp k < 0) := Lib.hid (fun q z hq hz => by
              by_cases hqj : q < j
              · exact HLT.out q z hqj hz
              · obtain rfl : q = j := by omega
                rw [HY.out] at hz
                injection hz with hz
                rw [← hz, ← HCC.out]
                exact hc0)
            clear hc0
            go_upto_region 8 with fail
            go_region_held3 (fun w' => w'.cell? ⟨ob, oo + j * 4, none⟩ = some (.int .i64 y.kind) ∧ w'.cell? ⟨ob, oo + j * 4 + 1, none⟩ = some (.int .i64 y.a) ∧ w'.cell? ⟨ob, oo + j * 4 + 2, none⟩ = some (.int .i64 y.b) ∧ w'.cell? ⟨ob, oo + j * 4 + 3, none⟩ = some (.string y.s) ∧ w'.cell? ⟨xb, 0, none⟩ = some (.int .i64 k.kind) ∧ w'.cell? ⟨xb, 1, none⟩ = some (.int .i64 k.a) ∧ w'.cell? ⟨xb, 2, none⟩ = some (.int .i64 k.b) ∧ w'.cell? ⟨xb, 3, none⟩ = some (.string k.s))
              (first | exact KS.out _ (Below.refl _ _) | exact KS.out _ HB6.out)
              (first | (go_at_call 34; (with_reducible refine HORD.out.mono ?_); rintro e w6 ⟨rfl, b6⟩; have HB6 := Lib.hid b6; clear b6) | fail)
            all_goals (
              go_wp2_with fail
              exact ⟨⟨j + 1, by simp, hlj, Lib.hid (below_then HBD.out HB6.out), HLT2⟩, by simp [intOf]; omega⟩)
          · have tc : decide (c < 0) = false := decide_eq_false hc0
            have HGE : Hid (∀ z, ks[j]? = some z → ¬ z.cmp k < 0) := Lib.hid (fun z hz => by
              rw [HY.out] at hz
              injection hz with hz
              rw [← hz, ← HCC.out]
              exact hc0)
            clear hc0
            go_upto_region 8 with fail
            go_region_held3 (fun w' => w'.cell? ⟨ob, oo + j * 4, none⟩ = some (.int .i64 y.kind) ∧ w'.cell? ⟨ob, oo + j * 4 + 1, none⟩ = some (.int .i64 y.a) ∧ w'.cell? ⟨ob, oo + j * 4 + 2, none⟩ = some (.int .i64 y.b) ∧ w'.cell? ⟨ob, oo + j * 4 + 3, none⟩ = some (.string y.s) ∧ w'.cell? ⟨xb, 0, none⟩ = some (.int .i64 k.kind) ∧ w'.cell? ⟨xb, 1, none⟩ = some (.int .i64 k.a) ∧ w'.cell? ⟨xb, 2, none⟩ = some (.int .i64 k.b) ∧ w'.cell? ⟨xb, 3, none⟩ = some (.string k.s))
              (first | exact KS.out _ (Below.refl _ _) | exact KS.out _ HB6.out)
              (first | (go_at_call 34; (with_reducible refine HORD.out.mono ?_); rintro e w6 ⟨rfl, b6⟩; have HB6 := Lib.hid b6; clear b6) | fail)
            all_goals (
              clear p0 p1 p2 p3 zb r0 r1 r2 r3 zo tn tn2 tc
              go_upto_region 11 with fail
              obtain ⟨wq, hwq⟩ : ∃ wq : World, wq = w6 := ⟨_, rfl⟩
              rw [← hwq]
              have HBQ : Hid (Below u0.heap.size u0 wq) := Lib.hid (by rw [hwq]; exact below_then HBD.out HB6.out)
              clear hwq
              have HOQ := Lib.hid (HO0.out.below HBQ.out)
              obtain ⟨a1, ha1⟩ : ∃ a1, kK.pfx ((some ⟨ob, oo, none⟩) : Option Addr) oc = a1 := ⟨_, rfl⟩
              obtain ⟨a3, ha3⟩ : ∃ a3, kK.sfx ((some ⟨ob, oo, none⟩) : Option Addr) oc j = a3 := ⟨_, rfl⟩
              obtain ⟨n3, hn3⟩ : ∃ n3, n - j = n3 := ⟨_, rfl⟩
              obtain ⟨c3, hc3⟩ : ∃ c3, oc - j = c3 := ⟨_, rfl⟩
              have HCP : Hid (n ≤ oc) := Lib.hid (by have := HOQ.out.cap; have := HN.out; omega)
              have HV1 : Hid (∀ u, Below wq.heap.size wq u → kK.V u a1 (ks.take j)) := Lib.hid (fun u hu => by rw [← ha1]; exact (HOQ.out.below hu).toV.take j oc)
              have HV3 : Hid (∀ u, Below wq.heap.size wq u → kK.V u a3 (ks.drop j)) := Lib.hid (fun u hu => by rw [← ha3]; exact (HOQ.out.below hu).toV.drop (by have := HCP.out; have := HN.out; omega))
              have HON : Hid (((some ⟨ob, oo, none⟩) : Option Addr) = none → oc = 0) := Lib.hid (fun e => by first | (cases e; done) | (have h := HOQ.out; rw [e] at h; exact h.noneCap))
              have HNN1 : Hid (a1 = none → oc = 0) := Lib.hid (fun e => RowK.pfx_none (k := kK) (a := ((some ⟨ob, oo, none⟩) : Option Addr)) HON.out (ha1.trans e))
              have HNN3 : Hid (a3 = none → c3 = 0) := Lib.hid (fun e => by rw [← hc3]; exact RowK.sfx_none (k := kK) (a := ((some ⟨ob, oo, none⟩) : Option Addr)) HON.out (ha3.trans e))
              have HL1 : Hid ((ks.take j).length = j) := Lib.hid (by rw [List.length_take]; have := HN.out; omega)
              have HL3 : Hid ((ks.drop j).length = n3) := Lib.hid (by rw [List.length_drop]; have := HN.out; omega)
              have HA1 := Lib.hid ha1
              have HA3 := Lib.hid ha3
              have HN3 := Lib.hid hn3
              have HC3 := Lib.hid hc3
              have hjc : j ≤ oc := Nat.le_trans hj HCP.out
              have HWQ : Hid (w.heap.size ≤ wq.heap.size) := Lib.hid (Nat.le_trans HU0.out.size HBQ.out.size)
              clear ha1 ha3 hn3 hc3
              go_upto_region 12 with (first | (refine RowK.wpList_pfx (k := kK) (o := ⟨some 69, _, _, _, _, _⟩) rfl (.tmp 67) (.tmp 68) rfl _ n oc j rfl rfl hjc HA1.out ?_) | (at_builtin; refine RowK.wpList_app (k := kK) (B := w.heap.size) (v := .slice none 0 0) (l := []) rfl (.tmp 66) (.tmp 69) rfl rfl (RowK.Own.nil kK _ _) a1 j (ks.take j) oc rfl HL1.out (HV1.out wq (Below.refl _ _)) HNN1.out (by have := HN.out; rw [HL1.out]; simp; omega) HWQ.out ?_; rintro v1 u1 g1; have G1 := Lib.hid (show kK.App wq w.heap.size (.slice none 0 0) (ks.take j) v1 u1 from g1); clear g1))
              have HB1 : Hid (Below wq.heap.size wq u1) := Lib.hid ⟨G1.out.2.1.os, G1.out.2.1.tape, G1.out.2.1.output, G1.out.2.1.size, fun q hq => G1.out.2.1.block q hq (fun e => by cases e)⟩
              obtain ⟨p0, p1, p2, p3, zb⟩ := HBX.out u1 (below_then HBQ.out HB1.out)
              obtain ⟨W2, hW2⟩ : ∃ W2, W2 = u1.alloc (.cells #[.int .i64 k.kind, .int .i64 k.a, .int .i64 k.b, .string k.s] 47) := ⟨_, rfl⟩
              have hb2 : Below u1.heap.size u1 W2 := by rw [hW2]; exact below_box u1 _
              have HB2 : Hid (Below wq.heap.size wq W2) := Lib.hid (below_then HB1.out hb2)
              have HO2 : Hid (kK.Own W2 w.heap.size v1 (ks.take j)) := Lib.hid (G1.out.1.below hb2)
              have HXV : Hid (kK.V W2 (some ⟨u1.heap.size, 0, none⟩) [k]) := Lib.hid (by rw [hW2]; exact fun _ => ⟨_, 0, rfl, RowK.new_at (k := kK) (heap_new u1 _) (by simp [RowK.cells, kK, Ky.enc])⟩)
              have HW2 := Lib.hid hW2.symm
              clear hW2 hb2
              go_upto_region 13 with (first | (at_builtin; rw [HW2.out]; refine RowK.wpList_app (k := kK) (B := w.heap.size) (v := v1) (l := ks.take j) rfl (.tmp 71) (.tmp 74) rfl rfl HO2.out (some ⟨u1.heap.size, 0, none⟩) 1 [k] 1 rfl rfl HXV.out (fun e => by cases e) (by have := HN.out; rw [HL1.out]; simp; omega) (Nat.le_trans HWQ.out HB2.out.size) ?_; rintro v2 u2 g2; have G2 := Lib.hid g2; clear g2))
              clear p0 p1 p2 p3 zb
              have HB3 : Hid (Below w.heap.size wq u2) := Lib.hid ((HB2.out.mono HWQ.out).trans (below_grownQ HO2.out G2.out.2.1 (Nat.le_trans HWQ.out HB2.out.size)))
              have HV33 : Hid (kK.V u2 a3 (ks.drop j)) := Lib.hid (fun hne => by
                obtain ⟨b3, o3, e3, hat3⟩ := HV3.out wq (Below.refl _ _) hne
                have hat4 := hat3.below HB2.out
                refine ⟨b3, o3, e3, hat4.of_block (G2.out.2.1.block b3 hat4.lt (fun e => ?_))⟩
                rcases G1.out.2.2 with q | q
                · rw [q] at e; cases e
                · rw [q] at e
                  injection e with e
                  have := hat3.lt
                  omega)
              go_wp2_with (first | (refine RowK.wpList_sfx (k := kK) (o := ⟨some 79, _, _, _, _, _⟩) rfl (.tmp 77) (.tmp 78) rfl _ n oc j rfl rfl hj HA3.out HN3.out HC3.out ?_) | (at_builtin; refine RowK.wpList_app (k := kK) (B := w.heap.size) (v := v2) (l := ks.take j ++ [k]) rfl (.tmp 76) (.tmp 79) rfl rfl G2.out.1 a3 n3 (ks.drop j) c3 rfl HL3.out HV33.out HNN3.out (by have := HN.out; have := HL1.out; have := HL3.out; have := HN3.out; simp only [List.length_append, List.length_cons, List.length_nil]; omega) (Nat.le_trans HWQ.out HB3.out.size) ?_; rintro v3 u3 g3; have G3 := Lib.hid g3; clear g3) | fail)
              have HINS : ks.take j ++ [k] ++ ks.drop j = insK k ks := (insK_at HLT.out (fun z hz => by have := HGE.out z hz; omega)).symm
              exact ⟨⟨i + 1, insK k ks, by simp, hlt, Lib.hid (by rw [HTK.out, keysL_snoc, if_pos (show p (k, x).2 = true from HPX.out), ← HKS.out]), Lib.hid (by rw [← HINS]; exact G3.out.1), Lib.hid (((HU0.out.trans (HBQ.out.mono HU0.out.size)).trans HB3.out).trans (below_grownQ G2.out.1 G3.out.2.1 (Nat.le_trans HWQ.out HB3.out.size)))⟩, by simp [intOf]; omega⟩
              )
        · have hjn : j = n := by omega
          have tn : decide (j < n) = false := decide_eq_false hlj
          have tn2 : decide ((j : Int) < (n : Int)) = false := decide_eq_false (by omega)
          have HGE : Hid (∀ z, ks[j]? = some z → ¬ z.cmp k < 0) := Lib.hid (fun z hz => by have := (List.getElem?_eq_some_iff.1 hz).1; have := HN.out.1; omega)
          go_upto_region 8 with fail
          go_quiet (fail)
          clear p0 p1 p2 p3 zb tn tn2 hjn
          go_upto_region 11 with fail
          obtain ⟨wq, hwq⟩ : ∃ wq : World, wq = wr.drewN nq := ⟨_, rfl⟩
          rw [← hwq]
          have HBQ : Hid (Below u0.heap.size u0 wq) := Lib.hid (by rw [hwq]; exact below_drewN HBJ.out _)
          clear hwq
          have HOQ := Lib.hid (HO0.out.below HBQ.out)
          obtain ⟨a1, ha1⟩ : ∃ a1, kK.pfx (oa : Option Addr) oc = a1 := ⟨_, rfl⟩
          obtain ⟨a3, ha3⟩ : ∃ a3, kK.sfx (oa : Option Addr) oc j = a3 := ⟨_, rfl⟩
          obtain ⟨n3, hn3⟩ : ∃ n3, n - j = n3 := ⟨_, rfl⟩
          obtain ⟨c3, hc3⟩ : ∃ c3, oc - j = c3 := ⟨_, rfl⟩
          have HCP : Hid (n ≤ oc) := Lib.hid (by have := HOQ.out.cap; have := HN.out; omega)
          have HV1 : Hid (∀ u, Below wq.heap.size wq u → kK.V u a1 (ks.take j)) := Lib.hid (fun u hu => by rw [← ha1]; exact (HOQ.out.below hu).toV.take j oc)
          have HV3 : Hid (∀ u, Below wq.heap.size wq u → kK.V u a3 (ks.drop j)) := Lib.hid (fun u hu => by rw [← ha3]; exact (HOQ.out.below hu).toV.drop (by have := HCP.out; have := HN.out; omega))
          have HON : Hid ((oa : Option Addr) = none → oc = 0) := Lib.hid (fun e => by first | (cases e; done) | (have h := HOQ.out; rw [e] at h; exact h.noneCap))
          have HNN1 : Hid (a1 = none → oc = 0) := Lib.hid (fun e => RowK.pfx_none (k := kK) (a := (oa : Option Addr)) HON.out (ha1.trans e))
          have HNN3 : Hid (a3 = none → c3 = 0) := Lib.hid (fun e => by rw [← hc3]; exact RowK.sfx_none (k := kK) (a := (oa : Option Addr)) HON.out (ha3.trans e))
          have HL1 : Hid ((ks.take j).length = j) := Lib.hid (by rw [List.length_take]; have := HN.out; omega)
          have HL3 : Hid ((ks.drop j).length = n3) := Lib.hid (by rw [List.length_drop]; have := HN.out; omega)
          have HA1 := Lib.hid ha1
          have HA3 := Lib.hid ha3
          have HN3 := Lib.hid hn3
          have HC3 := Lib.hid hc3
          have hjc : j ≤ oc := Nat.le_trans hj HCP.out
          have HWQ : Hid (w.heap.size ≤ wq.heap.size) := Lib.hid (Nat.le_trans HU0.out.size HBQ.out.size)
          clear ha1 ha3 hn3 hc3
          go_upto_region 12 with (first | (refine RowK.wpList_pfx (k := kK) (o := ⟨some 69, _, _, _, _, _⟩) rfl (.tmp 67) (.tmp 68) rfl _ n oc j rfl rfl hjc HA1.out ?_) | (at_builtin; refine RowK.wpList_app (k := kK) (B := w.heap.size) (v := .slice none 0 0) (l := []) rfl (.tmp 66) (.tmp 69) rfl rfl (RowK.Own.nil kK _ _) a1 j (ks.take j) oc rfl HL1.out (HV1.out wq (Below.refl _ _)) HNN1.out (by have := HN.out; rw [HL1.out]; simp; omega) HWQ.out ?_; rintro v1 u1 g1; have G1 := Lib.hid (show kK.App wq w.heap.size (.slice none 0 0) (ks.take j) v1 u1 from g1); clear g1))
          have HB1 : Hid (Below wq.heap.size wq u1) := Lib.hid ⟨G1.out.2.1.os, G1.out.2.1.tape, G1.out.2.1.output, G1.out.2.1.size, fun q hq => G1.out.2.1.block q hq (fun e => by cases e)⟩
          obtain ⟨p0, p1, p2, p3, zb⟩ := HBX.out u1 (below_then HBQ.out HB1.out)
          obtain ⟨W2, hW2⟩ : ∃ W2, W2 = u1.alloc (.cells #[.int .i64 k.kind, .int .i64 k.a, .int .i64 k.b, .string k.s] 47) := ⟨_, rfl⟩
          have hb2 : Below u1.heap.size u1 W2 := by rw [hW2]; exact below_box u1 _
          have HB2 : Hid (Below wq.heap.size wq W2) := Lib.hid (below_then HB1.out hb2)
          have HO2 : Hid (kK.Own W2 w.heap.size v1 (ks.take j)) := Lib.hid (G1.out.1.below hb2)
          have HXV : Hid (kK.V W2 (some ⟨u1.heap.size, 0, none⟩) [k]) := Lib.hid (by rw [hW2]; exact fun _ => ⟨_, 0, rfl, RowK.new_at (k := kK) (heap_new u1 _) (by simp [RowK.cells, kK, Ky.enc])⟩)
          have HW2 := Lib.hid hW2.symm
          clear hW2 hb2
          go_upto_region 13 with (first | (at_builtin; rw [HW2.out]; refine RowK.wpList_app (k := kK) (B := w.heap.size) (v := v1) (l := ks.take j) rfl (.tmp 71) (.tmp 74) rfl rfl HO2.out (some ⟨u1.heap.size, 0, none⟩) 1 [k] 1 rfl rfl HXV.out (fun e => by cases e) (by have := HN.out; rw [HL1.out]; simp; omega) (Nat.le_trans HWQ.out HB2.out.size) ?_; rintro v2 u2 g2; have G2 := Lib.hid g2; clear g2))
          clear p0 p1 p2 p3 zb
          have HB3 : Hid (Below w.heap.size wq u2) := Lib.hid ((HB2.out.mono HWQ.out).trans (below_grownQ HO2.out G2.out.2.1 (Nat.le_trans HWQ.out HB2.out.size)))
          have HV33 : Hid (kK.V u2 a3 (ks.drop j)) := Lib.hid (fun hne => by
            obtain ⟨b3, o3, e3, hat3⟩ := HV3.out wq (Below.refl _ _) hne
            have hat4 := hat3.below HB2.out
            refine ⟨b3, o3, e3, hat4.of_block (G2.out.2.1.block b3 hat4.lt (fun e => ?_))⟩
            rcases G1.out.2.2 with q | q
            · rw [q] at e; cases e
            · rw [q] at e
              injection e with e
              have := hat3.lt
              omega)
          go_wp2_with (first | (refine RowK.wpList_sfx (k := kK) (o := ⟨some 79, _, _, _, _, _⟩) rfl (.tmp 77) (.tmp 78) rfl _ n oc j rfl rfl hj HA3.out HN3.out HC3.out ?_) | (at_builtin; refine RowK.wpList_app (k := kK) (B := w.heap.size) (v := v2) (l := ks.take j ++ [k]) rfl (.tmp 76) (.tmp 79) rfl rfl G2.out.1 a3 n3 (ks.drop j) c3 rfl HL3.out HV33.out HNN3.out (by have := HN.out; have := HL1.out; have := HL3.out; have := HN3.out; simp only [List.length_append, List.length_cons, List.length_nil]; omega) (Nat.le_trans HWQ.out HB3.out.size) ?_; rintro v3 u3 g3; have G3 := Lib.hid g3; clear g3) | fail)
          have HINS : ks.take j ++ [k] ++ ks.drop j = insK k ks := (insK_at HLT.out (fun z hz => by have := HGE.out z hz; omega)).symm
          exact ⟨⟨i + 1, insK k ks, by simp, hlt, Lib.hid (by rw [HTK.out, keysL_snoc, if_pos (show p (k, x).2 = true from HPX.out), ← HKS.out]), Lib.hid (by rw [← HINS]; exact G3.out.1), Lib.hid (((HU0.out.trans (HBQ.out.mono HU0.out.size)).trans HB3.out).trans (below_grownQ G2.out.1 G3.out.2.1 (Nat.le_trans HWQ.out HB3.out.size)))⟩, by simp [intOf]; omega⟩
    · have hin : i = m := by omega
      have ti : decide ((i : Int) < (m : Int)) = false := decide_eq_false (by omega)
      go_wp2_with fail
      go_ret
      refine ⟨_, rfl, ?_, HB.out⟩
      have h := HO.out
      rw [HKS.out, List.take_of_length_le (by have := HM.out; omega)] at h
      have h2 : n = (keysL p L).length := by rw [HN.out.1, HKS.out, List.take_of_length_le (by have := HM.out; omega)]
      exact h

set_option maxRecDepth 100000 in
set_option maxHeartbeats 16000000 in
theorem rkeys1_any (rb cap room : Nat) (a : Option Addr) (L : List (Ky × Cl)) (who : Int) (w : World) (h : RV w rb a cap room L) (hok : ∀ q ∈ L, q.1.s.size ≤ maxLen) :
    Calls Tryz.prog 11 #[.pointer (some ⟨rb, 0, none⟩), .int .i64 1, .int .i64 who] w (RKs w (hasC) L) := by
  obtain ⟨p, hp⟩ : ∃ p, p = (hasC) := ⟨_, rfl⟩
  rw [← hp]
  have HPD := Lib.hid hp
  obtain ⟨m, hm⟩ : ∃ m, m = L.length := ⟨_, rfl⟩
  have HM : Hid (m = L.length ∧ m ≤ 1048576) := Lib.hid ⟨hm, by have := h.len; omega⟩
  have HRV : Hid (∀ u, Below w.heap.size w u → u.cell? ⟨rb, 1, none⟩ = some (.slice a m cap) ∧ rb < u.heap.size ∧ (L ≠ [] → ∃ lb, a = some ⟨lb, 0, none⟩ ∧ RAt u lb L)) := Lib.hid (fun u hu => by
    have h2 := h.below hu
    rw [hm]
    exact ⟨h2.cell1, h2.lt, h2.row⟩)
  have HOK := Lib.hid hok
  clear h hok hp hm
  go_enter Tryz.func11, Tryz.ntmps11
  go_wp2_with fail
  go_loopw [7, 8] (fun ov iv wr => ∃ (i : Nat) (ks : List Ky), iv = .int .i64 (i : Int) ∧ i ≤ m ∧ Hid (ks = keysL p (L.take i)) ∧ Hid (kK.Own wr w.heap.size ov ks) ∧ Hid (Below w.heap.size w wr)) (fun _ iv _ => m - (intOf iv).toNat)
  case atStart => exact ⟨0, [], rfl, Nat.zero_le _, Lib.hid rfl, Lib.hid (RowK.Own.nil kK _ _), Lib.hid (Below.refl _ _)⟩
  case round =>
    obtain ⟨i, ks, rfl, hi, HKS, HO, HB⟩ := hrel
    obtain ⟨oa, oc, rfl⟩ := HO.out.shape
    obtain ⟨n, hn⟩ : ∃ n, n = ks.length := ⟨_, rfl⟩
    have HN : Hid (n = ks.length ∧ n ≤ 1048576) := Lib.hid ⟨hn, by have h1 := keysL_len p (L.take i); rw [← HKS.out, List.length_take] at h1; have := HM.out; omega⟩
    rw [← hn] at HO ⊢
    clear hn
    obtain ⟨c0, z0, hrow⟩ := HRV.out wr HB.out
    have hm6 := HM.out.2
    by_cases hlt : i < m
    · obtain ⟨⟨k, x⟩, hx⟩ : ∃ q, L[i]? = some q := ⟨_, List.getElem?_eq_getElem (by have := HM.out.1; omega)⟩
      obtain ⟨lb, rfl, hat⟩ := hrow (fun e => by rw [e] at hx; simp at hx)
      obtain ⟨x0, x1, x2, x3, x4, x5, x6, x7, x8⟩ := hat.cells i k x hx
      have zl := hat.lt
      have HX := Lib.hid hx
      have HTK : Hid (L.take (i + 1) = L.take i ++ [(k, x)]) := Lib.hid (by rw [List.take_add_one, hx]; rfl)
      clear hx hat hrow
      go_upto_region 6 with fail
      clear x0 x1 x2 x3 x4 x5 x6 x7 x8 zl c0 z0
      obtain ⟨u0, hu0⟩ : ∃ u, u = wr.alloc (.cells #[.int .i64 k.kind, .int .i64 k.a, .int .i64 k.b, .string k.s, .int .u64 x.st, .bool (!x.ab), .string x.text, .bool x.lk, .int .i64 x.who] 90) := ⟨_, rfl⟩
      obtain ⟨xb, hxb⟩ : ∃ b, b = wr.heap.size := ⟨_, rfl⟩
      rw [← hu0, ← hxb]
      have HU0 : Hid (Below w.heap.size w u0) := Lib.hid (by rw [hu0]; exact HB.out.alloc HB.out.size _)
      have HO0 : Hid (kK.Own u0 w.heap.size (.slice oa n oc) ks) := Lib.hid (by rw [hu0]; exact HO.out.alloc _)
      have hbx : u0.heap[xb]? = some (.cells #[.int .i64 k.kind, .int .i64 k.a, .int .i64 k.b, .string k.s, .int .u64 x.st, .bool (!x.ab), .string x.text, .bool x.lk, .int .i64 x.who] 90 (0, 0)) := by rw [hu0, hxb]; exact heap_new _ _
      have HBX : Hid (∀ u, Below u0.heap.size u0 u → u.cell? ⟨xb, 0, none⟩ = some (.int .i64 k.kind) ∧ u.cell? ⟨xb, 1, none⟩ = some (.int .i64 k.a) ∧ u.cell? ⟨xb, 2, none⟩ = some (.int .i64 k.b) ∧ u.cell? ⟨xb, 3, none⟩ = some (.string k.s) ∧ xb < u.heap.size) := Lib.hid (fun u hu => by
        have e := (hu.block _ (Array.getElem?_eq_some_iff.1 hbx).1).trans hbx
        exact ⟨by rw [cell_of_blk e]; rfl, by rw [cell_of_blk e]; rfl, by rw [cell_of_blk e]; rfl, by rw [cell_of_blk e]; rfl, (Array.getElem?_eq_some_iff.1 e).1⟩)
      have b5 := cell_of_blk hbx 5
      have b7 := cell_of_blk hbx 7
      have b8 := cell_of_blk hbx 8
      have zx := (Array.getElem?_eq_some_iff.1 hbx).1
      simp at b5 b7 b8
      clear hu0 hxb hbx
      rcases Bool.eq_false_or_eq_true x.ab with hab | hab
      case inl =>
        rw [hab] at b5
        simp only [Bool.not_true] at b5
        have HPX : Hid (p x = false) := Lib.hid (by rw [HPD.out]; unfold hasC; rw [hab]; rfl)
        clear hab
        go_wp2_with fail
        exact ⟨⟨i + 1, ks, by simp, hlt, Lib.hid (by rw [HTK.out, keysL_snoc, if_neg (by have := HPX.out; show ¬ p x = true; rw [this]; decide)]; exact HKS.out), HO0, HU0⟩, by simp [intOf]; omega⟩
      case inr =>
      rw [hab] at b5
      simp only [Bool.not_false] at b5
      have HPX : Hid (p x = true) := Lib.hid (by rw [HPD.out]; unfold hasC; rw [hab]; rfl)
      clear hab
      go_wp2_with fail
      clear b5 b7 b8 zx
      go_loopw [10] (fun jv wk => ∃ j : Nat, jv = .int .i64 (j : Int) ∧ j ≤ n ∧ Hid (Below u0.heap.size u0 wk) ∧ Hid (∀ (q : Nat) (y : Ky), q < j → ks[q]? = some y → y.cmp k < 0)) (fun jv _ => n - (intOf jv).toNat)
      case atStart => exact ⟨0, rfl, Nat.zero_le _, Lib.hid (Below.refl _ _), Lib.hid (fun q y hq => absurd hq (Nat.not_lt_zero _))⟩
      case round =>
        obtain ⟨j, rfl, hj, HBJ, HLT⟩ := hrel
        have hn6 := HN.out.2
        obtain ⟨p0, p1, p2, p3, zb⟩ := HBX.out wr HBJ.out
        by_cases hlj : j < n
        · obtain ⟨y, hy⟩ : ∃ y, ks[j]? = some y := ⟨_, List.getElem?_eq_getElem (by have := HN.out.1; omega)⟩
          obtain ⟨ob, oo, hoa, hat⟩ := (HO0.out.below HBJ.out).toV (fun e => by rw [e] at hy; simp at hy)
          subst hoa
          have r0 := hat.cells j y hy 0 _ rfl
          have r1 := hat.cells j y hy 1 _ rfl
          have r2 := hat.cells j y hy 2 _ rfl
          have r3 := hat.cells j y hy 3 _ rfl
          simp [kK] at r0 r1 r2 r3
          have zo := hat.lt
          obtain ⟨c, hc⟩ : ∃ c, c = y.cmp k := ⟨_, rfl⟩
          have HCC := Lib.hid hc
          have hys : y.s.size ≤ maxLen := by
            have hm := List.mem_of_getElem? hy
            rw [HKS.out] at hm
            obtain ⟨q, hq, e, _⟩ := (mem_keysL p _ _).1 hm
            rw [← e]
            exact HOK.out q (List.mem_of_mem_take hq)
          have HORD : Hid (Calls Tryz.prog 34 #[.agg #[.int .i64 y.kind, .int .i64 y.a, .int .i64 y.b, .string y.s], .agg #[.int .i64 k.kind, .int .i64 k.a, .int .i64 k.b, .string k.s]] wr.drew fun e w' => e = .returned (.int .i64 c) ∧ Below wr.drew.heap.size wr.drew w') := Lib.hid (by rw [hc]; exact r9order_any y k wr.drew hys)
          have hbd : Below wr.heap.size wr wr.drew := below_drewN (Below.refl _ _) 1
          have KS : Hid (∀ u, Below wr.drew.heap.size wr.drew u → u.cell? ⟨ob, oo + j * 4, none⟩ = some (.int .i64 y.kind) ∧ u.cell? ⟨ob, oo + j * 4 + 1, none⟩ = some (.int .i64 y.a) ∧ u.cell? ⟨ob, oo + j * 4 + 2, none⟩ = some (.int .i64 y.b) ∧ u.cell? ⟨ob, oo + j * 4 + 3, none⟩ = some (.string y.s) ∧ u.cell? ⟨xb, 0, none⟩ = some (.int .i64 k.kind) ∧ u.cell? ⟨xb, 1, none⟩ = some (.int .i64 k.a) ∧ u.cell? ⟨xb, 2, none⟩ = some (.int .i64 k.b) ∧ u.cell? ⟨xb, 3, none⟩ = some (.string k.s)) := Lib.hid (fun u hu => by
            have h := below_then hbd hu
            exact ⟨below_cell h _ zo r0, below_cell h _ zo r1, below_cell h _ zo r2, below_cell h _ zo r3, below_cell h _ zb p0, below_cell h _ zb p1, below_cell h _ zb p2, below_cell h _ zb p3⟩)
          have HBD : Hid (Below u0.heap.size u0 wr.drew) := Lib.hid (below_then HBJ.out hbd)
          have HY := Lib.hid hy
          have tn : decide (j < n) = true := decide_eq_true hlj
          have tn2 : decide ((j : Int) < (n : Int)) = true := decide_eq_true (by omega)
          clear hy hat hc hys hbd
          by_cases hc0 : c < 0
          · have tc : decide (c < 0) = true := decide_eq_true hc0
            have HLT2 : Hid (∀ (q : Nat) (z : Ky), q < j + 1 → ks[q]? = some z → z.cmp k < 0) := Lib.hid (fun q z hq hz => by
              by_cases hqj : q < j
              · exact HLT.out q z hqj hz
              · obtain rfl : q = j := by omega
                rw [HY.out] at hz
                injection hz with hz
                rw [← hz, ← HCC.out]
                exact hc0)
            clear hc0
            go_upto_region 8 with fail
            go_region_held3 (fun w' => w'.cell? ⟨ob, oo + j * 4, none⟩ = some (.int .i64 y.kind) ∧ w'.cell? ⟨ob, oo + j * 4 + 1, none⟩ = some (.int .i64 y.a) ∧ w'.cell? ⟨ob, oo + j * 4 + 2, none⟩ = some (.int .i64 y.b) ∧ w'.cell? ⟨ob, oo + j * 4 + 3, none⟩ = some (.string y.s) ∧ w'.cell? ⟨xb, 0, none⟩ = some (.int .i64 k.kind) ∧ w'.cell? ⟨xb, 1, none⟩ = some (.int .i64 k.a) ∧ w'.cell? ⟨xb, 2, none⟩ = some (.int .i64 k.b) ∧ w'.cell? ⟨xb, 3, none⟩ = some (.string k.s))
              (first | exact KS.out _ (Below.refl _ _) | exact KS.out _ HB6.out)
              (first | (go_at_call 34; (with_reducible refine HORD.out.mono ?_); rintro e w6 ⟨rfl, b6⟩; have HB6 := Lib.hid b6; clear b6) | fail)
            all_goals (
              go_wp2_with fail
              exact ⟨⟨j + 1, by simp, hlj, Lib.hid (below_then HBD.out HB6.out), HLT2⟩, by simp [intOf]; omega⟩)
          · have tc : decide (c < 0) = false := decide_eq_false hc0
            have HGE : Hid (∀ z, ks[j]? = some z → ¬ z.cmp k < 0) := Lib.hid (fun z hz => by
              rw [HY.out] at hz
              injection hz with hz
              rw [← hz, ← HCC.out]
              exact hc0)
            clear hc0
            go_upto_region 8 with fail
            go_region_held3 (fun w' => w'.cell? ⟨ob, oo + j * 4, none⟩ = some (.int .i64 y.kind) ∧ w'.cell? ⟨ob, oo + j * 4 + 1, none⟩ = some (.int .i64 y.a) ∧ w'.cell? ⟨ob, oo + j * 4 + 2, none⟩ = some (.int .i64 y.b) ∧ w'.cell? ⟨ob, oo + j * 4 + 3, none⟩ = some (.string y.s) ∧ w'.cell? ⟨xb, 0, none⟩ = some (.int .i64 k.kind) ∧ w'.cell? ⟨xb, 1, none⟩ = some (.int .i64 k.a) ∧ w'.cell? ⟨xb, 2, none⟩ = some (.int .i64 k.b) ∧ w'.cell? ⟨xb, 3, none⟩ = some (.string k.s))
              (first | exact KS.out _ (Below.refl _ _) | exact KS.out _ HB6.out)
              (first | (go_at_call 34; (with_reducible refine HORD.out.mono ?_); rintro e w6 ⟨rfl, b6⟩; have HB6 := Lib.hid b6; clear b6) | fail)
            all_goals (
              clear p0 p1 p2 p3 zb r0 r1 r2 r3 zo tn tn2 tc
              go_upto_region 11 with fail
              obtain ⟨wq, hwq⟩ : ∃ wq : World, wq = w6 := ⟨_, rfl⟩
              rw [← hwq]
              have HBQ : Hid (Below u0.heap.size u0 wq) := Lib.hid (by rw [hwq]; exact below_then HBD.out HB6.out)
              clear hwq
              have HOQ := Lib.hid (HO0.out.below HBQ.out)
              obtain ⟨a1, ha1⟩ : ∃ a1, kK.pfx ((some ⟨ob, oo, none⟩) : Option Addr) oc = a1 := ⟨_, rfl⟩
              obtain ⟨a3, ha3⟩ : ∃ a3, kK.sfx ((some ⟨ob, oo, none⟩) : Option Addr) oc j = a3 := ⟨_, rfl⟩
              obtain ⟨n3, hn3⟩ : ∃ n3, n - j = n3 := ⟨_, rfl⟩
              obtain ⟨c3, hc3⟩ : ∃ c3, oc - j = c3 := ⟨_, rfl⟩
              have HCP : Hid (n ≤ oc) := Lib.hid (by have := HOQ.out.cap; have := HN.out; omega)
              have HV1 : Hid (∀ u, Below wq.heap.size wq u → kK.V u a1 (ks.take j)) := Lib.hid (fun u hu => by rw [← ha1]; exact (HOQ.out.below hu).toV.take j oc)
              have HV3 : Hid (∀ u, Below wq.heap.size wq u → kK.V u a3 (ks.drop j)) := Lib.hid (fun u hu => by rw [← ha3]; exact (HOQ.out.below hu).toV.drop (by have := HCP.out; have := HN.out; omega))
              have HON : Hid (((some ⟨ob, oo, none⟩) : Option Addr) = none → oc = 0) := Lib.hid (fun e => by first | (cases e; done) | (have h := HOQ.out; rw [e] at h; exact h.noneCap))
              have HNN1 : Hid (a1 = none → oc = 0) := Lib.hid (fun e => RowK.pfx_none (k := kK) (a := ((some ⟨ob, oo, none⟩) : Option Addr)) HON.out (ha1.trans e))
              have HNN3 : Hid (a3 = none → c3 = 0) := Lib.hid (fun e => by rw [← hc3]; exact RowK.sfx_none (k := kK) (a := ((some ⟨ob, oo, none⟩) : Option Addr)) HON.out (ha3.trans e))
              have HL1 : Hid ((ks.take j).length = j) := Lib.hid (by rw [List.length_take]; have := HN.out; omega)
              have HL3 : Hid ((ks.drop j).length = n3) := Lib.hid (by rw [List.length_drop]; have := HN.out; omega)
              have HA1 := Lib.hid ha1
              have HA3 := Lib.hid ha3
              have HN3 := Lib.hid hn3
              have HC3 := Lib.hid hc3
              have hjc : j ≤ oc := Nat.le_trans hj HCP.out
              have HWQ : Hid (w.heap.size ≤ wq.heap.size) := Lib.hid (Nat.le_trans HU0.out.size HBQ.out.size)
              clear ha1 ha3 hn3 hc3
              go_upto_region 12 with (first | (refine RowK.wpList_pfx (k := kK) (o := ⟨some 69, _, _, _, _, _⟩) rfl (.tmp 67) (.tmp 68) rfl _ n oc j rfl rfl hjc HA1.out ?_) | (at_builtin; refine RowK.wpList_app (k := kK) (B := w.heap.size) (v := .slice none 0 0) (l := []) rfl (.tmp 66) (.tmp 69) rfl rfl (RowK.Own.nil kK _ _) a1 j (ks.take j) oc rfl HL1.out (HV1.out wq (Below.refl _ _)) HNN1.out (by have := HN.out; rw [HL1.out]; simp; omega) HWQ.out ?_; rintro v1 u1 g1; have G1 := Lib.hid (show kK.App wq w.heap.size (.slice none 0 0) (ks.take j) v1 u1 from g1); clear g1))
              have HB1 : Hid (Below wq.heap.size wq u1) := Lib.hid ⟨G1.out.2.1.os, G1.out.2.1.tape, G1.out.2.1.output, G1.out.2.1.size, fun q hq => G1.out.2.1.block q hq (fun e => by cases e)⟩
              obtain ⟨p0, p1, p2, p3, zb⟩ := HBX.out u1 (below_then HBQ.out HB1.out)
              obtain ⟨W2, hW2⟩ : ∃ W2, W2 = u1.alloc (.cells #[.int .i64 k.kind, .int .i64 k.a, .int .i64 k.b, .string k.s] 47) := ⟨_, rfl⟩
              have hb2 : Below u1.heap.size u1 W2 := by rw [hW2]; exact below_box u1 _
              have HB2 : Hid (Below wq.heap.size wq W2) := Lib.hid (below_then HB1.out hb2)
              have HO2 : Hid (kK.Own W2 w.heap.size v1 (ks.take j)) := Lib.hid (G1.out.1.below hb2)
              have HXV : Hid (kK.V W2 (some ⟨u1.heap.size, 0, none⟩) [k]) := Lib.hid (by rw [hW2]; exact fun _ => ⟨_, 0, rfl, RowK.new_at (k := kK) (heap_new u1 _) (by simp [RowK.cells, kK, Ky.enc])⟩)
              have HW2 := Lib.hid hW2.symm
              clear hW2 hb2
              go_upto_region 13 with (first | (at_builtin; rw [HW2.out]; refine RowK.wpList_app (k := kK) (B := w.heap.size) (v := v1) (l := ks.take j) rfl (.tmp 71) (.tmp 74) rfl rfl HO2.out (some ⟨u1.heap.size, 0, none⟩) 1 [k] 1 rfl rfl HXV.out (fun e => by cases e) (by have := HN.out; rw [HL1.out]; simp; omega) (Nat.le_trans HWQ.out HB2.out.size) ?_; rintro v2 u2 g2; have G2 := Lib.hid g2; clear g2))
              clear p0 p1 p2 p3 zb
              have HB3 : Hid (Below w.heap.size wq u2) := Lib.hid ((HB2.out.mono HWQ.out).trans (below_grownQ HO2.out G2.out.2.1 (Nat.le_trans HWQ.out HB2.out.size)))
              have HV33 : Hid (kK.V u2 a3 (ks.drop j)) := Lib.hid (fun hne => by
                obtain ⟨b3, o3, e3, hat3⟩ := HV3.out wq (Below.refl _ _) hne
                have hat4 := hat3.below HB2.out
                refine ⟨b3, o3, e3, hat4.of_block (G2.out.2.1.block b3 hat4.lt (fun e => ?_))⟩
                rcases G1.out.2.2 with q | q
                · rw [q] at e; cases e
                · rw [q] at e
                  injection e with e
                  have := hat3.lt
                  omega)
              go_wp2_with (first | (refine RowK.wpList_sfx (k := kK) (o := ⟨some 79, _, _, _, _, _⟩) rfl (.tmp 77) (.tmp 78) rfl _ n oc j rfl rfl hj HA3.out HN3.out HC3.out ?_) | (at_builtin; refine RowK.wpList_app (k := kK) (B := w.heap.size) (v := v2) (l := ks.take j ++ [k]) rfl (.tmp 76) (.tmp 79) rfl rfl G2.out.1 a3 n3 (ks.drop j) c3 rfl HL3.out HV33.out HNN3.out (by have := HN.out; have := HL1.out; have := HL3.out; have := HN3.out; simp only [List.length_append, List.length_cons, List.length_nil]; omega) (Nat.le_trans HWQ.out HB3.out.size) ?_; rintro v3 u3 g3; have G3 := Lib.hid g3; clear g3) | fail)
              have HINS : ks.take j ++ [k] ++ ks.drop j = insK k ks := (insK_at HLT.out (fun z hz => by have := HGE.out z hz; omega)).symm
              exact ⟨⟨i + 1, insK k ks, by simp, hlt, Lib.hid (by rw [HTK.out, keysL_snoc, if_pos (show p (k, x).2 = true from HPX.out), ← HKS.out]), Lib.hid (by rw [← HINS]; exact G3.out.1), Lib.hid (((HU0.out.trans (HBQ.out.mono HU0.out.size)).trans HB3.out).trans (below_grownQ G2.out.1 G3.out.2.1 (Nat.le_trans HWQ.out HB3.out.size)))⟩, by simp [intOf]; omega⟩
              )
        · have hjn : j = n := by omega
          have tn : decide (j < n) = false := decide_eq_false hlj
          have tn2 : decide ((j : Int) < (n : Int)) = false := decide_eq_false (by omega)
          have HGE : Hid (∀ z, ks[j]? = some z → ¬ z.cmp k < 0) := Lib.hid (fun z hz => by have := (List.getElem?_eq_some_iff.1 hz).1; have := HN.out.1; omega)
          go_upto_region 8 with fail
          go_quiet (fail)
          clear p0 p1 p2 p3 zb tn tn2 hjn
          go_upto_region 11 with fail
          obtain ⟨wq, hwq⟩ : ∃ wq : World, wq = wr.drewN nq := ⟨_, rfl⟩
          rw [← hwq]
          have HBQ : Hid (Below u0.heap.size u0 wq) := Lib.hid (by rw [hwq]; exact below_drewN HBJ.out _)
          clear hwq
          have HOQ := Lib.hid (HO0.out.below HBQ.out)
          obtain ⟨a1, ha1⟩ : ∃ a1, kK.pfx (oa : Option Addr) oc = a1 := ⟨_, rfl⟩
          obtain ⟨a3, ha3⟩ : ∃ a3, kK.sfx (oa : Option Addr) oc j = a3 := ⟨_, rfl⟩
          obtain ⟨n3, hn3⟩ : ∃ n3, n - j = n3 := ⟨_, rfl⟩
          obtain ⟨c3, hc3⟩ : ∃ c3, oc - j = c3 := ⟨_, rfl⟩
          have HCP : Hid (n ≤ oc) := Lib.hid (by have := HOQ.out.cap; have := HN.out; omega)
          have HV1 : Hid (∀ u, Below wq.heap.size wq u → kK.V u a1 (ks.take j)) := Lib.hid (fun u hu => by rw [← ha1]; exact (HOQ.out.below hu).toV.take j oc)
          have HV3 : Hid (∀ u, Below wq.heap.size wq u → kK.V u a3 (ks.drop j)) := Lib.hid (fun u hu => by rw [← ha3]; exact (HOQ.out.below hu).toV.drop (by have := HCP.out; have := HN.out; omega))
          have HON : Hid ((oa : Option Addr) = none → oc = 0) := Lib.hid (fun e => by first | (cases e; done) | (have h := HOQ.out; rw [e] at h; exact h.noneCap))
          have HNN1 : Hid (a1 = none → oc = 0) := Lib.hid (fun e => RowK.pfx_none (k := kK) (a := (oa : Option Addr)) HON.out (ha1.trans e))
          have HNN3 : Hid (a3 = none → c3 = 0) := Lib.hid (fun e => by rw [← hc3]; exact RowK.sfx_none (k := kK) (a := (oa : Option Addr)) HON.out (ha3.trans e))
          have HL1 : Hid ((ks.take j).length = j) := Lib.hid (by rw [List.length_take]; have := HN.out; omega)
          have HL3 : Hid ((ks.drop j).length = n3) := Lib.hid (by rw [List.length_drop]; have := HN.out; omega)
          have HA1 := Lib.hid ha1
          have HA3 := Lib.hid ha3
          have HN3 := Lib.hid hn3
          have HC3 := Lib.hid hc3
          have hjc : j ≤ oc := Nat.le_trans hj HCP.out
          have HWQ : Hid (w.heap.size ≤ wq.heap.size) := Lib.hid (Nat.le_trans HU0.out.size HBQ.out.size)
          clear ha1 ha3 hn3 hc3
          go_upto_region 12 with (first | (refine RowK.wpList_pfx (k := kK) (o := ⟨some 69, _, _, _, _, _⟩) rfl (.tmp 67) (.tmp 68) rfl _ n oc j rfl rfl hjc HA1.out ?_) | (at_builtin; refine RowK.wpList_app (k := kK) (B := w.heap.size) (v := .slice none 0 0) (l := []) rfl (.tmp 66) (.tmp 69) rfl rfl (RowK.Own.nil kK _ _) a1 j (ks.take j) oc rfl HL1.out (HV1.out wq (Below.refl _ _)) HNN1.out (by have := HN.out; rw [HL1.out]; simp; omega) HWQ.out ?_; rintro v1 u1 g1; have G1 := Lib.hid (show kK.App wq w.heap.size (.slice none 0 0) (ks.take j) v1 u1 from g1); clear g1))
          have HB1 : Hid (Below wq.heap.size wq u1) := Lib.hid ⟨G1.out.2.1.os, G1.out.2.1.tape, G1.out.2.1.output, G1.out.2.1.size, fun q hq => G1.out.2.1.block q hq (fun e => by cases e)⟩
          obtain ⟨p0, p1, p2, p3, zb⟩ := HBX.out u1 (below_then HBQ.out HB1.out)
          obtain ⟨W2, hW2⟩ : ∃ W2, W2 = u1.alloc (.cells #[.int .i64 k.kind, .int .i64 k.a, .int .i64 k.b, .string k.s] 47) := ⟨_, rfl⟩
          have hb2 : Below u1.heap.size u1 W2 := by rw [hW2]; exact below_box u1 _
          have HB2 : Hid (Below wq.heap.size wq W2) := Lib.hid (below_then HB1.out hb2)
          have HO2 : Hid (kK.Own W2 w.heap.size v1 (ks.take j)) := Lib.hid (G1.out.1.below hb2)
          have HXV : Hid (kK.V W2 (some ⟨u1.heap.size, 0, none⟩) [k]) := Lib.hid (by rw [hW2]; exact fun _ => ⟨_, 0, rfl, RowK.new_at (k := kK) (heap_new u1 _) (by simp [RowK.cells, kK, Ky.enc])⟩)
          have HW2 := Lib.hid hW2.symm
          clear hW2 hb2
          go_upto_region 13 with (first | (at_builtin; rw [HW2.out]; refine RowK.wpList_app (k := kK) (B := w.heap.size) (v := v1) (l := ks.take j) rfl (.tmp 71) (.tmp 74) rfl rfl HO2.out (some ⟨u1.heap.size, 0, none⟩) 1 [k] 1 rfl rfl HXV.out (fun e => by cases e) (by have := HN.out; rw [HL1.out]; simp; omega) (Nat.le_trans HWQ.out HB2.out.size) ?_; rintro v2 u2 g2; have G2 := Lib.hid g2; clear g2))
          clear p0 p1 p2 p3 zb
          have HB3 : Hid (Below w.heap.size wq u2) := Lib.hid ((HB2.out.mono HWQ.out).trans (below_grownQ HO2.out G2.out.2.1 (Nat.le_trans HWQ.out HB2.out.size)))
          have HV33 : Hid (kK.V u2 a3 (ks.drop j)) := Lib.hid (fun hne => by
            obtain ⟨b3, o3, e3, hat3⟩ := HV3.out wq (Below.refl _ _) hne
            have hat4 := hat3.below HB2.out
            refine ⟨b3, o3, e3, hat4.of_block (G2.out.2.1.block b3 hat4.lt (fun e => ?_))⟩
            rcases G1.out.2.2 with q | q
            · rw [q] at e; cases e
            · rw [q] at e
              injection e with e
              have := hat3.lt
              omega)
          go_wp2_with (first | (refine RowK.wpList_sfx (k := kK) (o := ⟨some 79, _, _, _, _, _⟩) rfl (.tmp 77) (.tmp 78) rfl _ n oc j rfl rfl hj HA3.out HN3.out HC3.out ?_) | (at_builtin; refine RowK.wpList_app (k := kK) (B := w.heap.size) (v := v2) (l := ks.take j ++ [k]) rfl (.tmp 76) (.tmp 79) rfl rfl G2.out.1 a3 n3 (ks.drop j) c3 rfl HL3.out HV33.out HNN3.out (by have := HN.out; have := HL1.out; have := HL3.out; have := HN3.out; simp only [List.length_append, List.length_cons, List.length_nil]; omega) (Nat.le_trans HWQ.out HB3.out.size) ?_; rintro v3 u3 g3; have G3 := Lib.hid g3; clear g3) | fail)
          have HINS : ks.take j ++ [k] ++ ks.drop j = insK k ks := (insK_at HLT.out (fun z hz => by have := HGE.out z hz; omega)).symm
          exact ⟨⟨i + 1, insK k ks, by simp, hlt, Lib.hid (by rw [HTK.out, keysL_snoc, if_pos (show p (k, x).2 = true from HPX.out), ← HKS.out]), Lib.hid (by rw [← HINS]; exact G3.out.1), Lib.hid (((HU0.out.trans (HBQ.out.mono HU0.out.size)).trans HB3.out).trans (below_grownQ G2.out.1 G3.out.2.1 (Nat.le_trans HWQ.out HB3.out.size)))⟩, by simp [intOf]; omega⟩
    · have hin : i = m := by omega
      have ti : decide ((i : Int) < (m : Int)) = false := decide_eq_false (by omega)
      go_wp2_with fail
      go_ret
      refine ⟨_, rfl, ?_, HB.out⟩
      have h := HO.out
      rw [HKS.out, List.take_of_length_le (by have := HM.out; omega)] at h
      have h2 : n = (keysL p L).length := by rw [HN.out.1, HKS.out, List.take_of_length_le (by have := HM.out; omega)]
      exact h

end Go.Proofs.YtkhkdedjffkhdaaGreat
namespace Go.Proofs.YtkhkdedjffkhdaaGreat
open Go.RowKit Go.Maps

/-! the reference's list -/
theorem fst_upd {k : Ky} {y : Cl} : ∀ L : List (Ky × Cl), (updL k y L).map (·.1) = L.map (·.1)
  | [] => rfl
  | (k', x) :: t => by
    unfold updL
    split
    · rfl
    · simp [fst_upd t]
theorem len_upd {k : Ky} {y : Cl} (L : List (Ky × Cl)) : (updL k y L).length = L.length := by
  have := congrArg List.length (fst_upd (k := k) (y := y) L)
  simpa using this
theorem sub_del {k : Ky} : ∀ L : List (Ky × Cl), (delL k L).Sublist L
  | [] => List.Sublist.refl _
  | (k', x) :: t => by
    unfold delL
    split
    · exact List.sublist_cons_self _ _
    · exact (sub_del t).cons_cons _
theorem len_del {k : Ky} {x : Cl} : ∀ {L : List (Ky × Cl)}, lookL L k = some x → (delL k L).length + 1 = L.length
  | [], h => by simp [lookL] at h
  | (k', x') :: t, h => by
    unfold lookL at h
    unfold delL
    split at h
    · rename_i e; rw [if_pos e]; rfl
    · rename_i e; rw [if_neg e]; simp [len_del (L := t) h]
theorem look_mem {k : Ky} {x : Cl} : ∀ {L : List (Ky × Cl)}, lookL L k = some x → (k, x) ∈ L
  | [], h => by simp [lookL] at h
  | (k', x') :: t, h => by
    unfold lookL at h
    split at h
    · rename_i e
      have := (Ky.eqB_iff _ _).1 e
      subst this
      cases h
      exact List.mem_cons_self
    · exact List.mem_cons_of_mem _ (look_mem h)
theorem mem_look {k : Ky} {x : Cl} : ∀ {L : List (Ky × Cl)}, (L.map (·.1)).Nodup → (k, x) ∈ L → lookL L k = some x
  | [], _, h => by cases h
  | (k', x') :: t, hn, h => by
    rw [List.map_cons] at hn
    have hn2 := List.nodup_cons.1 hn
    unfold lookL
    rcases List.mem_cons.1 h with e | e
    · cases e
      rw [if_pos (Ky.eqB_true rfl)]
    · by_cases ek : k = k'
      · subst ek
        exact absurd (List.mem_map.2 ⟨(k, x), e, rfl⟩) hn2.1
      · rw [if_neg (by rw [Ky.eqB_false ek]; decide)]
        exact mem_look hn2.2 e
theorem look_not {k : Ky} {L : List (Ky × Cl)} (h : k ∉ L.map (·.1)) : lookL L k = none := by
  cases hl : lookL L k with
  | none => rfl
  | some x => exact absurd (List.mem_map.2 ⟨(k, x), look_mem hl, rfl⟩) h
theorem del_none {k : Ky} : ∀ {L : List (Ky × Cl)}, (L.map (·.1)).Nodup → lookL (delL k L) k = none
  | [], _ => rfl
  | (k', x') :: t, hn => by
    rw [List.map_cons] at hn
    have hn2 := List.nodup_cons.1 hn
    unfold delL
    by_cases ek : k = k'
    · subst ek
      rw [if_pos (Ky.eqB_true rfl)]
      exact look_not hn2.1
    · rw [if_neg (by rw [Ky.eqB_false ek]; decide)]
      unfold lookL
      rw [if_neg (by rw [Ky.eqB_false ek]; decide)]
      exact del_none hn2.2
theorem look_app {k k' : Ky} {y : Cl} : ∀ {L : List (Ky × Cl)}, lookL (L ++ [(k, y)]) k' = match lookL L k' with | some x => some x | none => if k'.eqB k then some y else none
  | [] => by simp [lookL]
  | (k1, x1) :: t => by
    simp only [List.cons_append]
    unfold lookL
    split
    · rfl
    · exact look_app
/-- a store's cells and the reference's list say the same -/
structure SR (g : Ky → Option Cl) (cnt : Nat) (L : List (Ky × Cl)) : Prop where
  g : g = lookL L
  cnt : cnt = L.length
  nd : (L.map (·.1)).Nodup
section
variable {g : Ky → Option Cl} {cnt : Nat} {L : List (Ky × Cl)} {k : Ky} {x y : Cl}
theorem SR.app (h : SR g cnt L) (hk : lookL L k = none) : SR (setG g k (some y)) (cnt + 1) (L ++ [(k, y)]) := by
  refine ⟨?_, by rw [h.cnt]; simp, ?_⟩
  · funext k'
    rw [look_app]
    by_cases e : k' = k
    · subst e
      rw [setG_same, hk]
      simp [Ky.eqB_true rfl]
    · rw [setG_other _ _ e, h.g]
      cases hl : lookL L k' <;> simp [Ky.eqB_false e]
  · rw [List.map_append, List.nodup_append]
    refine ⟨h.nd, by simp, fun a ha b hb => ?_⟩
    simp at hb
    subst hb
    intro e
    subst e
    obtain ⟨q, hq, e⟩ := List.mem_map.1 ha
    exact lookL_out hk q hq e
theorem SR.upd (h : SR g cnt L) (hk : lookL L k = some x) : SR (setG g k (some y)) cnt (updL k y L) := by
  refine ⟨?_, by rw [h.cnt, len_upd], by rw [fst_upd]; exact h.nd⟩
  funext k'
  by_cases e : k' = k
  · subst e
    rw [setG_same, look_upd_eq, hk]
    rfl
  · rw [setG_other _ _ e, look_upd_ne e, h.g]
theorem SR.del (h : SR g cnt L) (hk : lookL L k = some x) : SR (setG g k none) (cnt - 1) (delL k L) := by
  refine ⟨?_, by have := len_del hk; rw [h.cnt]; omega, ((sub_del L).map _).nodup h.nd⟩
  funext k'
  by_cases e : k' = k
  · subst e
    rw [setG_same, del_none h.nd]
  · rw [setG_other _ _ e, look_del e, h.g]
theorem SR.unStep {p : (Ky → Option Cl) × Nat} (h : SR p.1 (cnt - p.2) L) (k : Ky) : SR (unStep p k).1 (cnt - (unStep p k).2) (unStepL L k) := by
  unfold Go.Proofs.YtkhkdedjffkhdaaGreat.unStep unStepL
  rw [h.g]
  cases hl : lookL L k with
  | none => rw [← h.g]; exact h
  | some x =>
    rw [← h.g]
    simp only
    by_cases e : x.st = 0
    · rw [if_pos e, if_pos e]
      have := h.del hl
      rw [Nat.sub_sub] at this
      exact this
    · rw [if_neg e, if_neg e]
      exact h.upd hl
theorem SR.un' : ∀ (ks : List Ky) {p : (Ky → Option Cl) × Nat} {L : List (Ky × Cl)}, SR p.1 (cnt - p.2) L → SR (ks.foldl Go.Proofs.YtkhkdedjffkhdaaGreat.unStep p).1 (cnt - (ks.foldl Go.Proofs.YtkhkdedjffkhdaaGreat.unStep p).2) (ks.foldl unStepL L)
  | [], _, _, h => h
  | k :: t, _, _, h => SR.un' t (h.unStep k)
theorem SR.un (h : SR g cnt L) (ks : List Ky) : SR (unG g ks).1 (cnt - (unG g ks).2) (unL L ks) := SR.un' ks (p := (g, 0)) h
/-- Free of keys, one by one -/
def frL (p : Int × List (Ky × Cl)) (ks : List Ky) : Int × List (Ky × Cl) := ks.foldl (fun p k => (p.1 + (freeL p.2 k).1, (freeL p.2 k).2)) p
theorem SR.freeStep {p : (Ky → Option Cl) × Nat} (h : SR p.1 (cnt - p.2) L) (k : Ky) : SR (freeStep p k).1 (cnt - (freeStep p k).2) (freeL L k).2 ∧ ((freeStep p k).2 : Int) = p.2 + (freeL L k).1 := by
  unfold Go.Proofs.YtkhkdedjffkhdaaGreat.freeStep freeL
  rw [h.g]
  cases hl : lookL L k with
  | none => rw [← h.g]; exact ⟨h, by simp⟩
  | some x =>
    rw [← h.g]
    simp only
    cases ha : x.ab <;> cases hk : x.lk
    · simpa using h
    · simpa using h
    · have := h.del hl
      rw [Nat.sub_sub] at this
      simpa using this
    · simpa using h
theorem SR.free' : ∀ (ks : List Ky) {p : (Ky → Option Cl) × Nat} {q : Int × List (Ky × Cl)}, SR p.1 (cnt - p.2) q.2 → (p.2 : Int) = q.1 → SR (ks.foldl Go.Proofs.YtkhkdedjffkhdaaGreat.freeStep p).1 (cnt - (ks.foldl Go.Proofs.YtkhkdedjffkhdaaGreat.freeStep p).2) (frL q ks).2 ∧ ((ks.foldl Go.Proofs.YtkhkdedjffkhdaaGreat.freeStep p).2 : Int) = (frL q ks).1
  | [], _, _, h, e => ⟨h, e⟩
  | k :: t, p, q, h, e => by
    obtain ⟨h1, h2⟩ := h.freeStep k
    exact SR.free' t (q := (q.1 + (freeL q.2 k).1, (freeL q.2 k).2)) h1 (by rw [h2, e])
theorem SR.free (h : SR g cnt L) (ks : List Ky) : SR (freeG g ks).1 (cnt - (freeG g ks).2) (frL (0, L) ks).2 ∧ ((freeG g ks).2 : Int) = (frL (0, L) ks).1 := SR.free' ks (p := (g, 0)) (q := (0, L)) h rfl
/-- keys in order: the store's and the reference's -/
theorem SR.keys (h : SR g cnt L) {p : Cl → Bool} {ks : List Ky} (hs : KySorted ks) (hm : ∀ k, k ∈ ks ↔ ∃ c, g k = some c ∧ p c = true) : ks = keysL p L := by
  refine KySorted.uniq hs (sorted_keysL p L h.nd) (fun k => ?_)
  rw [hm, mem_keysL, h.g]
  constructor
  · rintro ⟨c, hc, hp⟩
    exact ⟨(k, c), look_mem hc, rfl, hp⟩
  · rintro ⟨⟨k', c⟩, hq, rfl, hp⟩
    exact ⟨c, mem_look h.nd hq, hp⟩
end
end Go.Proofs.YtkhkdedjffkhdaaGreat
