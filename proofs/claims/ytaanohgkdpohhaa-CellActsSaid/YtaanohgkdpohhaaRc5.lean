/- The reference's Install. Conditions: the contract's own premises. -/
import Derived.Test.YtaanohgkdpohhaaRc4
import Derived.StillTailTactics
namespace Go.Proofs.Ytaanohgkdpohhaa
open Go.RowKit Go.Maps

open Classical in
noncomputable def instL (L : List (Ky × Cl)) (k : Ky) (who : Int) (t : Nat) (vs : ByteArray) (vh : Bool) : Int × List (Ky × Cl) :=
  match lookL L k with
  | none => (51, L)
  | some x => if holdsV (some x) who = true then (if 4611686018427387904 ≤ t ∨ t ≤ x.st ∨ (vs.toList ≠ [] ∧ vh = false) then (2, L) else (0, updL k ⟨t, false, !vh, vs, x.who⟩ L)) else (51, L)
def RIn (w : World) (rb D room : Nat) (v : Value) (L : List (Ky × Cl)) (k : Ky) (who : Int) (t : Nat) (vs : ByteArray) (vh : Bool) (e : Ending) (w' : World) : Prop :=
  e = .returned (.int .i64 (instL L k who t vs vh).1) ∧ RPost w rb D room v (instL L k who t vs vh).2 w'
set_option maxRecDepth 100000 in
set_option maxHeartbeats 8000000 in
theorem rinst_any (rb D room : Nat) (v : Value) (L : List (Ky × Cl)) (k : Ky) (who : Int) (t : Nat) (vw : Int) (vs : ByteArray) (vh : Bool) (w : World) (h : RO w rb D room v L) :
    Calls Try.prog 94 #[.pointer (some ⟨rb, 0, none⟩), .agg #[.int .i64 k.kind, .int .i64 k.a, .int .i64 k.b, .string k.s], .int .i64 who, .int .u64 (t : Int), .agg #[.int .u64 vw, .string vs, .bool vh]] w (RIn w rb D room v L k who t vs vh) := by
  obtain ⟨kb, hkb⟩ : ∃ kb, kb = w.heap.size := ⟨_, rfl⟩
  obtain ⟨sb, hsb⟩ : ∃ sb, sb = w.heap.size + 1 := ⟨_, rfl⟩
  obtain ⟨W, hW⟩ : ∃ W, W = (w.alloc (.cells #[.int .i64 k.kind, .int .i64 k.a, .int .i64 k.b, .string k.s] 32)).alloc (.cells #[.int .u64 vw, .string vs, .bool vh] 36) := ⟨_, rfl⟩
  have HBW : Hid (Below w.heap.size w W) := Lib.hid (by rw [hW]; exact (below_box _ _).alloc (by simp) _)
  have HKX : Hid (∀ u, Below W.heap.size W u → u.heap[kb]? = some (.cells #[.int .i64 k.kind, .int .i64 k.a, .int .i64 k.b, .string k.s] 32 (0, 0))) := Lib.hid (fun u hu => by
    have e : W.heap[kb]? = some (.cells #[.int .i64 k.kind, .int .i64 k.a, .int .i64 k.b, .string k.s] 32 (0, 0)) := by rw [hW, hkb]; exact (Below.heap_alloc _ _ _ (by simp)).trans (heap_new w _)
    exact (hu.block _ (Array.getElem?_eq_some_iff.1 e).1).trans e)
  have HSX : Hid (∀ u, Below W.heap.size W u → u.heap[sb]? = some (.cells #[.int .u64 vw, .string vs, .bool vh] 36 (0, 0))) := Lib.hid (fun u hu => by
    have e : W.heap[sb]? = some (.cells #[.int .u64 vw, .string vs, .bool vh] 36 (0, 0)) := by rw [hW, hsb]; exact (show w.heap.size + 1 = (w.alloc (.cells #[.int .i64 k.kind, .int .i64 k.a, .int .i64 k.b, .string k.s] 32)).heap.size by simp) ▸ heap_new _ _
    exact (hu.block _ (Array.getElem?_eq_some_iff.1 e).1).trans e)
  obtain ⟨a, cap, rfl⟩ := h.o.shape
  obtain ⟨m, hm⟩ : ∃ m, m = L.length := ⟨_, rfl⟩
  rw [← hm] at h ⊢
  have HM : Hid (m = L.length ∧ m ≤ 1048576) := Lib.hid ⟨hm, by have := h.len; omega⟩
  have HRW := Lib.hid (h.below HBW.out)
  have HR0 := Lib.hid h
  have HW := Lib.hid hW.symm
  have HKB := Lib.hid hkb.symm
  have HSBE := Lib.hid hsb.symm
  clear h hW hkb hsb hm
  go_enter Try.func94, Try.ntmps94
  go_upto_region 1 with fail
  rw [HW.out, HSBE.out, HKB.out]
  have hk0 := HKX.out W (Below.refl _ _)
  have p0 := cell_of_blk hk0 0
  have p1 := cell_of_blk hk0 1
  have p2 := cell_of_blk hk0 2
  have p3 := cell_of_blk hk0 3
  have zk := (Array.getElem?_eq_some_iff.1 hk0).1
  simp at p0 p1 p2 p3
  have HHO := Lib.hid (r9holds_any rb cap room a L k who W HRW.out.rv.1)
  clear hk0
  go_wp2_with fail
  refine HHO.out.mono ?_
  rintro e w1 ⟨rfl, b1⟩
  have HB1 : Hid (Below w.heap.size w w1) := Lib.hid (HBW.out.trans (b1.mono HBW.out.size))
  have HBX1 : Hid (Below W.heap.size W w1) := Lib.hid b1
  clear b1 p0 p1 p2 p3 zk
  cases hh : holdsV (lookL L k) who
  case false =>
    have HHF := Lib.hid hh
    clear hh
    go_wp2_with fail
    go_ret
    have HLK : instL L k who t vs vh = (51, L) := by
      unfold instL
      have := HHF.out
      cases hl : lookL L k with
      | none => rfl
      | some x =>
        rw [hl] at this
        simp only
        rw [if_neg (by rw [this]; decide)]
    unfold RIn
    rw [HLK]
    exact ⟨rfl, RPost.same HR0.out HB1.out⟩
  case true =>
  obtain ⟨x, hl⟩ : ∃ x, lookL L k = some x := by
    cases hl : lookL L k with
    | none => rw [hl] at hh; cases hh
    | some x => exact ⟨x, rfl⟩
  rw [hl] at hh
  have HHT := Lib.hid hh
  have HLS := Lib.hid hl
  have HF := Lib.hid (r9find_at rb cap room a L k x w1 (HRW.out.below HBX1.out).rv.1 hl)
  have hk0 := HKX.out w1 HBX1.out
  have p0 := cell_of_blk hk0 0
  have p1 := cell_of_blk hk0 1
  have p2 := cell_of_blk hk0 2
  have p3 := cell_of_blk hk0 3
  have zk := (Array.getElem?_eq_some_iff.1 hk0).1
  simp at p0 p1 p2 p3
  clear hh hl hk0
  go_wp2_with fail
  refine HF.out.mono ?_
  rintro e w2 ⟨i, rfl, hi, hf, b2⟩
  have HBX2 : Hid (Below W.heap.size W w2) := Lib.hid (below_then HBX1.out b2)
  have HB2 : Hid (Below w.heap.size w w2) := Lib.hid (HBW.out.trans (HBX2.out.mono HBW.out.size))
  have HRO := Lib.hid (HRW.out.below HBX2.out)
  have HI := Lib.hid hi
  have HFS := Lib.hid hf
  obtain ⟨g, cp, hve, _, _, _⟩ := HRO.out.o.at' (fun e => by rw [e] at hi; simp at hi)
  injection hve with hv1 hv2 hv3
  subst hv1
  have HSw2 := Lib.hid (HSX.out w2 HBX2.out)
  have HSG : Hid (sb ≠ g) := Lib.hid (fun e => by have h1 := (HR0.out.o.lt g rfl).2; have h2 := HSBE.out; omega)
  have s1 := cell_of_blk HSw2.out 1
  have s2 := cell_of_blk HSw2.out 2
  have zs := (Array.getElem?_eq_some_iff.1 HSw2.out).1
  simp at s1 s2
  have hin : i < m := by have h1 := (List.getElem?_eq_some_iff.1 HI.out).1; have h2 := HM.out; omega
  have hin2 : (i : Int) < (m : Int) := by omega
  have hm6 := HM.out.2
  clear hi hf b2 p0 p1 p2 p3 zk hv2 hv3
  have hat := HRO.out.at_ HI.out
  have q1 := cell_of_blk HRO.out.blk 1
  have zr := HRO.out.lt
  have c4 := hat.cells i (k, x) HI.out 4 _ rfl
  simp [kC] at q1 c4
  have zg := hat.lt
  clear hat

  by_cases k1 : 4611686018427387904 ≤ t
  · have t1 : decide ((4611686018427387904 : Int) ≤ (t : Int)) = true := decide_eq_true (by omega)
    have HBAD : Hid (4611686018427387904 ≤ t ∨ t ≤ x.st ∨ (vs.toList ≠ [] ∧ vh = false)) := Lib.hid (.inl k1)
    clear k1
    go_wp2_with fail
    go_ret
    have HLK : instL L k who t vs vh = (2, L) := by
      unfold instL
      rw [HLS.out]
      simp only
      rw [if_pos HHT.out, if_pos HBAD.out]
    unfold RIn
    rw [HLK]
    exact ⟨rfl, RPost.same HR0.out HB2.out⟩
  have t1 : decide ((4611686018427387904 : Int) ≤ (t : Int)) = false := decide_eq_false (by omega)
  by_cases k2 : t ≤ x.st
  · have t2 : decide (t ≤ x.st) = true := decide_eq_true k2
    have t2' : decide ((t : Int) ≤ (x.st : Int)) = true := decide_eq_true (by omega)
    have HBAD : Hid (4611686018427387904 ≤ t ∨ t ≤ x.st ∨ (vs.toList ≠ [] ∧ vh = false)) := Lib.hid (.inr (.inl k2))
    clear k1 k2
    go_wp2_with fail
    go_ret
    have HLK : instL L k who t vs vh = (2, L) := by
      unfold instL
      rw [HLS.out]
      simp only
      rw [if_pos HHT.out, if_pos HBAD.out]
    unfold RIn
    rw [HLK]
    exact ⟨rfl, RPost.same HR0.out HB2.out⟩
  have t2 : decide (t ≤ x.st) = false := decide_eq_false k2
  have t2' : decide ((t : Int) ≤ (x.st : Int)) = false := decide_eq_false (by omega)
  by_cases k3 : vs.toList ≠ [] ∧ vh = false
  · have t3 : vs.toList.isEmpty = false := by simpa using k3.1
    have HBAD : Hid (4611686018427387904 ≤ t ∨ t ≤ x.st ∨ (vs.toList ≠ [] ∧ vh = false)) := Lib.hid (.inr (.inr k3))
    have hvh : vh = false := k3.2
    clear k1 k2 k3
    go_wp2_with fail
    go_ret
    have HLK : instL L k who t vs vh = (2, L) := by
      unfold instL
      rw [HLS.out]
      simp only
      rw [if_pos HHT.out, if_pos HBAD.out]
    unfold RIn
    rw [HLK]
    exact ⟨rfl, RPost.same HR0.out HB2.out⟩
  have HGOOD : Hid (¬ (4611686018427387904 ≤ t ∨ t ≤ x.st ∨ (vs.toList ≠ [] ∧ vh = false))) := Lib.hid (fun h => h.elim k1 (fun h => h.elim k2 k3))

  by_cases ev : vs.toList = []
  · have t3 : vs.toList.isEmpty = true := by simp [ev]
    clear k1 k2 k3 ev
    go_upto_region 6 with fail
    clear t1 t2 t2' t3 s1 s2 zs
    have f4 := HRO.out.fz (i * 9 + 4)
    obtain ⟨x1, hx1⟩ : ∃ y : Cl, y = { x with st := t } := ⟨_, rfl⟩
    have hp := HRO.out.put1 (y := x1) HI.out 4 (by omega) (.int .u64 (t : Int)) (by rw [hx1]; rfl)
    obtain ⟨U1, hU1⟩ : ∃ U, U = (w2.setCell ⟨g, i * 9 + 4, none⟩ (.int .u64 (t : Int))) := ⟨_, rfl⟩
    have HRO1 := Lib.hid (show RO U1 rb D room (.slice (some ⟨g, 0, none⟩) m cap) (L.set i (k, x1)) from by rw [hU1]; exact hp.1)
    have HC1 : Hid (Chg w2 U1 (RF rb (.slice (some ⟨g, 0, none⟩) m cap))) := Lib.hid (by rw [hU1]; exact hp.2)
    have HI1 : Hid ((L.set i (k, x1))[i]? = some (k, x1)) := Lib.hid (List.getElem?_set_self (List.getElem?_eq_some_iff.1 HI.out).1)
    have HXx1 := Lib.hid hx1
    have HSU1 : Hid (U1.heap[sb]? = some (.cells #[.int .u64 vw, .string vs, .bool vh] 36 (0, 0))) := Lib.hid (by rw [hU1]; exact (Below.heap_setCell _ _ _ _ (HSG.out)).trans HSw2.out)
    have HEU1 := Lib.hid hU1.symm
    clear hp hx1 hU1
    go_upto_region 7 with fail
    rw [HEU1.out]
    clear q1 zr c4 zg f4
    have hat := HRO1.out.at_ HI1.out
    have q1 := cell_of_blk HRO1.out.blk 1
    have zr := HRO1.out.lt
    have c5 := hat.cells i (k, x1) HI1.out 5 _ rfl
    simp [kC] at q1 c5
    have zg := hat.lt
    clear hat
    have s1 := cell_of_blk HSU1.out 1
    have s2 := cell_of_blk HSU1.out 2
    have zs := (Array.getElem?_eq_some_iff.1 HSU1.out).1
    simp at s1 s2
    have f5 := HRO1.out.fz (i * 9 + 5)
    refine wp_region_still_tail 9 (by kernel_rfl) (by kernel_rfl) ?_
    change wpStill _ _ (World.drew _) (fun a' => wpList _ _ _ _ a' (World.drew _)) _ _
    simp only [List.take_succ_cons, List.take_zero, List.drop_succ_cons, List.drop_zero]
    repeat still_step
    refine wpStill_nil ?_
    obtain ⟨x2, hx2⟩ : ∃ y : Cl, y = { x1 with ab := !vh } := ⟨_, rfl⟩
    have hp := HRO1.out.put1 (y := x2) HI1.out 5 (by omega) (.bool vh) (by rw [hx2]; simp [encC])
    obtain ⟨U2, hU2⟩ : ∃ U, U = (U1.setCell ⟨g, i * 9 + 5, none⟩ (.bool vh)).drew := ⟨_, rfl⟩
    rw [List.set_set] at hp
    have HRO2 := Lib.hid (show RO U2 rb D room (.slice (some ⟨g, 0, none⟩) m cap) (L.set i (k, x2)) from by rw [hU2]; exact hp.1.below (below_drewN (Below.refl _ _) 1))
    have HC2 : Hid (Chg U1 U2 (RF rb (.slice (some ⟨g, 0, none⟩) m cap))) := Lib.hid (by rw [hU2]; exact hp.2.drew)
    have HI2 : Hid ((L.set i (k, x2))[i]? = some (k, x2)) := Lib.hid (List.getElem?_set_self (List.getElem?_eq_some_iff.1 HI.out).1)
    have HXx2 := Lib.hid hx2
    have HSU2 : Hid (U2.heap[sb]? = some (.cells #[.int .u64 vw, .string vs, .bool vh] 36 (0, 0))) := Lib.hid (by rw [hU2]; exact (Below.heap_setCell _ _ _ _ (HSG.out)).trans HSU1.out)
    have HEU2 := Lib.hid hU2.symm
    clear hp hx2 hU2
    go_upto_region 8 with fail
    rw [HEU2.out]
    clear q1 zr c5 zg f5 s1 s2 zs
    have hat := HRO2.out.at_ HI2.out
    have q1 := cell_of_blk HRO2.out.blk 1
    have zr := HRO2.out.lt
    have c6 := hat.cells i (k, x2) HI2.out 6 _ rfl
    simp [kC] at q1 c6
    have zg := hat.lt
    clear hat
    have s1 := cell_of_blk HSU2.out 1
    have s2 := cell_of_blk HSU2.out 2
    have zs := (Array.getElem?_eq_some_iff.1 HSU2.out).1
    simp at s1 s2
    have f6 := HRO2.out.fz (i * 9 + 6)
    refine wp_region_still_tail 9 (by kernel_rfl) (by kernel_rfl) ?_
    change wpStill _ _ (World.drew _) (fun a' => wpList _ _ _ _ a' (World.drew _)) _ _
    simp only [List.take_succ_cons, List.take_zero, List.drop_succ_cons, List.drop_zero]
    repeat still_step
    refine wpStill_nil ?_
    obtain ⟨x3, hx3⟩ : ∃ y : Cl, y = { x2 with text := vs } := ⟨_, rfl⟩
    have hp := HRO2.out.put1 (y := x3) HI2.out 6 (by omega) (.string vs) (by rw [hx3]; rfl)
    obtain ⟨U3, hU3⟩ : ∃ U, U = (U2.setCell ⟨g, i * 9 + 6, none⟩ (.string vs)).drew := ⟨_, rfl⟩
    rw [List.set_set] at hp
    have HRO3 := Lib.hid (show RO U3 rb D room (.slice (some ⟨g, 0, none⟩) m cap) (L.set i (k, x3)) from by rw [hU3]; exact hp.1.below (below_drewN (Below.refl _ _) 1))
    have HC3 : Hid (Chg U2 U3 (RF rb (.slice (some ⟨g, 0, none⟩) m cap))) := Lib.hid (by rw [hU3]; exact hp.2.drew)
    have HI3 : Hid ((L.set i (k, x3))[i]? = some (k, x3)) := Lib.hid (List.getElem?_set_self (List.getElem?_eq_some_iff.1 HI.out).1)
    have HXx3 := Lib.hid hx3
    have HSU3 : Hid (U3.heap[sb]? = some (.cells #[.int .u64 vw, .string vs, .bool vh] 36 (0, 0))) := Lib.hid (by rw [hU3]; exact (Below.heap_setCell _ _ _ _ (HSG.out)).trans HSU2.out)
    have HEU3 := Lib.hid hU3.symm
    clear hp hx3 hU3
    go_upto_region 9 with fail
    rw [HEU3.out]
    clear q1 zr c6 zg f6 s1 s2 zs
    have hat := HRO3.out.at_ HI3.out
    have q1 := cell_of_blk HRO3.out.blk 1
    have zr := HRO3.out.lt
    have c7 := hat.cells i (k, x3) HI3.out 7 _ rfl
    simp [kC] at q1 c7
    have zg := hat.lt
    clear hat
    have f7 := HRO3.out.fz (i * 9 + 7)
    obtain ⟨x4, hx4⟩ : ∃ y : Cl, y = { x3 with lk := false } := ⟨_, rfl⟩
    have hp := HRO3.out.put1 (y := x4) HI3.out 7 (by omega) (.bool false) (by rw [hx4]; rfl)
    obtain ⟨U4, hU4⟩ : ∃ U, U = (U3.setCell ⟨g, i * 9 + 7, none⟩ (.bool false)) := ⟨_, rfl⟩
    rw [List.set_set] at hp
    have HRO4 := Lib.hid (show RO U4 rb D room (.slice (some ⟨g, 0, none⟩) m cap) (L.set i (k, x4)) from by rw [hU4]; exact hp.1)
    have HC4 : Hid (Chg U3 U4 (RF rb (.slice (some ⟨g, 0, none⟩) m cap))) := Lib.hid (by rw [hU4]; exact hp.2)
    have HI4 : Hid ((L.set i (k, x4))[i]? = some (k, x4)) := Lib.hid (List.getElem?_set_self (List.getElem?_eq_some_iff.1 HI.out).1)
    have HXx4 := Lib.hid hx4
    have HSU4 : Hid (U4.heap[sb]? = some (.cells #[.int .u64 vw, .string vs, .bool vh] 36 (0, 0))) := Lib.hid (by rw [hU4]; exact (Below.heap_setCell _ _ _ _ (HSG.out)).trans HSU3.out)
    have HEU4 := Lib.hid hU4.symm
    clear hp hx4 hU4
    go_upto_region 10 with fail
    rw [HEU4.out]
    clear q1 zr c7 zg f7
    go_wp2_with fail
    go_ret
    have hx4 : x4 = ⟨t, false, !vh, vs, x.who⟩ := by rw [HXx4.out, HXx3.out, HXx2.out, HXx1.out]
    have HLK : instL L k who t vs vh = (0, updL k x4 L) := by
      unfold instL
      rw [HLS.out]
      simp only
      rw [if_pos HHT.out, if_neg HGOOD.out, hx4]
    unfold RIn
    rw [HLK]
    refine ⟨rfl, ⟨.slice (some ⟨g, 0, none⟩) m cap, ?_, fun j hj => .inl hj⟩, ((((Chg.of_below HB2.out _).trans HC1.out (fun _ _ h => h)).trans HC2.out (fun _ _ h => h)).trans HC3.out (fun _ _ h => h)).trans HC4.out (fun _ _ h => h)⟩
    rw [← set_upd HI.out HFS.out]
    exact HRO4.out

  · have t3 : vs.toList.isEmpty = false := by simpa using ev
    have hvh : vh = true := by
      cases hv : vh
      · exact absurd ⟨ev, hv⟩ k3
      · rfl
    clear k1 k2 k3 ev
    go_upto_region 6 with fail
    clear t1 t2 t2' t3 hvh s1 s2 zs
    have f4 := HRO.out.fz (i * 9 + 4)
    obtain ⟨x1, hx1⟩ : ∃ y : Cl, y = { x with st := t } := ⟨_, rfl⟩
    have hp := HRO.out.put1 (y := x1) HI.out 4 (by omega) (.int .u64 (t : Int)) (by rw [hx1]; rfl)
    obtain ⟨U1, hU1⟩ : ∃ U, U = (w2.setCell ⟨g, i * 9 + 4, none⟩ (.int .u64 (t : Int))) := ⟨_, rfl⟩
    have HRO1 := Lib.hid (show RO U1 rb D room (.slice (some ⟨g, 0, none⟩) m cap) (L.set i (k, x1)) from by rw [hU1]; exact hp.1)
    have HC1 : Hid (Chg w2 U1 (RF rb (.slice (some ⟨g, 0, none⟩) m cap))) := Lib.hid (by rw [hU1]; exact hp.2)
    have HI1 : Hid ((L.set i (k, x1))[i]? = some (k, x1)) := Lib.hid (List.getElem?_set_self (List.getElem?_eq_some_iff.1 HI.out).1)
    have HXx1 := Lib.hid hx1
    have HSU1 : Hid (U1.heap[sb]? = some (.cells #[.int .u64 vw, .string vs, .bool vh] 36 (0, 0))) := Lib.hid (by rw [hU1]; exact (Below.heap_setCell _ _ _ _ (HSG.out)).trans HSw2.out)
    have HEU1 := Lib.hid hU1.symm
    clear hp hx1 hU1
    go_upto_region 7 with fail
    rw [HEU1.out]
    clear q1 zr c4 zg f4
    have hat := HRO1.out.at_ HI1.out
    have q1 := cell_of_blk HRO1.out.blk 1
    have zr := HRO1.out.lt
    have c5 := hat.cells i (k, x1) HI1.out 5 _ rfl
    simp [kC] at q1 c5
    have zg := hat.lt
    clear hat
    have s1 := cell_of_blk HSU1.out 1
    have s2 := cell_of_blk HSU1.out 2
    have zs := (Array.getElem?_eq_some_iff.1 HSU1.out).1
    simp at s1 s2
    have f5 := HRO1.out.fz (i * 9 + 5)
    refine wp_region_still_tail 9 (by kernel_rfl) (by kernel_rfl) ?_
    change wpStill _ _ (World.drew _) (fun a' => wpList _ _ _ _ a' (World.drew _)) _ _
    simp only [List.take_succ_cons, List.take_zero, List.drop_succ_cons, List.drop_zero]
    repeat still_step
    refine wpStill_nil ?_
    obtain ⟨x2, hx2⟩ : ∃ y : Cl, y = { x1 with ab := !vh } := ⟨_, rfl⟩
    have hp := HRO1.out.put1 (y := x2) HI1.out 5 (by omega) (.bool vh) (by rw [hx2]; simp [encC])
    obtain ⟨U2, hU2⟩ : ∃ U, U = (U1.setCell ⟨g, i * 9 + 5, none⟩ (.bool vh)).drew := ⟨_, rfl⟩
    rw [List.set_set] at hp
    have HRO2 := Lib.hid (show RO U2 rb D room (.slice (some ⟨g, 0, none⟩) m cap) (L.set i (k, x2)) from by rw [hU2]; exact hp.1.below (below_drewN (Below.refl _ _) 1))
    have HC2 : Hid (Chg U1 U2 (RF rb (.slice (some ⟨g, 0, none⟩) m cap))) := Lib.hid (by rw [hU2]; exact hp.2.drew)
    have HI2 : Hid ((L.set i (k, x2))[i]? = some (k, x2)) := Lib.hid (List.getElem?_set_self (List.getElem?_eq_some_iff.1 HI.out).1)
    have HXx2 := Lib.hid hx2
    have HSU2 : Hid (U2.heap[sb]? = some (.cells #[.int .u64 vw, .string vs, .bool vh] 36 (0, 0))) := Lib.hid (by rw [hU2]; exact (Below.heap_setCell _ _ _ _ (HSG.out)).trans HSU1.out)
    have HEU2 := Lib.hid hU2.symm
    clear hp hx2 hU2
    go_upto_region 8 with fail
    rw [HEU2.out]
    clear q1 zr c5 zg f5 s1 s2 zs
    have hat := HRO2.out.at_ HI2.out
    have q1 := cell_of_blk HRO2.out.blk 1
    have zr := HRO2.out.lt
    have c6 := hat.cells i (k, x2) HI2.out 6 _ rfl
    simp [kC] at q1 c6
    have zg := hat.lt
    clear hat
    have s1 := cell_of_blk HSU2.out 1
    have s2 := cell_of_blk HSU2.out 2
    have zs := (Array.getElem?_eq_some_iff.1 HSU2.out).1
    simp at s1 s2
    have f6 := HRO2.out.fz (i * 9 + 6)
    refine wp_region_still_tail 9 (by kernel_rfl) (by kernel_rfl) ?_
    change wpStill _ _ (World.drew _) (fun a' => wpList _ _ _ _ a' (World.drew _)) _ _
    simp only [List.take_succ_cons, List.take_zero, List.drop_succ_cons, List.drop_zero]
    repeat still_step
    refine wpStill_nil ?_
    obtain ⟨x3, hx3⟩ : ∃ y : Cl, y = { x2 with text := vs } := ⟨_, rfl⟩
    have hp := HRO2.out.put1 (y := x3) HI2.out 6 (by omega) (.string vs) (by rw [hx3]; rfl)
    obtain ⟨U3, hU3⟩ : ∃ U, U = (U2.setCell ⟨g, i * 9 + 6, none⟩ (.string vs)).drew := ⟨_, rfl⟩
    rw [List.set_set] at hp
    have HRO3 := Lib.hid (show RO U3 rb D room (.slice (some ⟨g, 0, none⟩) m cap) (L.set i (k, x3)) from by rw [hU3]; exact hp.1.below (below_drewN (Below.refl _ _) 1))
    have HC3 : Hid (Chg U2 U3 (RF rb (.slice (some ⟨g, 0, none⟩) m cap))) := Lib.hid (by rw [hU3]; exact hp.2.drew)
    have HI3 : Hid ((L.set i (k, x3))[i]? = some (k, x3)) := Lib.hid (List.getElem?_set_self (List.getElem?_eq_some_iff.1 HI.out).1)
    have HXx3 := Lib.hid hx3
    have HSU3 : Hid (U3.heap[sb]? = some (.cells #[.int .u64 vw, .string vs, .bool vh] 36 (0, 0))) := Lib.hid (by rw [hU3]; exact (Below.heap_setCell _ _ _ _ (HSG.out)).trans HSU2.out)
    have HEU3 := Lib.hid hU3.symm
    clear hp hx3 hU3
    go_upto_region 9 with fail
    rw [HEU3.out]
    clear q1 zr c6 zg f6 s1 s2 zs
    have hat := HRO3.out.at_ HI3.out
    have q1 := cell_of_blk HRO3.out.blk 1
    have zr := HRO3.out.lt
    have c7 := hat.cells i (k, x3) HI3.out 7 _ rfl
    simp [kC] at q1 c7
    have zg := hat.lt
    clear hat
    have f7 := HRO3.out.fz (i * 9 + 7)
    obtain ⟨x4, hx4⟩ : ∃ y : Cl, y = { x3 with lk := false } := ⟨_, rfl⟩
    have hp := HRO3.out.put1 (y := x4) HI3.out 7 (by omega) (.bool false) (by rw [hx4]; rfl)
    obtain ⟨U4, hU4⟩ : ∃ U, U = (U3.setCell ⟨g, i * 9 + 7, none⟩ (.bool false)) := ⟨_, rfl⟩
    rw [List.set_set] at hp
    have HRO4 := Lib.hid (show RO U4 rb D room (.slice (some ⟨g, 0, none⟩) m cap) (L.set i (k, x4)) from by rw [hU4]; exact hp.1)
    have HC4 : Hid (Chg U3 U4 (RF rb (.slice (some ⟨g, 0, none⟩) m cap))) := Lib.hid (by rw [hU4]; exact hp.2)
    have HI4 : Hid ((L.set i (k, x4))[i]? = some (k, x4)) := Lib.hid (List.getElem?_set_self (List.getElem?_eq_some_iff.1 HI.out).1)
    have HXx4 := Lib.hid hx4
    have HSU4 : Hid (U4.heap[sb]? = some (.cells #[.int .u64 vw, .string vs, .bool vh] 36 (0, 0))) := Lib.hid (by rw [hU4]; exact (Below.heap_setCell _ _ _ _ (HSG.out)).trans HSU3.out)
    have HEU4 := Lib.hid hU4.symm
    clear hp hx4 hU4
    go_upto_region 10 with fail
    rw [HEU4.out]
    clear q1 zr c7 zg f7
    go_wp2_with fail
    go_ret
    have hx4 : x4 = ⟨t, false, !vh, vs, x.who⟩ := by rw [HXx4.out, HXx3.out, HXx2.out, HXx1.out]
    have HLK : instL L k who t vs vh = (0, updL k x4 L) := by
      unfold instL
      rw [HLS.out]
      simp only
      rw [if_pos HHT.out, if_neg HGOOD.out, hx4]
    unfold RIn
    rw [HLK]
    refine ⟨rfl, ⟨.slice (some ⟨g, 0, none⟩) m cap, ?_, fun j hj => .inl hj⟩, ((((Chg.of_below HB2.out _).trans HC1.out (fun _ _ h => h)).trans HC2.out (fun _ _ h => h)).trans HC3.out (fun _ _ h => h)).trans HC4.out (fun _ _ h => h)⟩
    rw [← set_upd HI.out HFS.out]
    exact HRO4.out

end Go.Proofs.Ytaanohgkdpohhaa
