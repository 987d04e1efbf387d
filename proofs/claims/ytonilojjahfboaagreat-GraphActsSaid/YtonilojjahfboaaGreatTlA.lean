/- All that a graph tells is the document's. Conditions: the contract's own premises. Layer 16: a graph, the document's, and what was cloned on the way, in memory. Conditions: each lemma's own premises. -/
import Derived.Test.YtonilojjahfboaaGreatGsA
import Derived.Test.YtonilojjahfboaaGreatRt1
import Derived.Test.YtonilojjahfboaaGreatRt6
import Derived.Test.YtonilojjahfboaaGreatRsA
import Derived.Test.YtonilojjahfboaaGreatGfB
import Derived.Test.YtonilojjahfboaaGreatGr8
import Derived.Test.YtonilojjahfboaaGreatPb5
import Derived.Test.YtonilojjahfboaaGreatGrA
import Derived.Deep.Cut
import Derived.Deep.CutRange
import Derived.Deep.RegionHeld3
import Derived.Test.YtonilojjahfboaaGreatRtB
import Derived.Test.YtonilojjahfboaaGreatRt5
namespace Go.Proofs.YtonilojjahfboaaGreat
open Go.RowKit Go.Maps

theorem RowK.run_midA {P : Program} {α : Type} (k : RowK P α) (a : Option Addr) (cap len i : Nat) (h : i + 1 ≤ cap) (w : World) :
    (Instr.sliceAt k.t (.slice a len cap) (some (.int .i64 i)) (some (.int .i64 ((i : Int) + 1))) none).run P w = .ok (.slice (k.sfx a cap i) 1 (cap - i)) w := by
  obtain ⟨i0, hi, hz0, hz1, hz2⟩ := info_parts k.info
  have hz : (i : Int) + 1 ≤ (cap : Int) := by omega
  have hz3 : (i : Int) ≤ (i : Int) + 1 := by omega
  have hu := run_underlying k.ht
  unfold RowK.sfx
  simp [Instr.sliceAt, go_sem, hu, k.ht, hi, hz, hz1, hz3, sizeOf, typeInfo]
theorem RowK.V.oneA {P : Program} {α : Type} {k : RowK P α} {w : World} {a : Option Addr} {l : List α} {i cap : Nat} {x : α} (h : k.V w a l) (hx : l[i]? = some x) (hc : l.length ≤ cap) : k.V w (k.sfx a cap i) [x] := fun _ => by
  have hlt := (List.getElem?_eq_some_iff.1 hx).1
  obtain ⟨b, off, e, hat⟩ := h (fun e => by rw [e] at hlt; simp at hlt)
  refine ⟨b, off + i * k.size, ?_, ⟨fun j y hy q u hu => ?_, hat.lt⟩⟩
  · unfold RowK.sfx
    rw [if_neg (by omega), e]
    simp [Addr.add]
  · obtain ⟨rfl, rfl⟩ : j = 0 ∧ y = x := by
      cases j with
      | zero => exact ⟨rfl, by simpa using hy.symm⟩
      | succ j => simp at hy
    have := hat.cells i y hx q u hu
    rw [Nat.zero_mul, Nat.add_zero]
    exact this
/-- a list of numbers that a call of the base world gives -/
def LsPost (u : World) (L : List Int) (e : Ending) (w' : World) : Prop := ∃ a c, e = .returned (.slice a L.length c) ∧ kI.V w' a L ∧ Below u.heap.size u w'
theorem LbPost.ls {u w' : World} {L : List Int} {e : Ending} (h : LbPost u L e w') : LsPost u L e w' := by
  obtain ⟨v, rfl, ho, hb⟩ := h
  obtain ⟨a, c, rfl⟩ := ho.shape
  exact ⟨a, c, rfl, ho.toV, hb⟩
theorem EsPost.ls {u w' : World} {E : List Eg} {p : Eg → Bool} {e : Ending} (h : EsPost E p u e w') : LsPost u (idsE E p) e w' := by
  obtain ⟨v, rfl, ho, hb⟩ := h
  obtain ⟨a, c, rfl⟩ := ho.shape
  exact ⟨a, c, rfl, ho.toV, hb⟩
theorem kI_of_fresh {B : Nat} {w' : World} {a : Option Addr} {l : List Int} (h : FreshI B w' a l) : kI.V w' a l := by
  rcases h with ⟨rfl, rfl⟩ | ⟨b, cs, rfl, hB, h1, h2⟩
  · exact fun e => absurd rfl e
  · exact fun _ => ⟨b, 0, rfl, ⟨fun i x hx q u hu => by
      obtain ⟨rfl, rfl⟩ : q = 0 ∧ u = .int .i64 x := by
        match q with
        | 0 => exact ⟨rfl, by simpa [kI] using hu.symm⟩
        | q + 1 => simp [kI] at hu
      rw [cell_of_blk h1]
      have := h2 i x hx
      simpa [kI] using this, (Array.getElem?_eq_some_iff.1 h1).1⟩⟩
theorem VdPost2.ls {u w' : World} {L : List Int} {e : Ending} (h : VdPost2 u L e w') : LsPost u L e w' := by
  obtain ⟨a, c, rfl, hf, hb⟩ := h
  exact ⟨a, c, rfl, kI_of_fresh hf, hb⟩
theorem VdPost.ls {u w' : World} {L : List Int} {e : Ending} (h : VdPost u L e w') : LsPost u L e w' := by
  obtain ⟨a, c, rfl, hf, hb⟩ := h
  exact ⟨a, c, rfl, hf, hb⟩
set_option maxRecDepth 100000 in
set_option maxHeartbeats 8000000 in
theorem told16_any (gb vb eb rb B : Nat) (VL : List Vr) (EL : List Er) (lab key : ByteArray) (low high : Vl) (w : World) (h : GrC w gb vb eb (VL.map Vr.v) (EL.map Er.e)) (hr : RgL w rb B VL EL) (hV : VL.length ≤ 1000) (hE : EL.length ≤ 1000) :
    Calls Tryz.prog 64 #[.pointer (some ⟨gb, 0, none⟩), .pointer (some ⟨rb, 0, none⟩), .agg #[.string lab, .string key, .int .i64 low.kind, .int .i64 low.n, .string low.s, .int .i64 high.kind, .int .i64 high.n, .string high.s]] w fun e w' => e = .returned (.bool true) ∧ Below w.heap.size w w' := by
  obtain ⟨W, hW⟩ : ∃ W, W = w.alloc (.cells #[.string lab, .string key, .int .i64 low.kind, .int .i64 low.n, .string low.s, .int .i64 high.kind, .int .i64 high.n, .string high.s] 129) := ⟨_, rfl⟩
  have hBW : Below w.heap.size w W := by rw [hW]; exact below_box w _
  obtain ⟨kb, hkb⟩ : ∃ b, b = w.heap.size := ⟨_, rfl⟩
  have hAB : AskB W kb lab key low high := by unfold AskB; rw [hW, hkb]; exact heap_new w _
  have HG := Lib.hid (h.below hBW)
  have HR := Lib.hid (hr.below hBW)
  have HAB := Lib.hid hAB
  have HBW := Lib.hid hBW
  have HL : Hid (VL.length ≤ 1000 ∧ EL.length ≤ 1000) := Lib.hid ⟨hV, hE⟩
  obtain ⟨va, vc, ea, ec, hrb, hvo, heo⟩ := HR.out.ex
  have HRB := Lib.hid hrb
  have HVO := Lib.hid hvo
  have HEO := Lib.hid heo
  obtain ⟨m, hm⟩ : ∃ n, n = VL.length := ⟨_, rfl⟩
  obtain ⟨ne, hne⟩ : ∃ n, n = EL.length := ⟨_, rfl⟩
  rw [← hm, ← hne] at HRB
  rw [← hm] at HVO
  rw [← hne] at HEO
  have HM : Hid (m = VL.length ∧ ne = EL.length ∧ m ≤ 1000) := Lib.hid ⟨hm, hne, by omega⟩
  have HW := Lib.hid hW
  have HKB := Lib.hid hkb
  have HRC : Hid (∀ u, Below W.heap.size W u → (u.cell? ⟨rb, 0, none⟩ = some (.slice va m vc) ∧ u.cell? ⟨rb, 1, none⟩ = some (.slice ea ne ec)) ∧ (u.cell? ⟨kb, 0, none⟩ = some (.string lab) ∧ u.cell? ⟨kb, 1, none⟩ = some (.string key) ∧ u.cell? ⟨kb, 2, none⟩ = some (.int .i64 low.kind) ∧ u.cell? ⟨kb, 3, none⟩ = some (.int .i64 low.n) ∧ u.cell? ⟨kb, 4, none⟩ = some (.string low.s) ∧ u.cell? ⟨kb, 5, none⟩ = some (.int .i64 high.kind) ∧ u.cell? ⟨kb, 6, none⟩ = some (.int .i64 high.n) ∧ u.cell? ⟨kb, 7, none⟩ = some (.string high.s)) ∧ rb < u.heap.size ∧ kb < u.heap.size) := Lib.hid (fun u hu => by
    have e := (hu.block _ (Array.getElem?_eq_some_iff.1 HRB.out).1).trans HRB.out
    obtain ⟨x0, x1, x2, x3, x4, x5, x6, x7, xl⟩ := (HAB.out.below hu).cells
    exact ⟨⟨by rw [cell_of_blk e]; rfl, by rw [cell_of_blk e]; rfl⟩, ⟨x0, x1, x2, x3, x4, x5, x6, x7⟩, (Array.getElem?_eq_some_iff.1 e).1, xl⟩)
  have HPS : Hid (∀ u, Below W.heap.size W u → ∀ x ∈ VL, PsA u x.a x.c x.v.ps ∧ x.v.ps.length ≤ 100000) := Lib.hid (fun u hu x hx => ⟨((HR.out.below hu).pv x hx).1, Nat.le_trans (checkR_ps (HG.out.ok.v x.v (List.mem_map.2 ⟨x, hx, rfl⟩))) (by omega)⟩)
  have HPE : Hid (∀ u, Below W.heap.size W u → ∀ x ∈ EL, PsA u x.a x.c x.e.ps ∧ x.e.ps.length ≤ 100000) := Lib.hid (fun u hu x hx => ⟨((HR.out.below hu).pe x hx).1, Nat.le_trans (checkR_ps (HG.out.ok.e x.e (List.mem_map.2 ⟨x, hx, rfl⟩))) (by omega)⟩)
  have HIS : Hid (∀ (u : World) (a b : Option Addr) (ac bc n : Nat) (L : List Int), n = L.length → n ≤ 4000000 → kI.V u a L → kI.V u b L → Calls Tryz.prog 44 #[.slice a n ac, .slice b n bc] u fun e w' => e = .returned (.bool true) ∧ Below u.heap.size u w') := Lib.hid (fun u a b ac bc n L hn hl h1 h2 => by
    subst hn
    refine (ints10_any a b ac bc L L u h1 h2 hl).mono ?_
    rintro e w' ⟨rfl, hb⟩
    rw [decide_eq_true (rfl : L = L)]
    exact ⟨rfl, hb⟩)
  obtain ⟨L1, hL1⟩ : ∃ l, l = labL (VL.map Vr.v) lab := ⟨_, rfl⟩
  obtain ⟨L2, hL2⟩ : ∃ l, l = valL (VL.map Vr.v) lab key low high := ⟨_, rfl⟩
  obtain ⟨n1, hn1⟩ : ∃ n, n = L1.length := ⟨_, rfl⟩
  obtain ⟨n2, hn2⟩ : ∃ n, n = L2.length := ⟨_, rfl⟩
  have HN1 : Hid (n1 = L1.length ∧ n1 ≤ 4000000) := Lib.hid ⟨hn1, by
    have := List.length_filter_le (fun x : Vt => decide (x.label = lab)) (VL.map Vr.v)
    rw [List.length_map] at this
    rw [hn1, hL1]; unfold labL; rw [List.length_map]; omega⟩
  have HN2 : Hid (n2 = L2.length ∧ n2 ≤ 4000000) := Lib.hid ⟨hn2, by
    have := valL_len (VL.map Vr.v) lab key low high
    rw [List.length_map] at this
    rw [hn2, hL2]; omega⟩
  have HLA : Hid (∀ u, Below W.heap.size W u → Calls Tryz.prog 62 #[.pointer (some ⟨gb, 0, none⟩), .string lab] u fun e w' => ∃ a c, e = .returned (.slice a n1 c) ∧ kI.V w' a L1 ∧ Below u.heap.size u w') := Lib.hid (fun u hu => by
    refine (glabeled_any gb vb eb _ _ lab u (HG.out.below hu) (by rw [List.length_map]; omega)).mono ?_
    rintro e w' hp
    have := hp.ls
    rw [← hL1] at this
    unfold LsPost at this
    rw [← hn1] at this
    exact this)
  have HLB : Hid (∀ u, Below W.heap.size W u → Calls Tryz.prog 147 #[.pointer (some ⟨rb, 0, none⟩), .string lab] u fun e w' => ∃ a c, e = .returned (.slice a n1 c) ∧ kI.V w' a L1 ∧ Below u.heap.size u w') := Lib.hid (fun u hu => by
    obtain ⟨⟨k0, _⟩, _, _, _⟩ := HRC.out u hu
    rw [hm] at k0
    refine (r16labeled_any k0 (by have := (hvo.below hu).toV; exact this) (by omega) lab).mono ?_
    rintro e w' hp
    have := hp.ls
    rw [← hL1] at this
    unfold LsPost at this
    rw [← hn1] at this
    exact this)
  have HVA : Hid (∀ u, Below W.heap.size W u → Calls Tryz.prog 58 #[.pointer (some ⟨gb, 0, none⟩), .string lab, .string key, .agg #[.int .i64 low.kind, .int .i64 low.n, .string low.s], .agg #[.int .i64 high.kind, .int .i64 high.n, .string high.s]] u fun e w' => ∃ a c, e = .returned (.slice a n2 c) ∧ kI.V w' a L2 ∧ Below u.heap.size u w') := Lib.hid (fun u hu => by
    refine (gvalued_any gb vb eb _ _ lab key low high u (HG.out.below hu) (by rw [List.length_map]; omega)).mono ?_
    rintro e w' hp
    have := hp.ls
    rw [← hL2] at this
    unfold LsPost at this
    rw [← hn2] at this
    exact this)
  have HVB : Hid (∀ u, Below W.heap.size W u → Calls Tryz.prog 148 #[.pointer (some ⟨rb, 0, none⟩), .string lab, .string key, .agg #[.int .i64 low.kind, .int .i64 low.n, .string low.s], .agg #[.int .i64 high.kind, .int .i64 high.n, .string high.s]] u fun e w' => ∃ a c, e = .returned (.slice a n2 c) ∧ kI.V w' a L2 ∧ Below u.heap.size u w') := Lib.hid (fun u hu => by
    obtain ⟨⟨k0, _⟩, _, _, _⟩ := HRC.out u hu
    rw [hm] at k0
    refine (r16valued_any (w := u) (rb := rb) (VL := VL) ⟨⟨va, vc, k0, by have := (hvo.below hu).toV; exact this⟩, fun x hx => ⟨(HPS.out u hu x hx).1.v, by have := (HPS.out u hu x hx).2; omega⟩, by omega, HG.out.ok.sv⟩ lab key low high).mono ?_
    rintro e w' hp
    have := hp.ls
    rw [← hL2] at this
    unfold LsPost at this
    rw [← hn2] at this
    exact this)
  clear h hr hV hE hBW hAB hrb hvo heo hm hne hW hkb hL1 hL2 hn1 hn2
  go_enter Tryz.func64, Tryz.ntmps64
  go_upto_region 1 with fail
  rw [← HW.out, ← HKB.out]
  go_wp2_with fail
  refine (gall_any gb vb eb (VL.map Vr.v) (EL.map Er.e) W HG.out (by rw [List.length_map]; have := HL.out; omega) (by rw [List.length_map]; have := HL.out; omega)).mono ?_
  rintro e wA ⟨v1, v2, XL, YL, rfl, hr1, hr2, hxl, hyl, hbA⟩
  obtain ⟨xa, xc, rfl⟩ := hr1.o.shape
  obtain ⟨ya, yc, rfl⟩ := hr2.o.shape
  have hm1 : XL.length = m := by have := congrArg List.length hxl; simp only [List.length_map] at this; have := HM.out; omega
  have hm2 : YL.length = ne := by have := congrArg List.length hyl; simp only [List.length_map] at this; have := HM.out; omega
  have HBA := Lib.hid hbA
  have HSV : Hid (∀ u, Below wA.heap.size wA u → Calls Tryz.prog 76 #[.slice xa m xc, .slice va m vc] u fun e w' => e = .returned (.bool true) ∧ Below u.heap.size u w') := Lib.hid (fun u hu => by
    have hv2 := (HVO.out.below (below_then hbA hu)).toV
    have h1 := hr1.below hu
    have hq := sameV_any xa va xc vc XL VL u h1.o.toV hv2 (fun x hx => ⟨(h1.p x hx).1, by
      have hxm : x.v ∈ VL.map Vr.v := by rw [← hxl]; exact List.mem_map.2 ⟨x, hx, rfl⟩
      have := checkR_ps (HG.out.ok.v x.v hxm); omega⟩) (fun x hx => (HPS.out u (below_then hbA hu) x hx).1) hxl (by have := HL.out; have := HM.out; omega)
    rw [hm1, ← HM.out.1] at hq
    refine hq.mono ?_
    rintro e w' ⟨rfl, n, rfl⟩
    exact ⟨rfl, below_drewN (Below.refl _ _) n⟩)
  have HSE : Hid (∀ u, Below wA.heap.size wA u → Calls Tryz.prog 77 #[.slice ya ne yc, .slice ea ne ec] u fun e w' => e = .returned (.bool true) ∧ Below u.heap.size u w') := Lib.hid (fun u hu => by
    have hv2 := (HEO.out.below (below_then hbA hu)).toV
    have h1 := hr2.below hu
    have hq := sameE_any ya ea yc ec YL EL u h1.o.toV hv2 (fun x hx => ⟨(h1.p x hx).1, by
      have hxm : x.e ∈ EL.map Er.e := by rw [← hyl]; exact List.mem_map.2 ⟨x, hx, rfl⟩
      have := checkR_ps (HG.out.ok.e x.e hxm); omega⟩) (fun x hx => (HPE.out u (below_then hbA hu) x hx).1) hyl (by have := HL.out; have := HM.out; omega)
    rw [hm2, ← HM.out.2.1] at hq
    refine hq.mono ?_
    rintro e w' ⟨rfl, n, rfl⟩
    exact ⟨rfl, below_drewN (Below.refl _ _) n⟩)
  rw [hm1, hm2]
  clear hr1 hr2 hxl hyl hbA hm1 hm2
  go_upto_region 2 with fail
  have hD : Below wA.heap.size wA wA.drew := below_drewN (Below.refl _ _) 1
  have HD := Lib.hid hD
  have HK0 := Lib.hid (HRC.out wA.drew (below_then HBA.out hD))
  clear hD
  go_cut [69] from 18 to 68 (fun s wc => ∃ u : World, u = wc ∧ s = .bool false ∧ Hid (Below wA.heap.size wA u))
  case first =>
    go_region_held3 (fun u => (u.cell? ⟨rb, 0, none⟩ = some (.slice va m vc) ∧ u.cell? ⟨rb, 1, none⟩ = some (.slice ea ne ec)) ∧ (u.cell? ⟨kb, 0, none⟩ = some (.string lab) ∧ u.cell? ⟨kb, 1, none⟩ = some (.string key) ∧ u.cell? ⟨kb, 2, none⟩ = some (.int .i64 low.kind) ∧ u.cell? ⟨kb, 3, none⟩ = some (.int .i64 low.n) ∧ u.cell? ⟨kb, 4, none⟩ = some (.string low.s) ∧ u.cell? ⟨kb, 5, none⟩ = some (.int .i64 high.kind) ∧ u.cell? ⟨kb, 6, none⟩ = some (.int .i64 high.n) ∧ u.cell? ⟨kb, 7, none⟩ = some (.string high.s)) ∧ rb < u.heap.size ∧ kb < u.heap.size)
      (first | exact HK0.out | exact HS1.out | exact HS2.out | exact HS3.out | exact HS4.out | exact HS5.out | exact HS6.out | exact HS7.out | exact HS8.out)
      (first | (go_at_call 76; (with_reducible refine (HSV.out _ HD.out).mono ?_); rintro e u1 ⟨rfl, hb⟩; have HB1 := Lib.hid (below_then HD.out hb); have HS1 := Lib.hid (HRC.out u1 (below_then HBA.out HB1.out)); clear hb) | (go_at_call 77; (with_reducible refine (HSE.out _ HB1.out).mono ?_); rintro e u2 ⟨rfl, hb⟩; have HB2 := Lib.hid (below_then HB1.out hb); have HS2 := Lib.hid (HRC.out u2 (below_then HBA.out HB2.out)); clear hb) | (go_at_call 62; (with_reducible refine (HLA.out _ (below_then HBA.out HB2.out)).mono ?_); rintro e u3 ⟨a3, c3, rfl, hv, hb⟩; have HB3 := Lib.hid (below_then HB2.out hb); have HS3 := Lib.hid (HRC.out u3 (below_then HBA.out HB3.out)); have HV3 := Lib.hid hv; clear hv; clear hb) | (go_at_call 147; (with_reducible refine (HLB.out _ (below_then HBA.out HB3.out)).mono ?_); rintro e u4 ⟨a4, c4, rfl, hv, hb⟩; have HB4 := Lib.hid (below_then HB3.out hb); have HS4 := Lib.hid (HRC.out u4 (below_then HBA.out HB4.out)); have HV4 := Lib.hid hv; have HV3b := Lib.hid (HV3.out.below hb); clear hv; clear hb) | (go_at_call 44; (with_reducible refine (HIS.out u4 a3 a4 c3 c4 n1 L1 HN1.out.1 HN1.out.2 HV3b.out HV4.out).mono ?_); rintro e u5 ⟨rfl, hb⟩; have HB5 := Lib.hid (below_then HB4.out hb); have HS5 := Lib.hid (HRC.out u5 (below_then HBA.out HB5.out)); clear hb) | (go_at_call 58; (with_reducible refine (HVA.out _ (below_then HBA.out HB5.out)).mono ?_); rintro e u6 ⟨a6, c6, rfl, hv, hb⟩; have HB6 := Lib.hid (below_then HB5.out hb); have HS6 := Lib.hid (HRC.out u6 (below_then HBA.out HB6.out)); have HV6 := Lib.hid hv; clear hv; clear hb) | (go_at_call 148; (with_reducible refine (HVB.out _ (below_then HBA.out HB6.out)).mono ?_); rintro e u7 ⟨a7, c7, rfl, hv, hb⟩; have HB7 := Lib.hid (below_then HB6.out hb); have HS7 := Lib.hid (HRC.out u7 (below_then HBA.out HB7.out)); have HV7 := Lib.hid hv; have HV6b := Lib.hid (HV6.out.below hb); clear hv; clear hb) | (go_at_call 44; (with_reducible refine (HIS.out u7 a6 a7 c6 c7 n2 L2 HN2.out.1 HN2.out.2 HV6b.out HV7.out).mono ?_); rintro e u8 ⟨rfl, hb⟩; have HB8 := Lib.hid (below_then HB7.out hb); have HS8 := Lib.hid (HRC.out u8 (below_then HBA.out HB8.out)); clear hb) | fail)
    all_goals
      go_wp2_with fail
      go_meet
      exact ⟨_, rfl, rfl, HB8⟩
  case rest =>
  obtain ⟨u0, rfl, rfl, HB8⟩ := hcut
  go_wp2_with fail
  have HBW8 := Lib.hid (below_then HBA.out HB8.out)
  go_loopw [9] (fun i wr => ∃ j : Nat, j ≤ m ∧ i = .int .i64 j ∧ Below W.heap.size W wr) (fun i _ => m - (intOf i).toNat)
  case atStart => exact ⟨0, Nat.zero_le _, rfl, HBW8.out⟩
  case round =>
    clear HB8
    obtain ⟨j, hj, rfl, hbr⟩ := hrel
    have HBR := Lib.hid hbr
    obtain ⟨wo, rfl⟩ : ∃ wo : World, wo = wr := ⟨_, rfl⟩
    obtain ⟨⟨x0, x1⟩, _, xl, _⟩ := HRC.out wo hbr
    have hm3 := HM.out.2.2
    by_cases hlt : j < m
    · have tj : decide ((j : Int) < (m : Int)) = true := decide_eq_true (by omega)
      obtain ⟨x, hx⟩ : ∃ x, VL[j]? = some x := ⟨_, List.getElem?_eq_getElem (by have := HM.out.1; omega)⟩
      have hxV : x.v ∈ VL.map Vr.v := List.mem_map.2 ⟨x, List.mem_of_getElem? hx, rfl⟩
      obtain ⟨lb, lcap, hsl, _, _, hat⟩ := (HVO.out.below hbr).at' (fun e => by rw [e] at hx; simp at hx)
      injection hsl with e1 e2 e3
      have hcap : m ≤ vc := by have := HVO.out.cap; have := HM.out.1; omega
      obtain ⟨k0, k1, k2⟩ := kVr_cells hat hx
      simp only [Nat.zero_add] at k0 k1 k2
      have hlb := hat.lt
      have hi1 : (j : Int) ≤ (j : Int) + 1 := by omega
      have hi2 : (j : Int) + 1 ≤ (vc : Int) := by omega
      have hw : IntKind.i64.wrap ((j : Int) + 1) = (j : Int) + 1 := IntWalk.i64_in _ (by omega)
      have hgv : getV (VL.map Vr.v) x.v.id = x.v := by unfold getV; rw [findB_mem HG.out.ok.sv hxV]; rfl
      have hfv : (findB Vt.id (VL.map Vr.v) x.v.id).isSome = true := by rw [findB_mem HG.out.ok.sv hxV]; rfl
      have hvx := gvertex_any gb vb eb (VL.map Vr.v) (EL.map Er.e) x.v.id wo (HG.out.below hbr) (checkR_ids (HG.out.ok.v x.v hxV) (by simp))
      unfold VxPost at hvx
      rw [hgv, hfv] at hvx
      unfold Vt.val at hvx
      obtain ⟨yn, hyn⟩ : ∃ n, n = x.v.ps.length := ⟨_, rfl⟩
      rw [← hyn] at hvx
      have HVX := Lib.hid hvx
      have HYN := Lib.hid hyn
      have HXI := Lib.hid hx
      have HXV := Lib.hid hxV
      have HCAP := Lib.hid hcap
      have HJ := Lib.hid hj
      have hsa : kVr.sfx va vc j = some ⟨lb, j * 3, none⟩ := by
        unfold RowK.sfx
        rw [if_neg (by omega), e1]
        simp [Addr.add, kVr]
        exact fun h => h.symm
      have hvj : ¬ vc = j := by omega
      have HSA := Lib.hid hsa
      clear hgv hfv hvx hyn hx hxV hcap hat hsa e2 e3
      subst e1
      go_upto_region 8 with fail
      go_upto_region 9 with (go_at_call 65; (with_reducible refine HVX.out.mono ?_); rintro e w1 ⟨ya2, yc2, rfl, hps, hb1⟩)
      obtain ⟨U, hU⟩ : ∃ U, U = w1.alloc (.cells #[.int .i64 x.v.id, .string x.v.label, .slice ya2 yn yc2] 28) := ⟨_, rfl⟩
      obtain ⟨xb, hxb⟩ : ∃ b, b = w1.heap.size := ⟨_, rfl⟩
      have hBU : Below w1.heap.size w1 U := by rw [hU]; exact below_box _ _
      have eX : U.heap[xb]? = some (.cells #[.int .i64 x.v.id, .string x.v.label, .slice ya2 yn yc2] 28 (0, 0)) := by rw [hU, hxb]; exact heap_new _ _
      have HUW : Hid (Below W.heap.size W U) := Lib.hid (below_then HBR.out (below_then hb1 hBU))
      have HPU : Hid (PsA U ya2 yc2 x.v.ps) := Lib.hid (hps.1.below hBU)
      have HEX := Lib.hid eX
      rw [← hU, ← hxb]
      clear hps hb1 hU hxb hBU eX x0 x1 xl k0 k1 k2 hlb hbr
      have HS9 : Hid (∀ u, Below U.heap.size U u → (u.cell? ⟨rb, 0, none⟩ = some (.slice (some ⟨lb, 0, none⟩) m vc)) ∧ (u.cell? ⟨xb, 0, none⟩ = some (.int .i64 x.v.id) ∧ u.cell? ⟨xb, 1, none⟩ = some (.string x.v.label) ∧ u.cell? ⟨xb, 2, none⟩ = some (.slice ya2 yn yc2)) ∧ rb < u.heap.size ∧ xb < u.heap.size) := Lib.hid (fun u hu => by
        have e := (hu.block _ (Array.getElem?_eq_some_iff.1 HEX.out).1).trans HEX.out
        obtain ⟨⟨q0, _⟩, _, q1, _⟩ := HRC.out u (below_then HUW.out hu)
        exact ⟨q0, ⟨by rw [cell_of_blk e]; rfl, by rw [cell_of_blk e]; rfl, by rw [cell_of_blk e]; rfl⟩, q1, (Array.getElem?_eq_some_iff.1 e).1⟩)
      have HT0 := Lib.hid (HS9.out U.drew (Below.refl _ _).drew)
      have HSV1 : Hid (∀ (u : World) (nb : Nat), Below U.heap.size U u → u.heap[nb]? = some (.cells #[.int .i64 x.v.id, .string x.v.label, .slice ya2 yn yc2] 28 (0, 0)) → Calls Tryz.prog 76 #[.slice (some ⟨nb, 0, none⟩) 1 1, .slice (some ⟨lb, j * 3, none⟩) 1 (vc - j)] u fun e w' => e = .returned (.bool true) ∧ Below u.heap.size u w') := Lib.hid (fun u nb hu hnb => by
        have hv1 : kVr.V u (some ⟨nb, 0, none⟩) [(⟨x.v, ya2, yc2⟩ : Vr)] := fun _ => ⟨nb, 0, rfl, RowK.new_at (k := kVr) hnb (by simp [RowK.cells, kVr, Vr.enc, HYN.out])⟩
        have hv2 : kVr.V u (some ⟨lb, j * 3, none⟩) [x] := by rw [← HSA.out]; exact RowK.V.oneA (k := kVr) (HVO.out.below (below_then HUW.out hu)).toV HXI.out (by have := HCAP.out; have := HM.out; omega)
        refine (sameV_any (some ⟨nb, 0, none⟩) (some ⟨lb, j * 3, none⟩) 1 (vc - j) [(⟨x.v, ya2, yc2⟩ : Vr)] [x] u hv1 hv2 (fun q hq => ?_) (fun q hq => ?_) (by simp) (by simp)).mono ?_
        · rw [List.mem_singleton.1 hq]
          exact ⟨HPU.out.below hu, (HPS.out u (below_then HUW.out hu) x (List.mem_of_getElem? HXI.out)).2⟩
        · rw [List.mem_singleton.1 hq]
          exact (HPS.out u (below_then HUW.out hu) x (List.mem_of_getElem? HXI.out)).1
        · rintro e w' ⟨rfl, n, rfl⟩
          exact ⟨rfl, below_drewN (Below.refl _ _) n⟩)
      have HSVa : Hid (Calls Tryz.prog 76 #[.slice (some ⟨U.heap.size, 0, none⟩) 1 1, .slice (some ⟨lb, j * 3, none⟩) 1 (vc - j)] ((U.alloc (.cells #[.int .i64 x.v.id, .string x.v.label, .slice ya2 yn yc2] 28)).drew) fun e w' => e = .returned (.bool true) ∧ Below U.heap.size U w') := Lib.hid (by
        refine (HSV1.out _ U.heap.size ((below_box _ _).drew) (by exact heap_new U (.cells #[.int .i64 x.v.id, .string x.v.label, .slice ya2 yn yc2] 28))).mono ?_
        rintro e w' ⟨rfl, hb⟩
        exact ⟨rfl, below_then ((below_box _ _).drew) hb⟩)
      have HSVb : Hid (Calls Tryz.prog 76 #[.slice (some ⟨U.heap.size, 0, none⟩) 1 1, .slice (some ⟨lb, j * 3, none⟩) 1 (vc - j)] (U.drew.alloc (.cells #[.int .i64 x.v.id, .string x.v.label, .slice ya2 yn yc2] 28)) fun e w' => e = .returned (.bool true) ∧ Below U.heap.size U w') := Lib.hid (by
        refine (HSV1.out _ U.heap.size (below_then ((Below.refl _ _).drew) (below_box _ _)) (by exact heap_new U.drew (.cells #[.int .i64 x.v.id, .string x.v.label, .slice ya2 yn yc2] 28))).mono ?_
        rintro e w' ⟨rfl, hb⟩
        exact ⟨rfl, below_then (below_then ((Below.refl _ _).drew) (below_box _ _)) hb⟩)
      obtain ⟨O1, hO1⟩ : ∃ l, l = idsE (EL.map Er.e) (outP x.v.id) := ⟨_, rfl⟩
      obtain ⟨I1, hI1⟩ : ∃ l, l = idsE (EL.map Er.e) (inP x.v.id) := ⟨_, rfl⟩
      obtain ⟨k1, hk1⟩ : ∃ n, n = O1.length := ⟨_, rfl⟩
      obtain ⟨k2, hk2⟩ : ∃ n, n = I1.length := ⟨_, rfl⟩
      have HO1 : Hid (k1 = O1.length ∧ k1 ≤ 4000000) := Lib.hid ⟨hk1, by
        have := List.length_filter_le (outP x.v.id) (EL.map Er.e)
        rw [List.length_map] at this
        rw [hk1, hO1]; unfold idsE; rw [List.length_map]; have := HL.out; omega⟩
      have HI1 : Hid (k2 = I1.length ∧ k2 ≤ 4000000) := Lib.hid ⟨hk2, by
        have := List.length_filter_le (inP x.v.id) (EL.map Er.e)
        rw [List.length_map] at this
        rw [hk2, hI1]; unfold idsE; rw [List.length_map]; have := HL.out; omega⟩
      have HOA : Hid (∀ u, Below U.heap.size U u → Calls Tryz.prog 19 #[.pointer (some ⟨gb, 0, none⟩), .int .i64 x.v.id] u fun e w' => ∃ a c, e = .returned (.slice a k1 c) ∧ kI.V w' a O1 ∧ Below u.heap.size u w') := Lib.hid (fun u hu => by
        refine (gout_any gb vb eb _ _ x.v.id u (HG.out.below (below_then HUW.out hu)) (by rw [List.length_map]; have := HL.out; omega)).mono ?_
        rintro e w' hp
        have := hp.ls
        unfold LsPost at this
        rw [← hO1, ← hk1] at this
        exact this)
      have HOB : Hid (∀ u, Below U.heap.size U u → Calls Tryz.prog 121 #[.pointer (some ⟨rb, 0, none⟩), .int .i64 x.v.id, .bool true] u fun e w' => ∃ a c, e = .returned (.slice a k1 c) ∧ kI.V w' a O1 ∧ Below u.heap.size u w') := Lib.hid (fun u hu => by
        obtain ⟨⟨_, k1⟩, _, _, _⟩ := HRC.out u (below_then HUW.out hu)
        rw [HM.out.2.1] at k1
        refine (r16ends_any k1 (by have := (HEO.out.below (below_then HUW.out hu)).toV; exact this) (by have := HL.out; omega) x.v.id true).mono ?_
        rintro e w' hp
        have := hp.ls
        unfold LsPost at this
        have e8 : sideP true x.v.id = outP x.v.id := rfl
        rw [e8, ← hO1, ← hk1] at this
        exact this)
      have HIA : Hid (∀ u, Below U.heap.size U u → Calls Tryz.prog 20 #[.pointer (some ⟨gb, 0, none⟩), .int .i64 x.v.id] u fun e w' => ∃ a c, e = .returned (.slice a k2 c) ∧ kI.V w' a I1 ∧ Below u.heap.size u w') := Lib.hid (fun u hu => by
        refine (gin_any gb vb eb _ _ x.v.id u (HG.out.below (below_then HUW.out hu)) (by rw [List.length_map]; have := HL.out; omega)).mono ?_
        rintro e w' hp
        have := hp.ls
        unfold LsPost at this
        rw [← hI1, ← hk2] at this
        exact this)
      have HIB : Hid (∀ u, Below U.heap.size U u → Calls Tryz.prog 121 #[.pointer (some ⟨rb, 0, none⟩), .int .i64 x.v.id, .bool false] u fun e w' => ∃ a c, e = .returned (.slice a k2 c) ∧ kI.V w' a I1 ∧ Below u.heap.size u w') := Lib.hid (fun u hu => by
        obtain ⟨⟨_, k1⟩, _, _, _⟩ := HRC.out u (below_then HUW.out hu)
        rw [HM.out.2.1] at k1
        refine (r16ends_any k1 (by have := (HEO.out.below (below_then HUW.out hu)).toV; exact this) (by have := HL.out; omega) x.v.id false).mono ?_
        rintro e w' hp
        have := hp.ls
        unfold LsPost at this
        have e8 : sideP false x.v.id = inP x.v.id := rfl
        rw [e8, ← hI1, ← hk2] at this
        exact this)
      clear hO1 hI1 hk1 hk2
      have HLT := Lib.hid hlt
      clear hlt
      go_region_held3 (fun u => (u.cell? ⟨rb, 0, none⟩ = some (.slice (some ⟨lb, 0, none⟩) m vc)) ∧ (u.cell? ⟨xb, 0, none⟩ = some (.int .i64 x.v.id) ∧ u.cell? ⟨xb, 1, none⟩ = some (.string x.v.label) ∧ u.cell? ⟨xb, 2, none⟩ = some (.slice ya2 yn yc2)) ∧ rb < u.heap.size ∧ xb < u.heap.size)
        (first | exact HT0.out | exact HS9.out _ (below_then ((Below.refl _ _).drew) (below_box _ _)) | exact HS9.out _ ((below_box _ _).drew) | exact HT1.out | exact HT2.out | exact HT3.out | exact HT4.out | exact HT5.out | exact HT6.out | exact HT7.out)
        (first | (go_at_call 76; (first | with_reducible refine HSVa.out.mono ?_ | with_reducible refine HSVb.out.mono ?_); rintro e v1 ⟨rfl, hb⟩; have HC1 : Hid (Below U.heap.size U v1) := Lib.hid hb; have HT1 := Lib.hid (HS9.out v1 HC1.out); clear hb) | (go_at_call 19; (with_reducible refine (HOA.out _ HC1.out).mono ?_); rintro e v2 ⟨a2, c2, rfl, hv, hb⟩; have HC2 := Lib.hid (below_then HC1.out hb); have HT2 := Lib.hid (HS9.out v2 HC2.out); have HW2 := Lib.hid hv; clear hv; clear hb) | (go_at_call 121; (with_reducible refine (HOB.out _ HC2.out).mono ?_); rintro e v3 ⟨a3, c3, rfl, hv, hb⟩; have HC3 := Lib.hid (below_then HC2.out hb); have HT3 := Lib.hid (HS9.out v3 HC3.out); have HW3 := Lib.hid hv; have HW2b := Lib.hid (HW2.out.below hb); clear hv; clear hb) | (go_at_call 44; (with_reducible refine (HIS.out v3 a2 a3 c2 c3 k1 O1 HO1.out.1 HO1.out.2 HW2b.out HW3.out).mono ?_); rintro e v4 ⟨rfl, hb⟩; have HC4 := Lib.hid (below_then HC3.out hb); have HT4 := Lib.hid (HS9.out v4 HC4.out); clear hb) | (go_at_call 20; (with_reducible refine (HIA.out _ HC4.out).mono ?_); rintro e v5 ⟨a5, c5, rfl, hv, hb⟩; have HC5 := Lib.hid (below_then HC4.out hb); have HT5 := Lib.hid (HS9.out v5 HC5.out); have HW5 := Lib.hid hv; clear hv; clear hb) | (go_at_call 121; (with_reducible refine (HIB.out _ HC5.out).mono ?_); rintro e v6 ⟨a6, c6, rfl, hv, hb⟩; have HC6 := Lib.hid (below_then HC5.out hb); have HT6 := Lib.hid (HS9.out v6 HC6.out); have HW6 := Lib.hid hv; have HW5b := Lib.hid (HW5.out.below hb); clear hv; clear hb) | (go_at_call 44; (with_reducible refine (HIS.out v6 a5 a6 c5 c6 k2 I1 HI1.out.1 HI1.out.2 HW5b.out HW6.out).mono ?_); rintro e v7 ⟨rfl, hb⟩; have HC7 := Lib.hid (below_then HC6.out hb); have HT7 := Lib.hid (HS9.out v7 HC7.out); clear hb) | fail)
      all_goals
        go_wp2_with fail
        have hjm := HLT.out
        exact ⟨⟨j + 1, by omega, by go_num, by exact below_then HUW.out HC7.out⟩, by simp [intOf]; omega⟩
    · have tj : decide ((j : Int) < (m : Int)) = false := decide_eq_false (by omega)
      go_wp2_with fail
      go_ret
      exact ⟨rfl, below_then HBW.out hbr⟩
end Go.Proofs.YtonilojjahfboaaGreat
namespace Go.Proofs.YtonilojjahfboaaGreat
open Go.RowKit Go.Maps

theorem RgL.chgB {w w' : World} {rb B : Nat} {VL : List Vr} {EL : List Er} {S : Nat → Prop} (h : RgL w rb B VL EL) (hc : Chg w w' S) (hS : ∀ j, S j → j < B ∧ j ≠ rb) : RgL w' rb B VL EL := by
  obtain ⟨⟨va, vc, ea, ec, h1, h2, h3⟩, h4, h5, h6⟩ := h
  refine ⟨⟨va, vc, ea, ec, (hc.block _ (Array.getElem?_eq_some_iff.1 h1).1 (fun hs => absurd rfl (hS _ hs).2)).trans h1, h2.chg hc (fun j hj hs => ?_), h3.chg hc (fun j hj hs => ?_)⟩, fun x hx => (h4 x hx).chg hc (fun j hj => (hS j hj).1), fun x hx => (h5 x hx).chg hc (fun j hj => (hS j hj).1), h6⟩
  · have := (h2.lt j hj).1
    have := (hS j hs).1
    omega
  · have := (h3.lt j hj).1
    have := (hS j hs).1
    omega
theorem Fr16.bel {W0 w w' : World} {vb eb rb B : Nat} {VL : List Vr} {EL : List Er} (h : Fr16 w w' vb eb rb) (hb : Below W0.heap.size W0 w) (hr : RgL w rb B VL EL) (hv : W0.heap.size ≤ vb) (he : W0.heap.size ≤ eb) (hz : W0.heap.size ≤ rb) : Below W0.heap.size W0 w' := by
  obtain ⟨u, hc, hn, hw⟩ := h
  have hu : Below W0.heap.size W0 u := hb.trans (hc.below hb.size (by
    rintro q (e | e | e)
    · rw [e]; exact hv
    · rw [e]; exact he
    · rw [e]; exact hz))
  rcases hw with rfl | ⟨p, v, rfl, hp⟩
  · exact hu
  · refine hu.setCell ?_ _
    obtain ⟨i, x, hx, ho⟩ := hp.row
    rcases hn i x hx with h0 | h0
    · obtain ⟨⟨va, vc, ea, ec, h1, h2, h3⟩, _, _, h6⟩ := hr
      rw [cell_of_blk h1] at h0
      match i with
      | 0 =>
        have e : x = .slice va VL.length vc := by simpa using h0.symm
        rw [e] at ho
        have := (h2.lt _ ho).1
        omega
      | 1 =>
        have e : x = .slice ea EL.length ec := by simpa using h0.symm
        rw [e] at ho
        have := (h3.lt _ ho).1
        omega
      | i + 2 => simp at h0
    · exact Nat.le_trans hb.size (h0 _ ho)
/-- a graph and the document's -/
structure ActI (W0 : World) (gb vb eb rb sb k : Nat) (VL : List Vr) (EL : List Er) (w : World) : Prop where
  g : GrC w gb vb eb (VL.map Vr.v) (EL.map Er.e)
  r : RgL w rb (sb + 1) VL EL
  bel : Below W0.heap.size W0 w
  lv : VL.length ≤ k
  le : EL.length ≤ k
  vb : W0.heap.size ≤ vb ∧ vb < rb
  eb : W0.heap.size ≤ eb ∧ eb < rb
  sb : rb < sb ∧ sb < w.heap.size
/-- what was cloned -/
structure CloI (t : Int) (k : Nat) (cp : Value) (vb eb rb sb : Nat) (VS : List Vr) (ES : List Er) (w : World) : Prop where
  s : RgL w sb (sb + 1) VS ES
  ap : RowsApart w rb sb
  c : (cp = .pointer none ∧ VS = [] ∧ ES = [] ∧ w.heap[sb]? = some (.cells #[.slice none 0 0, .slice none 0 0] 39 (0, 0))) ∨ ∃ cg cv ce, cp = .pointer (some ⟨cg, 0, none⟩) ∧ GrC w cg cv ce (VS.map Vr.v) (ES.map Er.e) ∧ (cv ≠ vb ∧ cv ≠ eb ∧ ce ≠ vb ∧ ce ≠ eb) ∧ VS.length ≤ 60 ∧ ES.length ≤ 60
  early : (k : Int) ≤ t → cp = .pointer none
section
variable {W0 w w' : World} {gb vb eb rb sb k : Nat} {VL VS : List Vr} {EL ES : List Er} {t : Int} {cp : Value}
theorem ActI.below (h : ActI W0 gb vb eb rb sb k VL EL w) (hb : Below w.heap.size w w') : ActI W0 gb vb eb rb sb k VL EL w' :=
  ⟨h.g.below hb, h.r.below hb, below_then h.bel hb, h.lv, h.le, h.vb, h.eb, h.sb.1, Nat.lt_of_lt_of_le h.sb.2 hb.size⟩
theorem RowsApart.below (h : RowsApart w rb sb) (h1 : rb < w.heap.size) (h2 : sb < w.heap.size) (hb : Below w.heap.size w w') : RowsApart w' rb sb := fun i i' v v' j hv hv' hj => by
  rw [hb.cell (p := ⟨rb, i, none⟩) h1] at hv
  rw [hb.cell (p := ⟨sb, i', none⟩) h2] at hv'
  exact h i i' v v' j hv hv' hj
theorem CloI.below (h : CloI t k cp vb eb rb sb VS ES w) (h1 : rb < w.heap.size) (hb : Below w.heap.size w w') : CloI t k cp vb eb rb sb VS ES w' := by
  refine ⟨h.s.below hb, h.ap.below h1 h.s.size hb, ?_, h.early⟩
  rcases h.c with ⟨h2, h3, h4, h5⟩ | ⟨cg, cv, ce, e1, e2, e3⟩
  · exact .inl ⟨h2, h3, h4, (hb.block _ h.s.size).trans h5⟩
  · exact .inr ⟨cg, cv, ce, e1, e2.below hb, e3⟩
theorem ActI.act {VL2 : List Vr} {EL2 : List Er} {x : Ac} (h : ActI W0 gb vb eb rb sb k VL EL w) (hg : GrC w' gb vb eb (VL2.map Vr.v) (EL2.map Er.e)) (hr : RgL w' rb (sb + 1) VL2 EL2) (hs : (VL2.map Vr.v, EL2.map Er.e) = stepG (VL.map Vr.v) (EL.map Er.e) x) (hf : Fr16 w w' vb eb rb) (hz : w.heap.size ≤ w'.heap.size) : ActI W0 gb vb eb rb sb (k + 1) VL2 EL2 w' := by
  obtain ⟨l1, l2⟩ := stepG_len (VL.map Vr.v) (EL.map Er.e) x
  rw [← hs] at l1 l2
  simp only [List.length_map] at l1 l2
  have := h.lv
  have := h.le
  have := h.vb
  exact ⟨hg, hr, hf.bel h.bel h.r h.vb.1 h.eb.1 (by omega), by omega, by omega, h.vb, h.eb, h.sb.1, Nat.lt_of_lt_of_le h.sb.2 hz⟩
theorem Fr16.size (h : Fr16 w w' vb eb rb) : w.heap.size ≤ w'.heap.size := by
  obtain ⟨u, hc, _, hw⟩ := h
  rcases hw with rfl | ⟨p, v, rfl, _⟩
  · exact hc.size
  · exact Nat.le_trans hc.size (chg_setAt u p v).size
theorem CloI.late (h : CloI t k cp vb eb rb sb VS ES w) : CloI t (k + 1) cp vb eb rb sb VS ES w := ⟨h.s, h.ap, h.c, fun hk => h.early (by omega)⟩
theorem CloI.act {VL2 : List Vr} {EL2 : List Er} {q : Nat} (h : CloI t q cp vb eb rb sb VS ES w) (hA : ActI W0 gb vb eb rb sb k VL EL w) (hr : RgL w' rb (sb + 1) VL2 EL2) (hf : Fr16 w w' vb eb rb) : CloI t q cp vb eb rb sb VS ES w' := by
  have hR : ∃ cs z, w'.heap[rb]? = some (.cells cs 39 z) := by
    obtain ⟨⟨va, vc, ea, ec, h1, _⟩, _⟩ := hr
    exact ⟨_, _, h1⟩
  obtain ⟨h1, h2⟩ := h.s.fr16 hA.g hA.r (by have := hA.sb.1; omega) h.ap hf hR
  refine ⟨h1, h2, ?_, h.early⟩
  rcases h.c with ⟨h3, h4, h5, h6⟩ | ⟨cg, cv, ce, e1, e2, e3, e4⟩
  · refine .inl ⟨h3, h4, h5, ?_⟩
    obtain ⟨u, hc, _, hw⟩ := hf
    have hu : u.heap[sb]? = some (.cells #[.slice none 0 0, .slice none 0 0] 39 (0, 0)) := (hc.block _ (Array.getElem?_eq_some_iff.1 h6).1 (by
      have := hA.sb.1
      have := hA.vb.2
      have := hA.eb.2
      omega)).trans h6
    rcases hw with rfl | ⟨p, v, rfl, hp⟩
    · exact hu
    · exact ((chg_setAt u p v).block _ (Array.getElem?_eq_some_iff.1 hu).1 (hp.ne hu (by decide) (by decide))).trans hu
  · exact .inr ⟨cg, cv, ce, e1, e2.fr16 hA.g hA.r hf e3, e3, e4⟩
/-- a list of rows laid behind none -/
theorem was_app {α : Type} {q : RowK Tryz.prog α} {w1 u w8 : World} {L : List α} {v8 : Value} {B : Nat} (hu : Below w1.heap.size w1 u) (h : q.App u B (.slice none 0 0) ([] ++ L) v8 w8) : (∃ a c, v8 = .slice a L.length c ∧ q.Own w8 B (.slice a L.length c) L) ∧ Below w1.heap.size w1 w8 := by
  obtain ⟨h1, h2, _⟩ := h
  rw [List.nil_append] at h1
  obtain ⟨a, c, rfl⟩ := h1.shape
  exact ⟨⟨a, c, rfl, h1⟩, hu.trans ⟨h2.os, h2.tape, h2.output, h2.size, fun k hk => h2.block k (Nat.lt_of_lt_of_le hk hu.size) (fun e => by cases e)⟩⟩
/-- what was, half and whole -/
def Was1 (w1 u : World) (sb : Nat) (VL : List Vr) : Prop := (∃ a c, u.heap[sb]? = some (.cells #[.slice a VL.length c, .slice none 0 0] 39 (0, 0)) ∧ kVr.Own u w1.heap.size (.slice a VL.length c) VL) ∧ Chg w1 u (fun i => i = sb)
def Was2 (w1 u : World) (sb : Nat) (VL : List Vr) (EL : List Er) : Prop := (∃ a c b d, u.heap[sb]? = some (.cells #[.slice a VL.length c, .slice b EL.length d] 39 (0, 0)) ∧ kVr.Own u w1.heap.size (.slice a VL.length c) VL ∧ kEr.Own u w1.heap.size (.slice b EL.length d) EL) ∧ Chg w1 u (fun i => i = sb)
theorem chgOf_below {w u : World} {S : Nat → Prop} (h : Below w.heap.size w u) : Chg w u S := Chg.of_below h S
theorem was1_of {w1 u w8 : World} {v8 : Value} (hs : w1.heap[sb]? = some (.cells #[.slice none 0 0, .slice none 0 0] 39 (0, 0))) (hu : Below w1.heap.size w1 u) (h : kVr.App u w1.heap.size (.slice none 0 0) ([] ++ VL) v8 w8) : Was1 w1 (w8.setCell ⟨sb, 0, none⟩ v8) sb VL := by
  obtain ⟨⟨a, c, rfl, ho⟩, hb⟩ := was_app hu h
  have hz := (Array.getElem?_eq_some_iff.1 hs).1
  have e := (hb.block _ hz).trans hs
  have hcs := chg_setAt w8 ⟨sb, 0, none⟩ (.slice a VL.length c)
  refine ⟨⟨a, c, by simp [World.setCell, Array.getElem?_modify, e], ho.chg hcs (fun j hj e2 => ?_)⟩, (chgOf_below hb).trans hcs (fun _ _ h => h)⟩
  have := (ho.lt j hj).1
  have e3 : j = sb := e2
  omega
theorem was2_of {w1 u0 u w8 : World} {v8 : Value} (hz : sb < w1.heap.size) (h1 : Was1 w1 u0 sb VL) (hu : Below u0.heap.size u0 u) (h : kEr.App u w1.heap.size (.slice none 0 0) ([] ++ EL) v8 w8) : Was2 w1 (w8.setCell ⟨sb, 1, none⟩ v8) sb VL EL := by
  obtain ⟨⟨b, d, rfl, ho⟩, hb⟩ := was_app hu h
  obtain ⟨⟨a, c, h2, h3⟩, h4⟩ := h1
  have e := (hb.block _ (Array.getElem?_eq_some_iff.1 h2).1).trans h2
  have hcs := chg_setAt w8 ⟨sb, 1, none⟩ (.slice b EL.length d)
  refine ⟨⟨a, c, b, d, by simp [World.setCell, Array.getElem?_modify, e], (h3.below hb).chg hcs (fun j hj e2 => ?_), ho.chg hcs (fun j hj e2 => ?_)⟩, (h4.trans (chgOf_below hb) (fun _ _ h => h)).trans hcs (fun _ _ h => h)⟩
  · have := (h3.lt j hj).1
    have e3 : j = sb := e2
    omega
  · have := (ho.lt j hj).1
    have e3 : j = sb := e2
    omega
theorem was_end {w1 u : World} {cg cv ce : Nat} (hA : ActI W0 gb vb eb rb sb k VL EL w) (hC : CloI t k (.pointer none) vb eb rb sb VS ES w) (hk : k ≤ 60) (ht : (k : Int) = t) (hb : Below w.heap.size w w1) (hg : GrC w1 cg cv ce (VL.map Vr.v) (EL.map Er.e)) (h1 : w.heap.size ≤ cv) (h2 : w.heap.size ≤ ce) (hw : Was2 w1 u sb VL EL) : ActI W0 gb vb eb rb sb k VL EL u ∧ (∃ VS ES, RgL u sb (sb + 1) VS ES ∧ RowsApart u rb sb ∧ GrC u cg cv ce (VS.map Vr.v) (ES.map Er.e) ∧ (cv ≠ vb ∧ cv ≠ eb ∧ ce ≠ vb ∧ ce ≠ eb) ∧ VS.length ≤ 60 ∧ ES.length ≤ 60) := by
  have hA1 := hA.below hb
  have hC1 := hC.below hA.r.size hb
  obtain ⟨⟨a, c, b, d, hs, hv, he⟩, hc⟩ := hw
  have hnt : ∀ j, j = sb → ∀ o s, w1.cell? ⟨j, o, none⟩ ≠ Option.some (Value.string s) := rg_noText2 hC1.s
  have ht1 := rg_type hC1.s hA1.g
  have ht2 := rg_type hC1.s hg
  have hr2 : RgL u rb (sb + 1) VL EL := hA1.r.chgB hc (fun j e => by have e3 : j = sb := e; have := hA.sb.1; omega)
  have hsz := hA1.sb.2
  refine ⟨⟨hA1.g.noText hc ht1 hnt, hr2, hA1.bel.trans (hc.below hA1.bel.size (fun q e => by have e3 : q = sb := e; have := hA.sb.1; have := hA.vb; omega)), hA.lv, hA.le, hA.vb, hA.eb, hA.sb.1, Nat.lt_of_lt_of_le hsz hc.size⟩, VL, EL, ⟨⟨a, c, b, d, hs, hv.mono (by omega), he.mono (by omega)⟩, hr2.pv, hr2.pe, Nat.lt_succ_self _⟩, ?_, hg.noText hc ht2 hnt, ?_, by have := hA.lv; omega, by have := hA.le; omega⟩
  · intro i i' v v' j hv1 hv2 hj hj'
    have hrz := hA1.r.size
    have hne := hA.sb.1
    have e1 := hc.block rb hrz (by omega)
    obtain ⟨⟨va, vc, ea, ec, k1, k2, k3⟩, _, _, _⟩ := hA1.r
    rw [cell_of_blk (e1.trans k1)] at hv1
    rw [cell_of_blk hs] at hv2
    have hlt : j < w1.heap.size := by
      match i with
      | 0 =>
        have e : v = .slice va VL.length vc := by simpa using hv1.symm
        rw [e] at hj
        exact (k2.lt _ hj).2
      | 1 =>
        have e : v = .slice ea EL.length ec := by simpa using hv1.symm
        rw [e] at hj
        exact (k3.lt _ hj).2
      | i + 2 => simp at hv1
    have hge : w1.heap.size ≤ j := by
      match i' with
      | 0 =>
        have e : v' = .slice a VL.length c := by simpa using hv2.symm
        rw [e] at hj'
        exact (hv.lt _ hj').1
      | 1 =>
        have e : v' = .slice b EL.length d := by simpa using hv2.symm
        rw [e] at hj'
        exact (he.lt _ hj').1
      | i' + 2 => simp at hv2
    omega
  · have := hA.vb
    have := hA.eb
    have := hA.sb
    omega
end
end Go.Proofs.YtonilojjahfboaaGreat
