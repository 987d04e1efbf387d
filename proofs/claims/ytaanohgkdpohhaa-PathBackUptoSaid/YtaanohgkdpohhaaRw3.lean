/- Reference 19: Way, the walk. Conditions: the contract's own premises. -/
import Derived.Test.YtaanohgkdpohhaaRw2
import Derived.Test.YtaanohgkdpohhaaRg3
import Derived.StillTailTactics
import Derived.Deep.RegionLaw
import Derived.BigRegion
import Derived.BigQuiet
import Derived.Deep.Cut
namespace Go.Proofs.Ytaanohgkdpohhaa
open Go.RowKit Go.Maps

def WayPost (w : World) (E : List Eg) (lab : ByteArray) (fr t : Int) (n : Nat) (e : Ending) (w' : World) : Prop :=
  ∃ a c l, e = .returned (.tuple #[.slice a l.length c, .bool (decide (0 < l.length))]) ∧ kI.Own w' 0 (.slice a l.length c) l ∧ Below w.heap.size w w' ∧ RowOk (edB E lab) n fr t l
theorem elem_new {u : World} (x : Ws) {b : Nat} (hb : u.heap[b]? = some (.cells #[.slice x.a x.l.length x.c] 22 (0, 0))) : kW2.V u (some ⟨b, 0, none⟩) [x] := fun _ => ⟨_, 0, rfl, RowK.new_at (k := kW2) hb (by simp [RowK.cells, kW2])⟩
set_option maxRecDepth 100000 in
set_option maxHeartbeats 8000000 in
theorem r19way_any {w : World} {rb B : Nat} {VL : List Vr} {EL : List Er} (h : RgL w rb B VL EL) (ok : PGo (VL.map Vr.v) (EL.map Er.e)) (hvl : VL.length ≤ 1000) (hel : EL.length ≤ 1000) (fr t : Int) (lab : ByteArray) (most : Int) (hm : most ≤ 64) (ht : HasV (VL.map Vr.v) t) :
    Calls Try.prog 58 #[.pointer (some ⟨rb, 0, none⟩), .int .i64 fr, .int .i64 t, .string lab, .int .i64 most] w (WayPost w (EL.map Er.e) lab fr t most.toNat) := by
  obtain ⟨m, hmm⟩ : ∃ m, m = VL.length := ⟨_, rfl⟩
  have HR : Hid (∃ xa xc, ∀ u, Below w.heap.size w u → u.cell? ⟨rb, 0, none⟩ = some (.slice xa m xc) ∧ rb < u.heap.size ∧ kVr.Own u B (.slice xa m xc) VL) := Lib.hid (by
    obtain ⟨⟨va, vc, ea, ec, h1, h2, h3⟩, _, _, _⟩ := h
    refine ⟨va, vc, fun u hu => ?_⟩
    have e9 := (hu.block _ (Array.getElem?_eq_some_iff.1 h1).1).trans h1
    rw [hmm]
    exact ⟨by rw [cell_of_blk e9]; rfl, (Array.getElem?_eq_some_iff.1 e9).1, h2.below hu⟩)
  have HM : Hid (m = VL.length ∧ m ≤ 1000) := Lib.hid ⟨hmm, by omega⟩
  have HRG := Lib.hid h
  have HOK := Lib.hid ok
  have HEL := Lib.hid hel
  have HMO := Lib.hid hm
  have HTT := Lib.hid ht
  clear h ok hvl hel hm ht hmm
  obtain ⟨xa, xc, hrc⟩ := HR.out
  have HRC := Lib.hid hrc
  clear hrc HR
  obtain ⟨c0, z0, _⟩ := HRC.out w (Below.refl _ _)
  go_enter Try.func58, Try.ntmps58
  go_wp2_with fail
  clear c0 z0
  go_loopw [12, 13] (fun bv iv wr => ∃ (j : Nat) (R : List Ws), iv = .int .i64 (j : Int) ∧ j ≤ m ∧ R.length = j ∧ Hid (Below w.heap.size w wr) ∧ Hid (RowsI wr w.heap.size bv R) ∧ Hid (∀ (q : Nat) (x : Vr) (y : Ws), VL[q]? = some x → R[q]? = some y → y.l = if x.v.id = fr then [fr] else [])) (fun _ iv _ => m - (intOf iv).toNat)
  case atStart => exact ⟨0, [], rfl, Nat.zero_le _, rfl, Lib.hid (Below.refl _ _), Lib.hid (RowsI.nil _ _), Lib.hid (fun q x y _ hy => by simp at hy)⟩
  case round =>
    obtain ⟨j, R, rfl, hj, hRl, HB, HRI, HV⟩ := hrel
    have HRL := Lib.hid hRl
    clear hRl
    obtain ⟨ba, bc, rfl⟩ := HRI.out.o.shape
    rw [HRL.out] at HRI ⊢
    have hm1 := HM.out.2
    obtain ⟨c0, z0, ho⟩ := HRC.out wr HB.out
    by_cases hlt : j < m
    · obtain ⟨x, hx⟩ : ∃ x, VL[j]? = some x := ⟨_, List.getElem?_eq_getElem (by have := HM.out.1; omega)⟩
      obtain ⟨vb, vcap, hsl, _, _, hat⟩ := ho.at' (fun e => by rw [e] at hx; simp at hx)
      injection hsl with e1 e2 e3
      subst e1
      have x0 := hat.cells j x hx 0 _ rfl
      simp [kVr] at x0
      have hvb := hat.lt
      have HX := Lib.hid hx
      clear hx hat ho e2 e3
      by_cases he : x.v.id = fr
      · have t1 : (x.v.id == fr) = true := by simpa using he
        obtain ⟨W1, hW1⟩ : ∃ W1, W1 = (wr.alloc (.cells #[.int .i64 fr] 3)).alloc (.cells #[.slice (some ⟨wr.heap.size, 0, none⟩) 1 1] 22) := ⟨_, rfl⟩
        have hb1 : Below wr.heap.size wr W1 := by rw [hW1]; exact (below_box wr _).alloc (by simp) _
        have HO1 : Hid (kI.Own W1 0 (.slice (some ⟨wr.heap.size, 0, none⟩) 1 1) [fr]) := Lib.hid (by rw [hW1]; exact (RowK.Own.new (k := kI) (l := [fr]) (heap_new wr (.cells #[.int .i64 fr] 3)) (Nat.zero_le _) rfl (by show 1 ≤ maxLen; decide)).alloc _)
        have HXV : Hid (kW2.V W1 (some ⟨wr.heap.size + 1, 0, none⟩) [⟨some ⟨wr.heap.size, 0, none⟩, 1, [fr]⟩]) := Lib.hid (elem_new ⟨some ⟨wr.heap.size, 0, none⟩, 1, [fr]⟩ (by rw [hW1]; exact heap_new2 wr _ _))
        have HRW := Lib.hid (HRI.out.below hb1)
        have HB1 : Hid (Below w.heap.size w W1) := Lib.hid (below_then HB.out hb1)
        have HW1 := Lib.hid hW1.symm
        clear hW1 hb1
        go_wp2_with (first | (at_builtin; rw [HW1.out]; refine RowK.wpList_app (k := kW2) (B := w.heap.size) (v := .slice ba j bc) (l := R) rfl (.tmp 43) (.tmp 45) rfl rfl HRW.out.o (some ⟨wr.heap.size + 1, 0, none⟩) 1 [⟨some ⟨wr.heap.size, 0, none⟩, 1, [fr]⟩] 1 rfl rfl HXV.out (fun e => by cases e) (by have := HRL.out; simp; omega) HB1.out.size ?_; intro v8 w8 hA; have HA8 := Lib.hid hA; clear hA) | fail)
        refine ⟨⟨j + 1, R ++ [⟨some ⟨wr.heap.size, 0, none⟩, 1, [fr]⟩], by simp, hlt, by simp [HRL.out], Lib.hid (HB1.out.trans (below_grownR HRW.out.o HA8.out.2.1 HB1.out.size)), Lib.hid (HRW.out.app HO1.out HA8.out), Lib.hid (fun q y z hy hz => ?_)⟩, by simp [intOf]; omega⟩
        by_cases e : q < j
        · rw [List.getElem?_append_left (by have := HRL.out; omega)] at hz
          exact HV.out q y z hy hz
        · rw [List.getElem?_append_right (by have := HRL.out; omega)] at hz
          have e2 : q - R.length = 0 := by
            have := (List.getElem?_eq_some_iff.1 hz).1
            simp at this
            omega
          rw [e2] at hz
          obtain rfl : q = j := by have := HRL.out; omega
          rw [HX.out] at hy
          injection hy with hy
          subst hy
          simp at hz
          subst hz
          rw [if_pos he]
      · have t1 : (x.v.id == fr) = false := by simpa using he
        obtain ⟨W1, hW1⟩ : ∃ W1, W1 = wr.alloc (.cells #[.slice none 0 0] 22) := ⟨_, rfl⟩
        have hb1 : Below wr.heap.size wr W1 := by rw [hW1]; exact below_box wr _
        have HXV : Hid (kW2.V W1 (some ⟨wr.heap.size, 0, none⟩) [⟨none, 0, []⟩]) := Lib.hid (elem_new ⟨none, 0, []⟩ (by rw [hW1]; exact heap_new wr _))
        have HRW := Lib.hid (HRI.out.below hb1)
        have HB1 : Hid (Below w.heap.size w W1) := Lib.hid (below_then HB.out hb1)
        have HW1 := Lib.hid hW1.symm
        clear hW1 hb1
        go_wp2_with (first | (at_builtin; rw [HW1.out]; refine RowK.wpList_app (k := kW2) (B := w.heap.size) (v := .slice ba j bc) (l := R) rfl (.tmp 43) (.tmp 45) rfl rfl HRW.out.o (some ⟨wr.heap.size, 0, none⟩) 1 [⟨none, 0, []⟩] 1 rfl rfl HXV.out (fun e => by cases e) (by have := HRL.out; simp; omega) HB1.out.size ?_; intro v8 w8 hA; have HA8 := Lib.hid hA; clear hA) | fail)
        refine ⟨⟨j + 1, R ++ [⟨none, 0, []⟩], by simp, hlt, by simp [HRL.out], Lib.hid (HB1.out.trans (below_grownR HRW.out.o HA8.out.2.1 HB1.out.size)), Lib.hid (HRW.out.app (RowK.Own.nil kI _ _) HA8.out), Lib.hid (fun q y z hy hz => ?_)⟩, by simp [intOf]; omega⟩
        by_cases e : q < j
        · rw [List.getElem?_append_left (by have := HRL.out; omega)] at hz
          exact HV.out q y z hy hz
        · rw [List.getElem?_append_right (by have := HRL.out; omega)] at hz
          have e2 : q - R.length = 0 := by
            have := (List.getElem?_eq_some_iff.1 hz).1
            simp at this
            omega
          rw [e2] at hz
          obtain rfl : q = j := by have := HRL.out; omega
          rw [HX.out] at hy
          injection hy with hy
          subst hy
          simp at hz
          subst hz
          rw [if_neg he]
    · have tj : decide ((m : Int) < (m : Int)) = false := by simp
      have hjm : j = m := by omega
      rw [hjm]
      have HRM : Hid (R.length = m) := Lib.hid (by rw [HRL.out, hjm])
      have HRI2 : Hid (RowsI wr w.heap.size (.slice ba m bc) R) := Lib.hid (by have := HRI.out; rw [hjm] at this; exact this)
      have HV2 : Hid (∀ (q : Nat) (x : Vr) (y : Ws), VL[q]? = some x → R[q]? = some y → RowOk (edB (EL.map Er.e) lab) 0 fr x.v.id y.l) := Lib.hid (fun q x y hx hy => by rw [HV.out q x y hx hy]; exact RowOk.zero _ _ _)
      clear HRI HV HRL ho
      go_wp2_with fail
      clear tj hjm hj hlt c0 z0
      obtain ⟨wo, rfl⟩ : ∃ wo : World, wo = wr := ⟨_, rfl⟩
      go_loopw [12, 15] (fun bv nv wr => ∃ (q : Nat) (R : List Ws), nv = .int .i64 ((q : Int) + 1) ∧ q ≤ most.toNat ∧ Hid (R.length = m) ∧ Hid (Below w.heap.size w wr) ∧ Hid (RowsI wr w.heap.size bv R) ∧ Hid (∀ (i : Nat) (x : Vr) (y : Ws), VL[i]? = some x → R[i]? = some y → RowOk (edB (EL.map Er.e) lab) q fr x.v.id y.l)) (fun _ nv _ => 70 - (intOf nv).toNat)
      case atStart => exact ⟨0, R, rfl, Nat.zero_le _, HRM, HB, HRI2, HV2⟩
      case round =>
        obtain ⟨q, R, rfl, hq, HRM, HB, HRI, HV⟩ := hrel
        have hmo := HMO.out
        have hm1 := HM.out.2
        obtain ⟨ba, bc, rfl⟩ := HRI.out.o.shape
        rw [HRM.out] at HRI ⊢
        by_cases hqm : (q : Int) + 1 ≤ most
        · have tq : decide ((q : Int) + 1 ≤ most) = true := decide_eq_true hqm
          obtain ⟨c0, z0, _⟩ := HRC.out wr HB.out
          have HQ : Hid (q + 1 ≤ most.toNat) := Lib.hid (by omega)
          have hq64 : q ≤ 64 := by omega
          have HBN : Hid (∀ p, (Value.slice ba m bc).ownBlock = some p → p < wr.heap.size) := Lib.hid (fun p hp => (HRI.out.o.lt p hp).2)
          obtain ⟨Bn, hBn⟩ : ∃ Bn, Bn = wr.heap.size := ⟨_, rfl⟩
          rw [← hBn] at HBN
          have HBW : Hid (w.heap.size ≤ Bn ∧ Bn ≤ wr.heap.size) := Lib.hid ⟨by rw [hBn]; exact HB.out.size, Nat.le_of_eq hBn⟩
          clear hBn hq
          go_wp2_with fail
          clear c0 z0 tq
          obtain ⟨wo2, rfl⟩ : ∃ wo2 : World, wo2 = wr := ⟨_, rfl⟩
          go_loopw [16, 17] (fun xv iv wr => ∃ (j : Nat) (N : List Ws), iv = .int .i64 (j : Int) ∧ j ≤ m ∧ Hid (N.length = j) ∧ Hid (Below w.heap.size w wr) ∧ Hid (Bn ≤ wr.heap.size) ∧ Hid (RowsI wr w.heap.size (.slice ba m bc) R) ∧ Hid (RowsI wr Bn xv N) ∧ Hid (∀ (i : Nat) (x : Vr) (y : Ws), VL[i]? = some x → N[i]? = some y → RowOk (edB (EL.map Er.e) lab) (q + 1) fr x.v.id y.l)) (fun _ iv _ => m - (intOf iv).toNat)
          case atStart => exact ⟨0, [], rfl, Nat.zero_le _, Lib.hid rfl, HB, Lib.hid HBW.out.2, HRI, Lib.hid (RowsI.nil _ _), Lib.hid (fun i x y _ hy => by simp at hy)⟩
          case round =>
            obtain ⟨j, N, rfl, hj, HNL, HB, HBZ, HRI, HNI, HNV⟩ := hrel
            obtain ⟨na, nc, rfl⟩ := HNI.out.o.shape
            rw [HNL.out] at HNI ⊢
            obtain ⟨c0, z0, ho⟩ := HRC.out wr HB.out
            by_cases hlt : j < m
            · obtain ⟨x, hx⟩ : ∃ x, VL[j]? = some x := ⟨_, List.getElem?_eq_getElem (by have := HM.out.1; omega)⟩
              obtain ⟨yi, hyi⟩ : ∃ y, R[j]? = some y := ⟨_, List.getElem?_eq_getElem (by have := HRM.out; omega)⟩
              obtain ⟨bb, bcap, hsl, _, _, hat⟩ := HRI.out.o.at' (fun e => by rw [e] at hyi; simp at hyi)
              injection hsl with e1 e2 e3
              subst e1
              have x0 := hat.cells j yi hyi 0 _ rfl
              simp [kW2] at x0
              have hbb := hat.lt
              have HX := Lib.hid hx
              have HYI := Lib.hid hyi
              have HEI : Hid (kI.Own wr 0 (.slice yi.a yi.l.length yi.c) yi.l) := Lib.hid (HRI.out.e yi (List.mem_of_getElem? hyi))
              have HBI : Hid (RowOk (edB (EL.map Er.e) lab) q fr x.v.id yi.l) := Lib.hid (HV.out j x yi hx hyi)
              have HRT : Hid (∀ u, Below wr.heap.size wr u → kW2.At u bb 0 R) := Lib.hid (fun u hu => hat.below hu)
              obtain ⟨vb, vcap, hvs, _, _, vat⟩ := ho.at' (fun e => by rw [e] at hx; simp at hx)
              injection hvs with e4 e5 e6
              subst e4
              have HVT : Hid (∀ u, Below wr.heap.size wr u → kVr.At u vb 0 VL) := Lib.hid (fun u hu => vat.below hu)
              clear hx hyi hat vat ho e2 e3 e5 e6
              go_wp2_with fail
              clear x0 hbb c0 z0
              obtain ⟨wi, hwi⟩ : ∃ wi : World, wi = wr := ⟨_, rfl⟩
              have HB0 : Hid (Below wi.heap.size wi wr) := Lib.hid (by rw [hwi]; exact Below.refl _ _)
              rw [← hwi] at HB HBZ HRI HNI HRT HVT
              clear hwi
              go_loopw [18, 19] (fun vv kv wk => ∃ (k : Nat) (r : List Int), kv = .int .i64 (k : Int) ∧ k ≤ m ∧ Hid (Below wi.heap.size wi wk) ∧ Hid (kI.Own wk 0 vv r) ∧ Hid (BstK (edB (EL.map Er.e) lab) q fr x.v.id (VL.map Vr.v) k yi.l r)) (fun _ kv _ => m - (intOf kv).toNat)
              case atStart => exact ⟨0, yi.l, rfl, Nat.zero_le _, HB0, HEI, Lib.hid BstK.start⟩
              case round =>
                obtain ⟨k, r, rfl, hk, HBK, HOR, HBS⟩ := hrel
                obtain ⟨ra, rc, rfl⟩ := HOR.out.shape
                have HBW2 : Hid (Below w.heap.size w wr) := Lib.hid (below_then HB.out HBK.out)
                obtain ⟨c0, z0, _⟩ := HRC.out wr HBW2.out
                have hm1 := HM.out.2
                by_cases hltk : k < m
                · obtain ⟨y, hy⟩ : ∃ y, VL[k]? = some y := ⟨_, List.getElem?_eq_getElem (by have := HM.out.1; omega)⟩
                  obtain ⟨yk, hyk⟩ : ∃ y, R[k]? = some y := ⟨_, List.getElem?_eq_getElem (by have := HRM.out; omega)⟩
                  have hrt := HRT.out wr HBK.out
                  have hvt := HVT.out wr HBK.out
                  have x0 := hrt.cells j yi HYI.out 0 _ rfl
                  have x1 := hrt.cells k yk hyk 0 _ rfl
                  have v0 := hvt.cells j x HX.out 0 _ rfl
                  have v1 := hvt.cells k y hy 0 _ rfl
                  simp [kW2] at x0 x1
                  simp [kVr] at v0 v1
                  have zb := hrt.lt
                  have zv := hvt.lt
                  have HYK : Hid (RowOk (edB (EL.map Er.e) lab) q fr y.v.id yk.l) := Lib.hid (HV.out k y yk hy hyk)
                  have HEK : Hid (kI.Own wr 0 (.slice yk.a yk.l.length yk.c) yk.l) := Lib.hid ((HRI.out.e yk (List.mem_of_getElem? hyk)).below HBK.out)
                  have HY := Lib.hid hy
                  have HYR := Lib.hid hyk
                  clear hy hyk hrt hvt
                  have hno : (yi.l ≠ [] ∨ ∀ z, (VL.map Vr.v)[k]? = some z → ¬ (edB (EL.map Er.e) lab z.id x.v.id ∧ Dist (edB (EL.map Er.e) lab) q fr z.id)) → Hid (BstK (edB (EL.map Er.e) lab) q fr x.v.id (VL.map Vr.v) (k + 1) yi.l r) := fun h => Lib.hid (HBS.out.skip h)
                  have hnk : ¬ (edB (EL.map Er.e) lab y.v.id x.v.id ∧ Dist (edB (EL.map Er.e) lab) q fr y.v.id) → Hid (BstK (edB (EL.map Er.e) lab) q fr x.v.id (VL.map Vr.v) (k + 1) yi.l r) := fun h => hno (.inr fun z hz => by
                    rw [List.getElem?_map, HY.out] at hz
                    injection hz with hz
                    rw [← hz]
                    exact h)
                  have HNO := Lib.hid hno
                  have HNK := Lib.hid hnk
                  clear hno hnk
                  by_cases r1 : 0 < yi.l.length
                  · have t1 : decide (0 < yi.l.length) = true := decide_eq_true r1
                    have HB2 := HNO.out (.inl (fun e => by rw [e] at r1; simp at r1))
                    clear r1
                    go_wp2_with fail
                    go_quiet (fail)
                    go_wp2_with fail
                    exact ⟨⟨k + 1, r, by simp, hltk, Lib.hid (below_drewN HBK.out _), Lib.hid (HOR.out.below (below_drewN (Below.refl _ _) _)), HB2⟩, by simp [intOf]; omega⟩
                  · have t1 : decide (0 < yi.l.length) = false := decide_eq_false r1
                    have HY0 : Hid (yi.l = []) := Lib.hid (List.eq_nil_of_length_eq_zero (by omega))
                    clear r1
                    by_cases r2 : yk.l.length = q + 1
                    · have t2 : ((yk.l.length : Int) != (q : Int) + 1) = false := by simp; omega
                      have HQ2 := Lib.hid r2
                      obtain ⟨d, hd⟩ : ∃ d, d = edD (EL.map Er.e) lab y.v.id x.v.id := ⟨_, rfl⟩
                      have HD := Lib.hid hd
                      have HCE : Hid (∀ u, Below wr.heap.size wr u → Calls Try.prog 120 #[.pointer (some ⟨rb, 0, none⟩), .int .i64 y.v.id, .int .i64 x.v.id, .string lab] u (fun e w' => e = .returned (.bool d) ∧ Below u.heap.size u w')) := Lib.hid (fun u hu => by rw [hd]; exact r19edge_any (HRG.out.below (below_then HBW2.out hu)) (by have := HEL.out; omega) _ _ _)
                      clear hd r2
                      go_wp2_with fail
                      refine wp_region_still_tail 34 (by kernel_rfl) (by kernel_rfl) ?_
                      change wpStill _ _ (World.drew _) (fun a' => wpList _ _ _ _ a' (World.drew _)) _ _
                      simp only [List.take_succ_cons, List.take_zero, List.drop_succ_cons, List.drop_zero]
                      repeat still_step
                      refine wpStill_nil ?_
                      clear t1 t2 x0 x1 v1
                      go_wp2_with fail
                      refine (HCE.out _ (below_drewN (Below.refl _ _) 1)).mono ?_
                      rintro e w2 ⟨rfl, hb2⟩
                      have hbr : Below wr.heap.size wr w2 := below_then (below_drewN (Below.refl _ _) 1) hb2
                      have HBR := Lib.hid hbr
                      have HB2 : Hid (Below w.heap.size w w2) := Lib.hid (below_then HBW2.out hbr)
                      have HBI2 : Hid (Below wi.heap.size wi w2) := Lib.hid (below_then HBK.out hbr)
                      have HOR2 := Lib.hid (HOR.out.below hbr)
                      have HEK2 := Lib.hid (HEK.out.below hbr)
                      clear hb2 hbr c0 z0 zb zv
                      cases d
                      case false =>
                        have HB3 := HNK.out (fun h => by rw [edD_yes h.1] at HD; exact absurd HD.out (by decide))
                        go_wp2_with fail
                        exact ⟨⟨k + 1, r, by simp, hltk, HBI2, HOR2, HB3⟩, by simp [intOf]; omega⟩
                      case true =>
                        have hE : edB (EL.map Er.e) lab y.v.id x.v.id := Classical.byContradiction fun h => by rw [edD_no h] at HD; exact absurd HD.out (by decide)
                        have HEE := Lib.hid hE
                        clear hE
                        obtain ⟨kb, kc, hks, _, _, _⟩ := HEK2.out.at' (fun e => by have := HQ2.out; rw [e] at this; simp at this)
                        injection hks with g1 g2 g3
                        have HKA := Lib.hid g1
                        clear g1 g2 g3
                        have hrt := HRT.out w2 HBI2.out
                        have x1 := hrt.cells k yk HYR.out 0 _ rfl
                        simp [kW2] at x1
                        have zb := hrt.lt
                        clear hrt
                        go_upto_region 23 with (first | (at_builtin; refine RowK.wpList_app (k := kI) (B := w2.heap.size) (v := .slice none 0 0) (l := []) rfl (.tmp 111) (.tmp 115) rfl rfl (RowK.Own.nil kI _ _) yk.a yk.l.length yk.l yk.c rfl rfl HEK2.out.toV (fun e => by rw [HKA.out] at e; cases e) (by have := HQ2.out; simp; omega) (Nat.le_refl _) ?_; intro v5 w5 hA; have HA5 := Lib.hid (show kI.App w2 w2.heap.size (.slice none 0 0) yk.l v5 w5 from hA); clear hA) | fail)
                        clear x1 zb
                        have hb5 : Below w2.heap.size w2 w5 := below_nilR HA5.out.2.1
                        obtain ⟨W6, hW6⟩ : ∃ W6, W6 = w5.alloc (.cells #[.int .i64 x.v.id] 3) := ⟨_, rfl⟩
                        have hb6 : Below w5.heap.size w5 W6 := by rw [hW6]; exact below_box w5 _
                        have HO6 : Hid (kI.Own W6 w2.heap.size v5 yk.l) := Lib.hid (HA5.out.1.below hb6)
                        have HX6 : Hid (kI.V W6 (some ⟨w5.heap.size, 0, none⟩) [x.v.id]) := Lib.hid (by rw [hW6]; exact (RowK.Own.new (k := kI) (l := [x.v.id]) (heap_new w5 (.cells #[.int .i64 x.v.id] 3)) (Nat.zero_le _) rfl (by show 1 ≤ maxLen; decide)).toV)
                        have HB6 : Hid (Below w2.heap.size w2 W6) := Lib.hid (below_then hb5 hb6)
                        have HW6 := Lib.hid hW6.symm
                        obtain ⟨c0, z0, _⟩ := HRC.out w5 (below_then HB2.out hb5)
                        have hvt := HVT.out w5 (below_then HBI2.out hb5)
                        have v0 := hvt.cells j x HX.out 0 _ rfl
                        simp [kVr] at v0
                        have zv := hvt.lt
                        clear hvt hW6 hb5 hb6
                        go_upto_region 24 with (first | (at_builtin; rw [HW6.out]; refine RowK.wpList_app (k := kI) (B := w2.heap.size) (v := v5) (l := yk.l) rfl (.tmp 117) (.tmp 126) rfl rfl HO6.out (some ⟨w5.heap.size, 0, none⟩) 1 [x.v.id] 1 rfl rfl HX6.out (fun e => by cases e) (by have := HQ2.out; simp; omega) HB6.out.size ?_; intro v7 w7 hA; have HA7 := Lib.hid hA; clear hA) | fail)
                        clear c0 z0 v0 zv
                        obtain ⟨S, hS⟩ : ∃ S, S = yk.l ++ [x.v.id] := ⟨_, rfl⟩
                        rw [← hS] at HA7
                        obtain ⟨sa, sc, rfl⟩ := HA7.out.1.shape
                        have hb7 : Below w2.heap.size w2 w7 := HB6.out.trans (below_grownR HO6.out HA7.out.2.1 HB6.out.size)
                        have HBI7 : Hid (Below wi.heap.size wi w7) := Lib.hid (below_then HBI2.out hb7)
                        have HOR7 := Lib.hid (HOR2.out.below hb7)
                        have HOS7 : Hid (kI.Own w7 0 (.slice sa S.length sc) S) := Lib.hid (HA7.out.1.mono (Nat.zero_le _))
                        have HSL : Hid (S.length = q + 1 + 1) := Lib.hid (by rw [hS, List.length_append, HQ2.out]; rfl)
                        have hkx : (VL.map Vr.v)[k]? = some y.v := by rw [List.getElem?_map, HY.out]; rfl
                        have hbs : BstK (edB (EL.map Er.e) lab) q fr x.v.id (VL.map Vr.v) k [] r := by have h := HBS.out; rw [HY0.out] at h; exact h
                        have HTK : Hid (BstK (edB (EL.map Er.e) lab) q fr x.v.id (VL.map Vr.v) (k + 1) yi.l (pick r S)) := Lib.hid (by
                          rw [HY0.out, hS]
                          exact hbs.take hkx HEE.out (HYK.out.len HQ2.out).2 (HYK.out.len HQ2.out).1)
                        have HRL : Hid (r ≠ [] → r.length = q + 1 + 1) := Lib.hid hbs.len
                        clear hb7 hkx hbs hS
                        by_cases hr : r = []
                        · have HPK : Hid (pick r S = S) := Lib.hid (by unfold pick; rw [if_pos (.inl (by rw [hr]; rfl))])
                          have hr0 : r.length = 0 := by rw [hr]; rfl
                          have t4 : ((r.length : Int) == 0) = true := by rw [hr0]; rfl
                          clear hr hr0
                          go_wp2_with fail
                          exact ⟨⟨k + 1, S, by simp, hltk, HBI7, HOS7, Lib.hid (by rw [← HPK.out]; exact HTK.out)⟩, by simp [intOf]; omega⟩
                        · have hrl := HRL.out hr
                          have t4 : ((r.length : Int) == 0) = false := by simp [hr]
                          obtain ⟨ll, hll⟩ : ∃ ll, ll = lexLt S r := ⟨_, rfl⟩
                          have HLL := Lib.hid hll
                          have HLS : Hid (Calls Try.prog 121 #[.slice sa S.length sc, .slice ra r.length rc] w7 fun e w' => e = .returned (.bool ll) ∧ Below w7.heap.size w7 w') := Lib.hid (by rw [hll]; exact r19less_any sa ra sc rc S r w7 HOS7.out.toV HOR7.out.toV (by rw [hrl, HSL.out]) (by rw [HSL.out]; omega))
                          have hne : r.length ≠ 0 := by rw [hrl]; omega
                          have HNE := Lib.hid hne
                          clear hr hrl hll hne
                          go_wp2_with fail
                          refine HLS.out.mono ?_
                          rintro e w8 ⟨rfl, hb8⟩
                          have HBI8 : Hid (Below wi.heap.size wi w8) := Lib.hid (below_then HBI7.out hb8)
                          have HOR8 := Lib.hid (HOR7.out.below hb8)
                          have HOS8 := Lib.hid (HOS7.out.below hb8)
                          clear hb8
                          cases ll
                          case true =>
                            have HPK : Hid (pick r S = S) := Lib.hid (by unfold pick; rw [if_pos (.inr HLL.out.symm)])
                            go_wp2_with fail
                            exact ⟨⟨k + 1, S, by simp, hltk, HBI8, HOS8, Lib.hid (by rw [← HPK.out]; exact HTK.out)⟩, by simp [intOf]; omega⟩
                          case false =>
                            have HPK : Hid (pick r S = r) := Lib.hid (by unfold pick; rw [if_neg (fun h => h.elim HNE.out (fun h => by rw [← HLL.out] at h; cases h))])
                            go_wp2_with fail
                            exact ⟨⟨k + 1, r, by simp, hltk, HBI8, HOR8, Lib.hid (by have h := HTK.out; rw [HPK.out] at h; exact h)⟩, by simp [intOf]; omega⟩
                    · have t2 : ((yk.l.length : Int) != (q : Int) + 1) = true := by simp; omega
                      have HB2 := HNK.out (fun h => r2 (HYK.out.far h.2).1)
                      clear r2
                      go_wp2_with fail
                      go_quiet (fail)
                      go_wp2_with fail
                      exact ⟨⟨k + 1, r, by simp, hltk, Lib.hid (below_drewN HBK.out _), Lib.hid (HOR.out.below (below_drewN (Below.refl _ _) _)), HB2⟩, by simp [intOf]; omega⟩
                · have tk : decide ((k : Int) < (m : Int)) = false := decide_eq_false (by omega)
                  have hkm : k = m := by omega
                  have HBS2 : Hid (RowOk (edB (EL.map Er.e) lab) (q + 1) fr x.v.id r) := Lib.hid (by
                    have h := HBS.out
                    rw [hkm, HM.out.1] at h
                    refine BstK.done (rows := fun i => match R[i]? with | some y => y.l | none => []) (by rw [List.length_map]; exact h) HBI.out ?_ ?_
                    · rintro u ⟨e, he, h1, _⟩
                      obtain ⟨⟨a, ha, ea⟩, _⟩ := HOK.out.ends e he
                      exact ⟨a, ha, ea.trans h1⟩
                    · intro i z hz
                      rw [List.getElem?_map] at hz
                      obtain ⟨y, hy, rfl⟩ := Option.map_eq_some_iff.1 hz
                      obtain ⟨yk, hyk⟩ : ∃ y, R[i]? = some y := ⟨_, List.getElem?_eq_getElem (by have := (List.getElem?_eq_some_iff.1 hy).1; have := HM.out.1; have := HRM.out; omega)⟩
                      simp only [hyk]
                      exact HV.out i y yk hy hyk)
                  obtain ⟨W1, hW1⟩ : ∃ W1, W1 = wr.alloc (.cells #[.slice ra r.length rc] 22) := ⟨_, rfl⟩
                  have hb1 : Below wr.heap.size wr W1 := by rw [hW1]; exact below_box wr _
                  have hbi : Below wi.heap.size wi W1 := below_then HBK.out hb1
                  have HXV : Hid (kW2.V W1 (some ⟨wr.heap.size, 0, none⟩) [⟨ra, rc, r⟩]) := Lib.hid (elem_new ⟨ra, rc, r⟩ (by rw [hW1]; exact heap_new wr _))
                  have HOW := Lib.hid (HOR.out.below hb1)
                  have HNW := Lib.hid (HNI.out.below hbi)
                  have HRW := Lib.hid (HRI.out.below hbi)
                  have HB1 : Hid (Below w.heap.size w W1) := Lib.hid (below_then HB.out hbi)
                  have HZ1 : Hid (Bn ≤ W1.heap.size) := Lib.hid (Nat.le_trans HBZ.out hbi.size)
                  have HW1 := Lib.hid hW1.symm
                  clear hW1 hb1 hbi hltk
                  go_wp2_with (first | (at_builtin; rw [HW1.out]; refine RowK.wpList_app (k := kW2) (B := Bn) (v := .slice na j nc) (l := N) rfl (.tmp 137) (.tmp 139) rfl rfl HNW.out.o (some ⟨wr.heap.size, 0, none⟩) 1 [⟨ra, rc, r⟩] 1 rfl rfl HXV.out (fun e => by cases e) (by have := HNL.out; simp; omega) HZ1.out ?_; intro v8 w8 hA; have HA8 := Lib.hid hA; clear hA) | fail)
                  refine ⟨⟨j + 1, N ++ [⟨ra, rc, r⟩], by simp, hlt, Lib.hid (by simp [HNL.out]), Lib.hid (HB1.out.trans ((below_grownR HNW.out.o HA8.out.2.1 HZ1.out).mono HBW.out.1)), Lib.hid (Nat.le_trans HZ1.out HA8.out.2.1.size), Lib.hid (HRW.out.other HBN.out HNW.out.o HA8.out.2.1), Lib.hid (HNW.out.app HOW.out HA8.out), Lib.hid (fun i z y hz hy => ?_)⟩, by simp [intOf]; omega⟩
                  by_cases e : i < j
                  · rw [List.getElem?_append_left (by have := HNL.out; omega)] at hy
                    exact HNV.out i z y hz hy
                  · rw [List.getElem?_append_right (by have := HNL.out; omega)] at hy
                    have e2 : i - N.length = 0 := by
                      have := (List.getElem?_eq_some_iff.1 hy).1
                      simp at this
                      omega
                    rw [e2] at hy
                    obtain rfl : i = j := by have := HNL.out; omega
                    rw [HX.out] at hz
                    injection hz with hz
                    subst hz
                    simp at hy
                    subst hy
                    exact HBS2.out
            · have tj : decide ((j : Int) < (m : Int)) = false := decide_eq_false (by omega)
              have hjm : j = m := by omega
              go_wp2_with fail
              refine ⟨⟨q + 1, N, by simp, HQ.out, Lib.hid (by rw [HNL.out, hjm]), HB, Lib.hid (by have := HNI.out; exact ⟨this.o.mono HBW.out.1, this.e⟩), HNV⟩, by simp [intOf]; omega⟩
        · have tq : decide ((q : Int) + 1 ≤ most) = false := decide_eq_false hqm
          have HQ : Hid (q = most.toNat) := Lib.hid (by omega)
          obtain ⟨c0, z0, ho⟩ := HRC.out wr HB.out
          go_wp2_with fail
          refine (r16V_any (HRG.out.below HB.out) (by have := HM.out.1; omega) t).mono ?_
          rintro e w9 ⟨rfl, r, rfl, hr⟩
          rcases hr with ⟨rfl, hno⟩ | ⟨i, x, rfl, hx, hk⟩
          · exfalso
            obtain ⟨u, hu, e⟩ := HTT.out
            obtain ⟨y, hy, rfl⟩ := List.mem_map.1 hu
            exact hno y hy e
          · obtain ⟨yi, hyi⟩ : ∃ y, R[i]? = some y := ⟨_, List.getElem?_eq_getElem (by have h1 := (List.getElem?_eq_some_iff.1 hx).1; have h2 := HM.out.1; have h3 := HRM.out; omega)⟩
            have him : i < m := by have h1 := (List.getElem?_eq_some_iff.1 hx).1; have h2 := HM.out.1; omega
            obtain ⟨bb, bcap, hsl, _, _, hat⟩ := HRI.out.o.at' (fun e => by rw [e] at hyi; simp at hyi)
            injection hsl with e1 e2 e3
            subst e1
            have x0 := hat.cells i yi hyi 0 _ rfl
            simp [kW2] at x0
            have hbb := hat.lt
            have HEI : Hid (kI.Own wr 0 (.slice yi.a yi.l.length yi.c) yi.l) := Lib.hid (HRI.out.e yi (List.mem_of_getElem? hyi))
            have HFI : Hid (RowOk (edB (EL.map Er.e) lab) most.toNat fr t yi.l) := Lib.hid (by have := HV.out i x yi hx hyi; have hk2 : x.v.id = t := hk; rw [HQ.out, hk2] at this; exact this)
            clear hx hyi hat ho e2 e3 hk c0 z0
            go_wp2_with fail
            go_ret2
            exact ⟨yi.a, yi.c, yi.l, by simp, HEI.out, HB.out, HFI.out⟩
end Go.Proofs.Ytaanohgkdpohhaa
