/- (*match.run).on: all rows behind one. Conditions: the contract's own premises. (*match.run).on: all rows behind one. Conditions: the contract's own premises. match.Run's beginning: the vertices that fit each node; what all costs. Conditions: each lemma's own premises. match.Run. Conditions: the contract's own premises. -/
import Derived.Test.YtonilojjahfboaaGreatMaD
import Derived.Test.YtonilojjahfboaaGreatMaC
import Derived.Test.YtonilojjahfboaaGreatFdA
namespace Go.Proofs.YtonilojjahfboaaGreat
open Go.RowKit Go.Maps

def OnPost (q : Mq) (w : World) (m : Nat) (st : Option Nat) (C : Ca) (row : List Int) (out : List Ws) (e : Ending) (w' : World) : Prop :=
  e = .returned (.tuple #[]) ∧ ∃ st' C' vr' out' vo', OnR (candQ q) (tiedP q.E q.LS) q.V.length q.most m row st st' (potQ q C) (potQ q C') (out.map Ws.l) (out'.map Ws.l) ∧ MrI q w' st' C' row vr' out' vo' ∧ Chg w w' (fun j => j = q.wb ∨ q.B ≤ j)
set_option maxRecDepth 100000 in
set_option maxHeartbeats 4000000 in
theorem on_whole (q : Mq) (hq : q.Ok) (w : World) (st : Option Nat) (C : Ca) (row : List Int) (vr : Value) (out : List Ws) (vo : Value) (hk : row.length = q.NS.length) (ho : out.length ≤ q.most) (h : MrI q w st C row vr out vo) :
    Calls Tryz.prog 128 #[.pointer (some ⟨q.rb, 0, none⟩)] w (OnPost q w 0 st C row out) := by
  obtain ⟨c0, c1, c2, c3, c4, c5, c6, c7, cl⟩ := h.cells
  obtain ⟨a, cap, rfl⟩ := h.rowo.shape
  obtain ⟨oa, oc, rfl⟩ := h.outo.shape
  obtain ⟨n, hn⟩ : ∃ n, n = row.length := ⟨_, rfl⟩
  obtain ⟨no, hno⟩ : ∃ n, n = out.length := ⟨_, rfl⟩
  have HN : Hid (n = row.length ∧ n ≤ 8) := Lib.hid ⟨hn, by rw [hn]; exact h.rl⟩
  have HNO : Hid (no = out.length ∧ no ≤ 4096) := Lib.hid ⟨hno, by have := hq.mo; omega⟩
  rw [← hk, ← hn] at c1
  rw [← hn] at c5
  rw [← hno] at c6
  have f6 := frozen_of_blk h.blk 6
  have H := Lib.hid h
  have HQ := Lib.hid hq
  have HOL := Lib.hid ho
  have HAN : Hid (a = none → cap = 0 ∧ row = []) := Lib.hid (fun e => by
    have h1 := h.rowo
    rw [e] at h1
    exact ⟨h1.noneCap, Classical.byContradiction fun hn => by
      obtain ⟨b, off, e, _⟩ := h1.toV hn
      cases e⟩)
  have HCL : Hid (Calls Tryz.prog 223 #[.slice a n cap] w.drew (CiPost w.drew row)) := Lib.hid (by
    rw [hn]; exact cloneI_any a cap row w.drew (h.rowo.below (below_drewN (Below.refl _ _) 1)).toV HAN.out (by have := h.rl; omega))
  have HB : Hid (q.B ≤ w.heap.size) := Lib.hid (by have := hq.rbB; omega)
  clear c0 c2 c3 c4 c7 hn hno hk h hq ho
  have hn9 : n ≤ 1000 := by have := HN.out.2; omega
  have hno9 : no ≤ 1000000 := by have := HNO.out.2; omega
  go_enter Tryz.func128, Tryz.ntmps128
  go_upto_region 2 with fail
  have HDR : Hid (MrI q w.drew st C row (.slice a row.length cap) out (.slice oa out.length oc)) := Lib.hid (H.out.below (below_drewN (Below.refl _ _) 1))
  have HFR : Hid (∀ (w2 : World) (a2 : Option Addr) (c2 : Nat), kI.Own w2 w.drew.heap.size (.slice a2 row.length c2) row → FrX (w2.alloc (.cells #[.slice a2 row.length c2] 42)) q.B (Value.slice a row.length cap).ownBlock ⟨a2, c2, row⟩) := Lib.hid (fun w2 a2 c2 o2 => by
    have f1 := FrX.of_fresh (r := (Value.slice a row.length cap).ownBlock) (x := ⟨a2, c2, row⟩) (FreshI.of_own o2) (fun g hg => (H.out.rowo.lt g hg).2)
    exact (f1.mono HB.out).keep (fun g cur hg _ => (Below.heap_alloc _ _ _ (Array.getElem?_eq_some_iff.1 hg).1).trans hg) (.inl rfl))
  go_region_law (first
    | (refine RowK.step_app (k := kW2) (B := q.B) (v := .slice oa no oc) (l := out) rfl (.tmp 22) (.tmp 28) rfl rfl HO2.out (some ⟨w2.heap.size, 0, none⟩) 1 [⟨a2, c2, row⟩] 1 rfl rfl HV2.out (fun e => by cases e) (by have := HNO.out; simp; omega) HB2.out ?_; intro v8 w8 hA; obtain ⟨a8, c8, hv8⟩ := hA.1.shape; rw [List.length_append, List.length_singleton] at hv8; subst hv8; have hE := HM2.out.emit HQ.out (by rw [← HNO.out.1]; exact hA) HF2.out HOL.out; have y6 := (World.cell?_of_block (a := ⟨q.rb, 6, none⟩) hE.1).trans d6; have g6 := frozen_of_blk (hE.1.trans HM2.out.blk) 6; have zr : q.rb < w8.heap.size := (Array.getElem?_eq_some_iff.1 (hE.1.trans HM2.out.blk)).1; have HE := Lib.hid hE.2; clear hA hE)
    | (go_simp; refine HCL.out.mono ?_; rintro e w2 ⟨a2, c2, rfl, o2, b2⟩; have HM2 : Hid (MrI q (w2.alloc (.cells #[.slice a2 row.length c2] 42)) st C row (.slice a row.length cap) out (.slice oa out.length oc)) := Lib.hid ((HDR.out.below b2).below (below_box _ _)); have HO2 := Lib.hid HM2.out.outo; rw [← HNO.out.1] at HO2; have HB2 : Hid (q.B ≤ (w2.alloc (.cells #[.slice a2 row.length c2] 42)).heap.size) := Lib.hid (by have := HM2.out.lt; have := HQ.out.rbB; omega); have d6 : (w2.alloc (.cells #[.slice a2 row.length c2] 42)).cell? ⟨q.rb, 6, none⟩ = some (.slice oa no oc) := (by obtain ⟨_, _, _, _, _, _, d6, _⟩ := HM2.out.cells; rw [d6, HNO.out.1]); have e6 : w2.cell? ⟨q.rb, 6, none⟩ = some (.slice oa no oc) := (by obtain ⟨_, _, _, _, _, _, e6, _⟩ := (HDR.out.below b2).cells; rw [e6, HNO.out.1]); have ez : q.rb < w2.heap.size := (HDR.out.below b2).lt; have HV2 : Hid (kW2.V (w2.alloc (.cells #[.slice a2 row.length c2] 42)) (some ⟨w2.heap.size, 0, none⟩) [⟨a2, c2, row⟩]) := Lib.hid (fun _ => ⟨_, 0, rfl, RowK.new_at (heap_new _ _) rfl⟩); have HWZ : Hid (Chg w (w2.alloc (.cells #[.slice a2 row.length c2] 42)) (fun j => j = q.wb ∨ q.B ≤ j)) := Lib.hid (Chg.of_below (below_then (Below.trans (below_drewN (Below.refl w.heap.size w) 1) b2) (below_box _ _)) _); have HF2 : Hid (FrX (w2.alloc (.cells #[.slice a2 row.length c2] 42)) q.B (Value.slice a row.length cap).ownBlock ⟨a2, c2, row⟩) := Lib.hid (HFR.out w2 a2 c2 o2); clear o2 b2; dsimp only))
  all_goals
    go_wp2_with fail
    go_end0
    exact ⟨rfl, st, C, _, out ++ [⟨a2, c2, row⟩], _, by rw [List.map_append]; exact OnR.whole (by rw [List.length_map]; exact HOL.out), HE.out.1, HWZ.out.trans HE.out.2 (fun _ _ e => e)⟩
end Go.Proofs.YtonilojjahfboaaGreat
namespace Go.Proofs.YtonilojjahfboaaGreat
open Go.RowKit Go.Maps

structure OnI (q : Mq) (w : World) (m : Nat) (st0 : Option Nat) (C0 : Ca) (row L : List Int) (out0 : List Ws) (j : Nat) (st : Option Nat) (C : Ca) (vr : Value) (out : List Ws) (vo : Value) (u : World) : Prop where
  i : MrI q u st C row vr out vo
  l : LpR (candQ q) (tiedP q.E q.LS) q.V.length q.most m row L j st0 st (potQ q C0) (potQ q C) (out0.map Ws.l) (out.map Ws.l)
  c : Chg w u (fun j => j = q.wb ∨ q.B ≤ j)
theorem payS_cases (st : Option Nat) : (payS st 1 = none ∧ (st = none ∨ st = some 0)) ∨ ∃ k, st = some (k + 1) ∧ payS st 1 = some k := by
  cases st with
  | none => exact .inl ⟨rfl, .inl rfl⟩
  | some s =>
    cases s with
    | zero => exact .inl ⟨rfl, .inr rfl⟩
    | succ k => exact .inr ⟨k, rfl, rfl⟩
theorem MrI.back {q : Mq} {u : World} {st : Option Nat} {C : Ca} {row : List Int} {x : Int} {vr : Value} {out : List Ws} {vo : Value} (h : MrI q u st C (row ++ [x]) vr out vo) (hq : q.Ok) {n : Nat} (hn : n = row.length) :
    ∃ g c, kI.pfx (some ⟨g, 0, none⟩) c = some ⟨g, 0, none⟩ ∧ n ≤ c ∧ u.cell? ⟨q.rb, 5, none⟩ = some (.slice (some ⟨g, 0, none⟩) (n + 1) c) ∧ u.frozen? ⟨q.rb, 5, none⟩ = false ∧ q.rb < u.heap.size ∧
      MrI q (u.setCell ⟨q.rb, 5, none⟩ (.slice (some ⟨g, 0, none⟩) n c)) st C row (.slice (some ⟨g, 0, none⟩) n c) out vo ∧ Chg u (u.setCell ⟨q.rb, 5, none⟩ (.slice (some ⟨g, 0, none⟩) n c)) (fun j => j = q.wb ∨ q.B ≤ j) := by
  subst hn
  obtain ⟨g, c, hv, _, hc, hat⟩ := h.rowo.at' (by simp)
  have hl : (row ++ [x]).length = row.length + 1 := by simp
  rw [hl] at hv hc
  subst hv
  have ho := RowK.Own.head h.rowo (i := row.length) (by simp) []
  rw [List.take_append_of_le_length (Nat.le_refl _), List.take_length] at ho
  have h2 := h.cut hq (v' := .slice (some ⟨g, 0, none⟩) row.length c) ho rfl
  obtain ⟨_, _, _, _, _, c5, _, _, cl⟩ := h.cells
  refine ⟨g, c, ?_, by omega, c5, frozen_of_blk h.blk 5, cl, h2.1, h2.2⟩
  unfold RowK.pfx
  rw [if_neg (by omega)]
  rfl
set_option maxRecDepth 100000 in
set_option maxHeartbeats 8000000 in
theorem on_step (q : Mq) (hq : q.Ok) (m : Nat)
    (IH : ∀ (w : World) (st : Option Nat) (C : Ca) (row : List Int) (vr : Value) (out : List Ws) (vo : Value), row.length + m = q.NS.length → out.length ≤ q.most → MrI q w st C row vr out vo → q.Kp w → Calls Tryz.prog 128 #[.pointer (some ⟨q.rb, 0, none⟩)] w (OnPost q w m st C row out))
    (w : World) (st0 : Option Nat) (C0 : Ca) (row : List Int) (vr : Value) (out0 : List Ws) (vo : Value) (hk : row.length + (m + 1) = q.NS.length) (ho : out0.length ≤ q.most) (h : MrI q w st0 C0 row vr out0 vo) (hkp : q.Kp w) :
    Calls Tryz.prog 128 #[.pointer (some ⟨q.rb, 0, none⟩)] w (OnPost q w (m + 1) st0 C0 row out0) := by
  obtain ⟨x, hx⟩ : ∃ x, q.OF[row.length]? = some x := ⟨_, List.getElem?_eq_getElem (by rw [hq.ol]; omega)⟩
  have HLC : Hid (x.l = candQ q row.length) := Lib.hid (by unfold candQ; rw [hx])
  have hxm := List.mem_of_getElem? hx
  have HXL : Hid (x.l.length ≤ q.V.length ∧ x.l.length ≤ 1000) := Lib.hid ⟨hq.oL x hxm, Nat.le_trans (hq.oL x hxm) hq.vl⟩
  have HXV : Hid (∀ n ∈ x.l, n ∈ q.V.map Vt.id) := Lib.hid (hq.os x hxm)
  have HXM := Lib.hid hxm
  obtain ⟨ob, ocap, hvo, _, _, hat⟩ := h.ofo.at' (fun e => by rw [e] at hx; simp at hx)
  injection hvo with e1 e2 e3
  have o0 := hat.cells _ x hx 0 _ rfl
  simp [kW2] at o0
  have hol := hat.lt
  obtain ⟨c0, c1, c2, c3, c4, c5, c6, c7, cl⟩ := h.cells
  obtain ⟨a, cap, rfl⟩ := h.rowo.shape
  obtain ⟨n, hn⟩ : ∃ n, n = row.length := ⟨_, rfl⟩
  obtain ⟨nn, hnn⟩ : ∃ n, n = q.NS.length := ⟨_, rfl⟩
  rw [e1, hq.ol, ← hnn] at c3
  rw [← hnn] at c1
  rw [← hn] at c5 o0
  have HN : Hid (n = row.length ∧ nn = q.NS.length ∧ n + (m + 1) = nn ∧ nn ≤ 8) := Lib.hid ⟨hn, hnn, by rw [hn, hnn]; exact hk, by rw [hnn]; exact hq.nl⟩
  have t1 : ((n : Int) == (nn : Int)) = false := by have := HN.out; simp; omega
  have hnl : (n : Int) < (nn : Int) := by have := HN.out; omega
  have hn9 : n ≤ 1000 := by have := HN.out; omega
  have H := Lib.hid h
  have HQ := Lib.hid hq
  have HOL := Lib.hid ho
  have HKP := Lib.hid hkp
  obtain ⟨L, hL⟩ : ∃ L, L = x.l := ⟨_, rfl⟩
  obtain ⟨ln, hln⟩ : ∃ n, n = L.length := ⟨_, rfl⟩
  rw [← hL] at HLC HXL HXV o0
  rw [← hln] at o0
  have HLN : Hid (ln = L.length ∧ L = x.l ∧ ln ≤ 1000) := Lib.hid ⟨hln, hL, by rw [hln]; exact HXL.out.2⟩
  have HI0 : Hid (OnI q w m st0 C0 row L out0 0 st0 C0 (.slice a row.length cap) out0 vo w) := Lib.hid ⟨h, LpR.start (by rw [List.length_map]; omega), Chg.refl _ _⟩
  clear hx hxm e1 e2 e3 hat hn hnn hk h hq ho hkp hL hln c0 c2 c4 c6 c7
  go_enter Tryz.func128, Tryz.ntmps128
  go_wp2_with fail
  go_loopw [40] (fun i wr => ∃ (j : Nat) (st : Option Nat) (C : Ca) (vr : Value) (out : List Ws) (vo : Value), i = .int .i64 j ∧ j ≤ ln ∧ Hid (OnI q w m st0 C0 row L out0 j st C vr out vo wr)) (fun i _ => ln - (intOf i).toNat)
  case atStart => exact ⟨0, _, _, _, _, _, rfl, Nat.zero_le _, HI0⟩
  case round =>
    clear HI0 c1 c3 c5 cl
    obtain ⟨j, st, C, vr2, out, vo2, rfl, hj, HI⟩ := hrel
    obtain ⟨wo, rfl⟩ : ∃ wo : World, wo = wr := ⟨_, rfl⟩
    have hj9 : j ≤ 1000 := Nat.le_trans hj HLN.out.2.2
    obtain ⟨ra, rc, hvr⟩ := HI.out.i.rowo.shape
    obtain ⟨oa2, oc2, hvo2⟩ := HI.out.i.outo.shape
    subst hvr hvo2
    obtain ⟨no, hno⟩ : ∃ n, n = out.length := ⟨_, rfl⟩
    have HNO : Hid (no = out.length ∧ no ≤ 4097) := Lib.hid ⟨hno, by have := HI.out.i.ol; have := HQ.out.mo; omega⟩
    have hno9 : no ≤ 1000000 := by have := HNO.out.2; omega
    obtain ⟨c0, c1, c2, c3, c4, c5, c6, c7, cl⟩ := HI.out.i.cells
    rw [← HN.out.1] at c5
    rw [← hno] at c6
    clear hno c2 c3 c4
    by_cases hlt : j < ln
    · obtain ⟨v, hv⟩ : ∃ v, L[j]? = some v := ⟨_, List.getElem?_eq_getElem (by rw [← HLN.out.1]; exact hlt)⟩
      have HV := Lib.hid hv
      have HVV := Lib.hid (HXV.out v (List.mem_of_getElem? hv))
      rcases HI.out.i.ofc x HXM.out with ⟨_, hl0⟩ | ⟨g, cur, hxa, _, _, hg, hcur⟩
      · exact absurd hv (by rw [HLN.out.2.1, hl0]; simp)
      have v0 : wo.cell? ⟨g, j, none⟩ = some (.int .i64 v) := by rw [cell_of_blk hg]; exact hcur j v (by rw [← HLN.out.2.1]; exact hv)
      have hgl := (Array.getElem?_eq_some_iff.1 hg).1
      rw [hxa]
      clear hv hg hcur
      by_cases hm : q.most < no
      · have t6 : decide (q.most < no) = true := decide_eq_true hm
        have t6' : decide ((q.most : Int) < (no : Int)) = true := decide_eq_true (by omega)
        have HMM := Lib.hid hm
        clear hm
        go_wp2_with fail
        go_quiet (fail)
        go_wp2_with fail
        go_end0
        exact ⟨rfl, st, C, _, out, _, HI.out.l.many HLC.out HXL.out.1 (by rw [← HLN.out.1]; exact hj) (by rw [List.length_map, ← HNO.out.1]; exact HMM.out), HI.out.i.below (below_drewN (Below.refl _ _) _), HI.out.c.trans (Chg.of_below (below_drewN (Below.refl _ _) _) (fun _ => False)) (fun _ _ e => e.elim)⟩
      · have t6 : decide (q.most < no) = false := decide_eq_false hm
        have t6' : decide ((q.most : Int) < (no : Int)) = false := decide_eq_false (by omega)
        have HMM : Hid (out.length ≤ q.most) := Lib.hid (by have := HNO.out.1; omega)
        clear hm
        go_upto_region 6 with fail
        have hpy := pay_any q.w0 wo.drew q.wb q.gb st (HI.out.i.wk.below (below_drewN (Below.refl _ _) 1))
        unfold PyPost at hpy
        have HPY := Lib.hid hpy
        have HS6 : Hid (∀ u, Chg wo u (fun j => j = q.wb) → u.cell? ⟨q.rb, 6, none⟩ = some (.slice oa2 no oc2) ∧ u.cell? ⟨q.rb, 7, none⟩ = some (.int .i64 q.most) ∧ u.cell? ⟨q.rb, 0, none⟩ = some (.pointer (some ⟨q.wb, 0, none⟩)) ∧ q.rb < u.heap.size) := Lib.hid (fun u hu => by
          have hb : u.heap[q.rb]? = wo.heap[q.rb]? := hu.block q.rb HI.out.i.lt (fun e => by have := HQ.out.wbB; have := HQ.out.rbB; omega)
          exact ⟨(World.cell?_of_block (a := ⟨q.rb, 6, none⟩) hb).trans c6, (World.cell?_of_block (a := ⟨q.rb, 7, none⟩) hb).trans c7, (World.cell?_of_block (a := ⟨q.rb, 0, none⟩) hb).trans c0, Nat.lt_of_lt_of_le cl hu.size⟩)
        clear hpy v0 hgl c0 c1 c5 c6 c7 cl
        go_cut [61] from 44 to 61 (fun s61 wc => ∃ u : World, u = wc ∧ s61 = .bool (payS st 1).isNone ∧ Hid (Chg wo u (fun j => j = q.wb) ∧ WkS q.w0 u q.wb q.gb (payS st 1)))
        case first =>
          go_region_held3 (fun u => u.cell? ⟨q.rb, 6, none⟩ = some (.slice oa2 no oc2) ∧ u.cell? ⟨q.rb, 7, none⟩ = some (.int .i64 q.most) ∧ u.cell? ⟨q.rb, 0, none⟩ = some (.pointer (some ⟨q.wb, 0, none⟩)) ∧ q.rb < u.heap.size)
            (first | exact HS6.out _ (Chg.refl _ _).drew | exact HS6.out _ HK6.out)
            ((go_at_call 55; (with_reducible refine HPY.out.mono ?_); rintro e w6 ⟨rfl, s6, k6⟩; have HK6 : Hid (Chg wo w6 (fun j => j = q.wb)) := Lib.hid ((Chg.refl wo (fun j => j = q.wb)).drew.trans k6 (fun _ _ e => e)); have HW6 := Lib.hid (And.intro HK6.out s6); clear s6 k6))
          all_goals
            go_wp2_with fail
            go_meet
            exact ⟨_, rfl, rfl, HW6⟩
        case rest =>
        obtain ⟨u, rfl, rfl, HU⟩ := hcut
        apply_assumption
        rcases payS_cases st with ⟨hp, hst⟩ | ⟨k, rfl, hp⟩
        · have HM : Hid (MrI q u none C row (.slice ra row.length rc) out (.slice oa2 out.length oc2)) := Lib.hid (HI.out.i.paid (fun e => by have := HQ.out.wbB; have := HQ.out.rbB; omega) (fun e => by have := HQ.out.wbB; have := HQ.out.mbB; omega) (fun e => by
            obtain ⟨es, cl0, hm0⟩ := HI.out.i.mapB
            have hb := HI.out.i.blk
            rw [e, hm0] at hb
            cases hb) HU.out.1 (by rw [← hp]; exact HU.out.2) (fun e => by cases e))
          have HST := Lib.hid hst
          simp only [hp, Option.isNone_none]
          clear hp hst
          go_wp2_with fail
          go_end0
          exact ⟨rfl, none, C, _, out, _, HI.out.l.spent HXL.out.1 (by rw [← HLN.out.1]; exact hlt) HST.out, HM.out, HI.out.c.trans HU.out.1 (fun _ _ e => .inl e)⟩
        have HM : Hid (MrI q u (some k) C row (.slice ra row.length rc) out (.slice oa2 out.length oc2)) := Lib.hid (HI.out.i.paid (fun e => by have := HQ.out.wbB; have := HQ.out.rbB; omega) (fun e => by have := HQ.out.wbB; have := HQ.out.mbB; omega) (fun e => by
            obtain ⟨es, cl0, hm0⟩ := HI.out.i.mapB
            have hb := HI.out.i.blk
            rw [e, hm0] at hb
            cases hb) HU.out.1 (by rw [← hp]; exact HU.out.2) (fun e => rfl))
        have HCU : Hid (Chg w u (fun j => j = q.wb ∨ q.B ≤ j)) := Lib.hid (HI.out.c.trans HU.out.1 (fun _ _ e => .inl e))
        simp only [hp, Option.isNone_some]
        clear hp
        obtain ⟨c0, c1, c2, c3, c4, c5, c6, c7, cl⟩ := HM.out.cells
        rw [← HN.out.1] at c5
        obtain ⟨b, hb⟩ : ∃ b, row.contains v = b := ⟨_, rfl⟩
        have HCT : Hid (Calls Tryz.prog 224 #[.slice ra n rc, .int .i64 v] u fun e w' => e = .returned (.bool b) ∧ u = w') := Lib.hid (by
          rw [HN.out.1, ← hb]
          exact contI_any ra rc row v u HM.out.rowo.toV (by have := HM.out.rl; omega))
        have HBC := Lib.hid hb
        clear hb
        cases b
        case true =>
          go_wp2_with (go_at_call 224; (with_reducible refine HCT.out.mono ?_); rintro e w7 ⟨rfl, rfl⟩)
          exact ⟨⟨j + 1, some k, C, _, out, _, by go_num, hlt, Lib.hid ⟨HM.out, HI.out.l.skip (by rw [List.length_map]; exact HMM.out) HV.out HBC.out, HCU.out⟩⟩, by simp [intOf]; omega⟩
        case false =>
          have HM8 := Lib.hid (HM.out.below (below_box u (.cells #[.int .i64 v] 3)))
          have HO8 : Hid (kI.Own (u.alloc (.cells #[.int .i64 v] 3)) q.B (.slice ra n rc) row) := Lib.hid (by rw [HN.out.1]; exact HM8.out.rowo)
          have HV8 := Lib.hid (int_new u u.heap.size rfl v)
          have HB8 : Hid (q.B ≤ (u.alloc (.cells #[.int .i64 v] 3)).heap.size) := Lib.hid (by have := HM8.out.lt; have := HQ.out.rbB; omega)
          go_wp2_with (first
            | (go_at_call 224; (with_reducible refine HCT.out.mono ?_); rintro e w7 ⟨rfl, rfl⟩)
            | (at_builtin; refine RowK.wpList_app (k := kI) (B := q.B) (v := .slice ra n rc) (l := row) rfl (.tmp 72) (.tmp 74) rfl rfl HO8.out (some ⟨u.heap.size, 0, none⟩) 1 [v] 1 rfl rfl HV8.out (fun e => by cases e) (by have := HN.out; simp; omega) HB8.out ?_; intro v8 w8 hA; obtain ⟨a8, cp8, hv8⟩ := hA.1.shape; rw [List.length_append, List.length_singleton] at hv8; subst hv8; have hP := HM8.out.push HQ.out (by rw [← HN.out.1]; exact hA) HVV.out (by have := HN.out; omega); have y5 := (World.cell?_of_block (a := ⟨q.rb, 5, none⟩) hP.1).trans ((below_cell (below_box u (.cells #[.int .i64 v] 3)) 5 cl c5)); have g5 := frozen_of_blk (hP.1.trans HM8.out.blk) 5; have zr : q.rb < w8.heap.size := (Array.getElem?_eq_some_iff.1 (hP.1.trans HM8.out.blk)).1; have HP := Lib.hid hP.2; clear hA hP)
            | fail)
          have HC9 : Hid (Chg w (w8.setCell ⟨q.rb, 5, none⟩ (.slice a8 (row.length + 1) cp8)) (fun j => j = q.wb ∨ q.B ≤ j)) := Lib.hid ((HCU.out.trans (Chg.of_below (below_box u (.cells #[.int .i64 v] 3)) (fun _ => False)) (fun _ _ e => e.elim)).trans HP.out.2 (fun _ _ e => e))
          have HF := Lib.hid (fits_any q HQ.out _ k C (row ++ [v]) _ out _ (by simp) HP.out.1 (HKP.out.chg HC9.out))
          clear y5 g5 zr c0 c1 c2 c3 c4 c5 c6 c7 cl
          refine HF.out.mono ?_
          rintro e w9 ⟨b, st2, C2, rfl, hf, hm9, hc9⟩
          have HFR := Lib.hid hf
          have HM9 := Lib.hid hm9
          have HCC : Hid (Chg w w9 (fun j => j = q.wb ∨ q.B ≤ j)) := Lib.hid (HC9.out.trans hc9 (fun _ _ e => e.elim .inl (fun e => .inr (by rw [e]; exact HQ.out.mbB))))
          clear hf hm9 hc9 HF HC9 HP HM8 HO8 HV8 HB8
          cases b
          case false =>
            obtain ⟨g9, c9, hpf, hnc, y5, f5, z5, hb, hcb⟩ := HM9.out.back HQ.out HN.out.1
            have HPF := Lib.hid hpf
            have HB := Lib.hid (And.intro hb hcb)
            clear hpf hb hcb
            go_wp2_with (first | (refine RowK.wpList_pfx (k := kI) (o := ⟨some 88, _, _, _, _, _⟩) rfl (.tmp 86) (.tmp 87) rfl _ (n + 1) c9 n rfl rfl hnc HPF.out ?_) | fail)
            exact ⟨⟨j + 1, st2, C2, _, out, _, by go_num, hlt, Lib.hid ⟨HB.out.1, HI.out.l.unfit (by rw [List.length_map]; exact HMM.out) HXL.out.1 HV.out HFR.out, HCC.out.trans HB.out.2 (fun _ _ e => e)⟩⟩, by simp [intOf]; omega⟩
          case true =>
            go_wp2_with fail
            refine (IH w9 st2 C2 (row ++ [v]) _ out _ (by rw [List.length_append, List.length_singleton]; have := HN.out; omega) HMM.out HM9.out (HKP.out.chg HCC.out)).mono ?_
            rintro e w10 ⟨rfl, st3, C3, vr3, out3, vo3, hR, hm10, hc10⟩
            have HRR := Lib.hid hR
            have HM10 := Lib.hid hm10
            have HC10 : Hid (Chg w w10 (fun j => j = q.wb ∨ q.B ≤ j)) := Lib.hid (HCC.out.trans hc10 (fun _ _ e => e))
            clear hR hm10 hc10
            obtain ⟨g9, c9, hpf, hnc, y5, f5, z5, hb, hcb⟩ := HM10.out.back HQ.out HN.out.1
            have HPF := Lib.hid hpf
            have HB := Lib.hid (And.intro hb hcb)
            clear hpf hb hcb
            go_wp2_with (first | (refine RowK.wpList_pfx (k := kI) (o := ⟨some 88, _, _, _, _, _⟩) rfl (.tmp 86) (.tmp 87) rfl _ (n + 1) c9 n rfl rfl hnc HPF.out ?_) | fail)
            exact ⟨⟨j + 1, st3, C3, _, out3, _, by go_num, hlt, Lib.hid ⟨HB.out.1, HI.out.l.sub (by rw [List.length_map]; exact HMM.out) HXL.out.1 HV.out HBC.out HFR.out HRR.out, HC10.out.trans HB.out.2 (fun _ _ e => e)⟩⟩, by simp [intOf]; omega⟩
    · obtain rfl : j = ln := by omega
      go_wp2_with fail
      go_end0
      exact ⟨rfl, st, C, _, out, _, HI.out.l.fin HLC.out HXL.out.1 HLN.out.1, HI.out.i, HI.out.c⟩
end Go.Proofs.YtonilojjahfboaaGreat
namespace Go.Proofs.YtonilojjahfboaaGreat
open Go.RowKit Go.Maps

/-- what looking at each of a list of vertices costs -/
def costV (E : List Eg) : List Int → Nat
  | [] => 0
  | v :: l => 1 + (idsE E (sideP true v)).length + costV E l
theorem idsE_cons (e : Eg) (E : List Eg) (p : Eg → Bool) : (idsE (e :: E) p).length = (if p e then 1 else 0) + (idsE E p).length := by
  unfold idsE
  rw [List.filter_cons]
  split <;> simp; omega
theorem costV_nil : ∀ l : List Int, costV [] l = l.length
  | [] => rfl
  | v :: l => by
    show 1 + 0 + costV [] l = l.length + 1
    rw [costV_nil l]; omega
theorem sideT (v : Int) (e : Eg) : sideP true v e = true ↔ e.fr = v := by simp [sideP, outP]
theorem costV_cons (e : Eg) (E : List Eg) : ∀ l : List Int, l.Nodup → costV (e :: E) l ≤ costV E l + (if e.fr ∈ l then 1 else 0)
  | [], _ => by simp [costV]
  | v :: l, h => by
    obtain ⟨h1, h2⟩ := List.nodup_cons.1 h
    have ih := costV_cons e E l h2
    show 1 + (idsE (e :: E) (sideP true v)).length + costV (e :: E) l ≤ 1 + (idsE E (sideP true v)).length + costV E l + _
    rw [idsE_cons]
    by_cases hs : sideP true v e = true
    · have hv := (sideT v e).1 hs
      have hn : e.fr ∉ l := by rw [hv]; exact h1
      rw [if_neg hn] at ih
      rw [if_pos hs, if_pos (by rw [hv]; simp)]
      omega
    · rw [if_neg hs]
      by_cases hm : e.fr ∈ l
      · rw [if_pos hm] at ih
        rw [if_pos (List.mem_cons.2 (.inr hm))]
        omega
      · rw [if_neg hm] at ih
        split <;> omega
theorem costV_le {l : List Int} (h : l.Nodup) : ∀ E : List Eg, costV E l ≤ l.length + E.length
  | [] => by rw [costV_nil]; simp
  | e :: E => by
    have h1 := costV_cons e E l h
    have h2 := costV_le h E
    have : (if e.fr ∈ l then 1 else 0) ≤ 1 := by split <;> omega
    simp only [List.length_cons]
    omega
theorem pot_all {V : List Vt} (hs : SortB Vt.id V) (E : List Eg) (LS : List Lk) : potC (costP E) [] (uniP V LS) ≤ LS.length * (V.length + E.length) := by
  have hn : (V.map Vt.id).Nodup := (List.pairwise_map.2 hs : IncI (V.map Vt.id)).imp (fun h => by omega)
  rw [pot_nil]
  have h1 : ∀ (lab : ByteArray) (V : List Vt), ((V.map (fun v => (v.id, lab))).map (costP E)).sum = costV E (V.map Vt.id) := by
    intro lab V
    induction V with
    | nil => rfl
    | cons v V ih =>
      simp only [List.map_cons, List.sum_cons, ih]
      rfl
  have h2 := costV_le hn E
  rw [List.length_map] at h2
  unfold uniP
  induction LS with
  | nil => simp
  | cons l LS ih =>
    rw [List.flatMap_cons, List.map_append, List.sum_append, h1, List.length_cons, Nat.succ_mul]
    omega
/-- the steps that are enough, uncapped -/
def enoughP (V : List Vt) (E : List Eg) (NS : List Nd) (LS : List Lk) : Nat := NS.length + LS.length * (V.length + E.length) + (V.length + 1) ^ NS.length
/-- the vertices of the first nodes are found -/
theorem MrI.found {q : Mq} {u u' : World} {st : Option Nat} {ws : Ws} {a' : Option Addr} {c' : Nat} (h : MrI q u st [] [] (.slice none 0 0) [] (.slice none 0 0)) (hwB : q.wb < q.B) (hrB : q.B ≤ q.rb)
    (hA : kW2.App u q.B (.slice q.oa q.OF.length q.oc) (q.OF ++ [ws]) (.slice a' (q.OF.length + 1) c') u') (hw : FrX u q.B none ws) :
    (u'.heap[q.rb]? = u.heap[q.rb]?) ∧ MrI { q with oa := a', oc := c', OF := q.OF ++ [ws] } (u'.setCell ⟨q.rb, 3, none⟩ (.slice a' (q.OF.length + 1) c')) st [] [] (.slice none 0 0) [] (.slice none 0 0) ∧ Chg u (u'.setCell ⟨q.rb, 3, none⟩ (.slice a' (q.OF.length + 1) c')) (fun j => j = q.wb ∨ q.B ≤ j) := by
  obtain ⟨oA, gA, kA⟩ := hA
  have hwr : q.wb ≠ q.rb := fun e => by omega
  have hno : ∀ g, some g = (Value.slice q.oa q.OF.length q.oc).ownBlock → g ≠ q.rb ∧ g ≠ q.wb ∧ g ≠ q.mb := fun g e => by
    obtain ⟨cur, hg⟩ := ownW_block h.ofo e.symm
    exact h.sl_ne hg
  have hrb : u'.heap[q.rb]? = u.heap[q.rb]? := gA.block q.rb h.lt (fun e => (hno _ e).1 rfl)
  have hne : q.rb ≠ q.mb := fun e => by
    obtain ⟨es, cl, hm⟩ := h.mapB
    have hb := h.blk
    rw [e, hm] at hb
    cases hb
  have kb : ∀ (g : Nat), g < u.heap.size → g ≠ q.rb → some g ≠ (Value.slice q.oa q.OF.length q.oc).ownBlock → (u'.setCell ⟨q.rb, 3, none⟩ (.slice a' (q.OF.length + 1) c')).heap[g]? = u.heap[g]? := fun g hg h1 h2 => (Below.heap_setCell _ _ _ _ h1).trans (gA.block g hg h2)
  have hcc : Chg u (u'.setCell ⟨q.rb, 3, none⟩ (.slice a' (q.OF.length + 1) c')) (fun j => j = q.wb ∨ q.B ≤ j) := ⟨gA.os, gA.tape, gA.output, by have := gA.size; simpa using this, fun k hk hn => kb k hk (fun e => hn (.inr (by rw [e]; exact hrB))) (fun e => hn (.inr (h.ofo.lt k e.symm).1))⟩
  have ki : ∀ (g : Nat) (cur : Array Value), u.heap[g]? = some (.cells cur 3 (0, 0)) → (u'.setCell ⟨q.rb, 3, none⟩ (.slice a' (q.OF.length + 1) c')).heap[g]? = some (.cells cur 3 (0, 0)) := fun g cur hg => (kb g (Array.getElem?_eq_some_iff.1 hg).1 (h.int_ne hg).1 (fun e => by
    obtain ⟨cur', hg'⟩ := ownW_block h.ofo e.symm
    exact cells_ne hg hg' (by decide))).trans hg
  have kf : ∀ y, FrX u q.B none y → FrX (u'.setCell ⟨q.rb, 3, none⟩ (.slice a' (q.OF.length + 1) c')) q.B none y := fun y hy => hy.keep (fun g cur hg _ => ki g cur hg) (.inl rfl)
  have hl : (q.OF ++ [ws]).length = q.OF.length + 1 := by simp
  obtain ⟨f, m, hf⟩ := h.mp
  refine ⟨hrb, ⟨?_, ?_, ?_, fun y hy => ?_, ⟨f, m.of_block (kb q.mb m.lt hne.symm (fun e => (hno _ e).2.2 rfl)), hf⟩, (fun p hp => by cases hp), (fun _ p hp => by cases hp), (fun p hp => by cases hp), h.kn, (fun p hp => by cases hp), RowK.Own.nil kI _ _, by simp, (fun n hn => by cases hn), RowK.Own.nil kW2 _ _, (fun y hy => by cases hy), by simp, (fun j hj => by cases hj)⟩, hcc⟩
  · show (u'.setCell ⟨q.rb, 3, none⟩ (.slice a' (q.OF.length + 1) c')).heap[q.rb]? = some (.cells #[.pointer (some ⟨q.wb, 0, none⟩), .slice q.na q.NS.length q.nc, .slice q.la q.LS.length q.lc, .slice a' (q.OF ++ [ws]).length c', .map (some q.mb), .slice none 0 0, .slice none 0 0, .int .i64 q.most] 222 (0, 0))
    rw [hl, blk_setCell (hrb.trans h.blk) _]
    simp
  · refine h.wk.chgM (S := fun j => j ≠ q.wb ∧ q.B ≤ j) ⟨hcc.os, hcc.tape, hcc.output, hcc.size, fun k hk hn => ?_⟩ (fun e => e.1 rfl) (fun j hj => ?_)
    · by_cases e : k = q.wb
      · rw [e]; exact kb q.wb h.wk.lt hwr (fun e => (hno _ e).2.1 rfl)
      · exact hcc.block k hk (fun e2 => e2.elim e (fun e3 => hn ⟨e, e3⟩))
    · have h1 := h.wk.new
      have h2 := hj.2
      show q.w0.heap.size ≤ j
      omega
  · show kW2.Own _ q.B (.slice a' (q.OF ++ [ws]).length c') (q.OF ++ [ws])
    rw [hl]
    refine ownsRow_of_block oA (fun j hj => Below.heap_setCell _ _ _ _ (fun e => ?_))
    obtain ⟨cur, hg⟩ := ownW_block oA hj
    rw [e, hrb] at hg
    exact cells_ne hg h.blk (by decide)
  · rcases List.mem_append.1 hy with hy | hy
    · exact kf y (h.ofc y hy)
    · rw [List.mem_singleton.1 hy]; exact kf ws hw
end Go.Proofs.YtonilojjahfboaaGreat
namespace Go.Proofs.YtonilojjahfboaaGreat
open Go.RowKit Go.Maps

theorem on_any (q : Mq) (hq : q.Ok) : ∀ (m : Nat) (w : World) (st : Option Nat) (C : Ca) (row : List Int) (vr : Value) (out : List Ws) (vo : Value), row.length + m = q.NS.length → out.length ≤ q.most → MrI q w st C row vr out vo → q.Kp w → Calls Tryz.prog 128 #[.pointer (some ⟨q.rb, 0, none⟩)] w (OnPost q w m st C row out)
  | 0, w, st, C, row, vr, out, vo, h1, h2, h3, _ => on_whole q hq w st C row vr out vo (by omega) h2 h3
  | m + 1, w, st, C, row, vr, out, vo, h1, h2, h3, h4 => on_step q hq m (on_any q hq m) w st C row vr out vo h1 h2 h3 h4
/-- what Run tells -/
def RunT (V : List Vt) (E : List Eg) (NS : List Nd) (LS : List Lk) (st : Option Nat) (most : Nat) (code : Int) (R : List (List Int)) (st' : Option Nat) : Prop :=
  (code = 41 ∧ R = [] ∧ st' = none ∧ ∀ r, st = some r → r < enoughP V E NS LS) ∨ ∃ r r', st = some r ∧ st' = some r' ∧ ((code = 32 ∧ R = [] ∧ most < (rowsP V E NS LS).length) ∨ (code = 0 ∧ R = rowsP V E NS LS ∧ R.length ≤ most))
def RnP (w0 w : World) (wb gb : Nat) (st : Option Nat) (V : List Vt) (E : List Eg) (NS : List Nd) (LS : List Lk) (most : Nat) (e : Ending) (w' : World) : Prop :=
  ∃ a c R code st', e = .returned (.tuple #[.slice a (List.length R) c, .int .i64 code]) ∧ RunT V E NS LS st most code (R.map Ws.l) st' ∧ kW2.Own w' w.heap.size (.slice a R.length c) R ∧ (∀ x ∈ R, FreshI w.heap.size w' x.a x.l) ∧ WkS w0 w' wb gb st' ∧ Chg w w' (fun j => j = wb)
/-- the first nodes' vertices are found -/
structure FnI (q : Mq) (w : World) (st : Option Nat) (j : Nat) (u : World) : Prop where
  i : MrI q u (payS st j) [] [] (.slice none 0 0) [] (.slice none 0 0)
  n : q.OF.length = j
  v : ∀ x ∈ q.OF, x.l.length ≤ q.V.length ∧ ∀ n ∈ x.l, n ∈ q.V.map Vt.id
  o : (payS st j).isSome = true → q.OF.map Ws.l = (List.range j).map (candP q.V q.NS)
  c : Chg w u (fun i => i = q.wb ∨ q.B ≤ i)
theorem fitL_ids {V : List Vt} {lab key : ByteArray} {low high : Vl} : ∀ n ∈ fitL V lab key low high, n ∈ V.map Vt.id := fun n hn => by
  unfold fitL at hn
  obtain ⟨y, hy, rfl⟩ := List.mem_map.1 hn
  exact List.mem_map.2 ⟨y, (List.mem_filter.1 hy).1, rfl⟩
theorem candQ_eq {q : Mq} (h : q.OF.map Ws.l = (List.range q.NS.length).map (candP q.V q.NS)) : candQ q = candP q.V q.NS := by
  funext i
  have h1 := congrArg (fun l => l[i]?) h
  simp only [List.getElem?_map] at h1
  unfold candQ
  by_cases hi : i < q.NS.length
  · rw [List.getElem?_range hi] at h1
    cases hx : q.OF[i]? with
    | none => rw [hx] at h1; cases h1
    | some x =>
      rw [hx] at h1
      simpa using h1
  · rw [List.getElem?_eq_none (by simpa using hi : (List.range q.NS.length).length ≤ i)] at h1
    cases hx : q.OF[i]? with
    | none =>
      unfold candP
      rw [List.getElem?_eq_none (by omega)]
    | some x => rw [hx] at h1; cases h1
/-- what all comes to -/
theorem runT_fin (q : Mq) (hs : SortB Vt.id q.V) (st st' : Option Nat) (C' : Ca) (out' : List (List Int)) (hc : (payS st q.NS.length).isSome = true → candQ q = candP q.V q.NS) (h : OnR (candQ q) (tiedP q.E q.LS) q.V.length q.most q.NS.length [] (payS st q.NS.length) st' (potQ q []) (potQ q C') [] out') :
    (st' = none → RunT q.V q.E q.NS q.LS st q.most 41 [] none) ∧ (∀ r', st' = some r' → q.most < out'.length → RunT q.V q.E q.NS q.LS st q.most 32 [] (some r')) ∧ ∀ r', st' = some r' → out'.length ≤ q.most → RunT q.V q.E q.NS q.LS st q.most 0 out' (some r') := by
  obtain ⟨_, h⟩ := h
  rcases h with ⟨hn, hlt⟩ | ⟨r1, r', h1, h2, _, hH⟩
  · refine ⟨fun _ => .inl ⟨rfl, rfl, rfl, fun r hr => ?_⟩, fun r' e => (by rw [hn] at e; cases e), fun r' e => (by rw [hn] at e; cases e)⟩
    subst hr
    have hp := payT_le q.V.length q.NS.length
    have hq : potQ q [] ≤ q.LS.length * (q.V.length + q.E.length) := pot_all hs q.E q.LS
    unfold enoughP
    by_cases hk : q.NS.length ≤ r
    · have h3 := hlt (r - q.NS.length) (show (if q.NS.length ≤ r then some (r - q.NS.length) else none) = _ by rw [if_pos hk])
      omega
    · omega
  · have hc' := hc (by rw [h1]; rfl)
    rw [hc', List.nil_append, full_nil] at hH
    have hsome : ∃ r, st = some r := by
      cases st with
      | none => cases h1
      | some r => exact ⟨r, rfl⟩
    obtain ⟨r, hr⟩ := hsome
    refine ⟨fun e => (by rw [h2] at e; cases e), fun r2 e hm => .inr ⟨r, r2, hr, rfl, .inl ⟨rfl, rfl, ?_⟩⟩, fun r2 e hm => .inr ⟨r, r2, hr, rfl, .inr ⟨rfl, ?_, hm⟩⟩⟩
    · show q.most < (levR (candP q.V q.NS) (tiedP q.E q.LS) q.NS.length).length
      rcases hH with rfl | ⟨_, x, hx⟩
      · exact hm
      · rw [← hx, List.length_append]; omega
    · show out' = levR (candP q.V q.NS) (tiedP q.E q.LS) q.NS.length
      rcases hH with rfl | ⟨hm2, _⟩
      · rfl
      · omega
def Mq.wt (q : Mq) (oa : Option Addr) (oc : Nat) (OF : List Ws) : Mq := { q with oa := oa, oc := oc, OF := OF }
/-- the run begins -/
theorem MrI.init {q : Mq} {u : World} {st : Option Nat} (hoa : q.oa = none) (hOF : q.OF = []) (hoc : q.oc = 0) (hmb : q.mb = u.heap.size) (hrb : q.rb = u.heap.size + 1) (hw : WkS q.w0 u q.wb q.gb st) :
    MrI q ((u.alloc (.map #[] 0)).alloc (.cells #[.pointer (some ⟨q.wb, 0, none⟩), .slice q.na q.NS.length q.nc, .slice q.la q.LS.length q.lc, .slice none 0 0, .map (some u.heap.size), .slice none 0 0, .slice none 0 0, .int .i64 q.most] 222)) st [] [] (.slice none 0 0) [] (.slice none 0 0) := by
  have hb : Below u.heap.size u ((u.alloc (.map #[] 0)).alloc (.cells #[.pointer (some ⟨q.wb, 0, none⟩), .slice q.na q.NS.length q.nc, .slice q.la q.LS.length q.lc, .slice none 0 0, .map (some u.heap.size), .slice none 0 0, .slice none 0 0, .int .i64 q.most] 222)) := (below_box u _).alloc (by simp) _
  refine ⟨?_, hw.below hb, ?_, ?_, ⟨fun _ => none, ?_, fun id lab _ _ => rfl⟩, (fun p hp => by cases hp), (fun _ p hp => by cases hp), (fun p hp => by cases hp), List.nodup_nil, (fun p hp => by cases hp), RowK.Own.nil kI _ _, by simp, (fun n hn => by cases hn), RowK.Own.nil kW2 _ _, (fun y hy => by cases hy), by simp, (fun j hj => by cases hj)⟩
  · have := heap_new (u.alloc (.map #[] 0)) (.cells #[.pointer (some ⟨q.wb, 0, none⟩), .slice q.na q.NS.length q.nc, .slice q.la q.LS.length q.lc, .slice none 0 0, .map (some u.heap.size), .slice none 0 0, .slice none 0 0, .int .i64 q.most] 222)
    rw [size_alloc] at this
    rw [hrb, hmb, hoa, hOF, hoc]
    exact this
  · rw [hOF, hoa, hoc]; exact RowK.Own.nil kW2 _ _
  · rw [hOF]; intro x hx; cases hx
  · rw [hmb]
    exact (mapR_made u Tryz.prog 465).of_block (Below.heap_alloc _ _ _ (by simp))
set_option maxRecDepth 100000 in
set_option maxHeartbeats 8000000 in
theorem mrun_any (w0 w : World) (wb gb vb eb : Nat) (V : List Vt) (E : List Eg) (na la : Option Addr) (nc lc : Nat) (NS : List Nd) (LS : List Lk) (st : Option Nat) (most : Nat)
    (hG : GrC w0 gb vb eb V E) (hw : WkS w0 w wb gb st) (hn : kNd.V w na NS) (hl : kLk.V w la LS) (hnb : ∀ b off, na = some ⟨b, off, none⟩ → NS ≠ [] → b ≠ wb) (hlb : ∀ b off, la = some ⟨b, off, none⟩ → LS ≠ [] → b ≠ wb) (on : ∀ x ∈ NS, x.Ok) (ol : ∀ x ∈ LS, x.Ok) (hr : rightPat NS LS = true) (hm : most ≤ 4096) (hV : V.length ≤ 1000) (hE : E.length ≤ 1000) :
    Calls Tryz.prog 51 #[.pointer (some ⟨wb, 0, none⟩), .agg #[.slice na NS.length nc, .slice la LS.length lc], .int .i64 most] w (RnP w0 w wb gb st V E NS LS most) := by
  obtain ⟨⟨hr1, hr2, hr3⟩, hr4, hr5⟩ := rightPat_iff.1 hr
  obtain ⟨nn, hnn⟩ : ∃ n, n = NS.length := ⟨_, rfl⟩
  obtain ⟨nl, hnl⟩ : ∃ n, n = LS.length := ⟨_, rfl⟩
  have HNN : Hid (nn = NS.length ∧ 1 ≤ nn ∧ nn ≤ 8) := Lib.hid ⟨hnn, by omega, by omega⟩
  have HNL : Hid (nl = LS.length ∧ nl ≤ 16) := Lib.hid ⟨hnl, by omega⟩
  obtain ⟨W, hW⟩ : ∃ W, W = w.alloc (.cells #[.slice na NS.length nc, .slice la LS.length lc] 116) := ⟨_, rfl⟩
  obtain ⟨pb, hpb⟩ : ∃ b, b = w.heap.size := ⟨_, rfl⟩
  have e1 : W.heap[pb]? = some (.cells #[.slice na NS.length nc, .slice la LS.length lc] 116 (0, 0)) := by rw [hW, hpb]; exact heap_new w _
  have hBW : Below w.heap.size w W := by rw [hW]; exact below_box _ _
  have hwW := hw.below hBW
  have HMR : Hid (Calls Tryz.prog 57 #[.agg #[.slice na nn nc, .slice la nl lc]] W fun e w' => e = .returned (.bool true) ∧ Below W.heap.size W w') := Lib.hid (by
    rw [hnn, hnl, ← hr]
    exact mright_any na la nc lc NS LS W (hn.below hBW) (hl.below hBW) on ol (by omega) (by omega))
  rw [← hnn, ← hnl] at e1 hW ⊢
  have HPB : Hid (∀ u, Chg W u (fun j => j = wb) → u.cell? ⟨pb, 0, none⟩ = some (.slice na nn nc) ∧ u.cell? ⟨pb, 1, none⟩ = some (.slice la nl lc) ∧ pb < u.heap.size) := Lib.hid (fun u hu => by
    have g1 := (hu.block _ (Array.getElem?_eq_some_iff.1 e1).1 (fun e => by have := hw.lt; omega)).trans e1
    exact ⟨by rw [cell_of_blk g1]; rfl, by rw [cell_of_blk g1]; rfl, (Array.getElem?_eq_some_iff.1 g1).1⟩)
  have HW := Lib.hid hW
  have HPE := Lib.hid hpb
  have HBW := Lib.hid hBW
  have HWW := Lib.hid hwW
  have HWL := Lib.hid hw.lt
  have HG := Lib.hid hG
  have HN : Hid (∀ u, Chg w u (fun j => j = wb ∨ w.heap.size ≤ j) → kNd.V u na NS) := Lib.hid (fun u hu hne => by
    obtain ⟨b, off, rfl, hat⟩ := hn hne
    exact ⟨b, off, rfl, hat.of_block (hu.block b hat.lt (fun e => e.elim (hnb b off rfl hne) (fun e => by have := hat.lt; omega)))⟩)
  have HL : Hid (∀ u, Chg w u (fun j => j = wb ∨ w.heap.size ≤ j) → kLk.V u la LS) := Lib.hid (fun u hu hne => by
    obtain ⟨b, off, rfl, hat⟩ := hl hne
    exact ⟨b, off, rfl, hat.of_block (hu.block b hat.lt (fun e => e.elim (hlb b off rfl hne) (fun e => by have := hat.lt; omega)))⟩)
  have HLK := Lib.hid hr5
  have HOL := Lib.hid ol
  have HMO := Lib.hid hm
  have HVE : Hid (V.length ≤ 1000 ∧ E.length ≤ 1000) := Lib.hid ⟨hV, hE⟩
  have t1 : decide ((most : Int) < 0) = false := decide_eq_false (by omega)
  have t2 : decide (4096 < most) = false := decide_eq_false (by omega)
  have t2' : decide ((4096 : Int) < (most : Int)) = false := decide_eq_false (by omega)
  clear hr1 hr2 hr3 hr4 hr5 hr hnn hnl hW hpb hBW hwW hw hG hn hl hnb hlb on ol hm hV hE e1
  obtain ⟨p0, p1, pl⟩ := HPB.out W (Chg.refl _ _)
  have hmm := @run_makeMap Tryz.prog
  go_enter Tryz.func51, Tryz.ntmps51
  go_upto_region 1 with fail
  rw [← HW.out, ← HPE.out]
  go_upto_region 5 with (go_at_call 57; refine HMR.out.mono ?_; rintro e w1 ⟨rfl, hb1⟩; have HB1 := Lib.hid hb1; obtain ⟨x0, x1, xl⟩ := HPB.out w1 (Chg.of_below hb1 _); clear hb1)
  have HWU : Hid (WkS w0 w1 wb gb st) := Lib.hid (HWW.out.below HB1.out)
  have HSZ : Hid (w.heap.size < w1.heap.size ∧ Below w.heap.size w w1) := Lib.hid ⟨by have := HPE.out; omega, below_then HBW.out HB1.out⟩
  obtain ⟨rb, hrb⟩ : ∃ b, b = w1.heap.size + 1 := ⟨_, rfl⟩
  have HRB := Lib.hid hrb
  obtain ⟨Q, hQ⟩ : ∃ Q : Mq, Q = ⟨w0, wb, gb, vb, eb, V, E, na, la, nc, lc, NS, LS, w.heap.size, w1.heap.size + 1, w1.heap.size, none, 0, [], most⟩ := ⟨_, rfl⟩
  have HQ := Lib.hid hQ
  have HI0 := MrI.init (q := Q) (u := w1) (st := st) (by rw [hQ]) (by rw [hQ]) (by rw [hQ]) (by rw [hQ]) (by rw [hQ]) (by rw [hQ]; exact HWU.out)
  obtain ⟨W2, hW2⟩ : ∃ W2, W2 = (w1.alloc (.map #[] 0)).alloc (.cells #[.pointer (some ⟨wb, 0, none⟩), .slice na nn nc, .slice la nl lc, .slice none 0 0, .map (some w1.heap.size), .slice none 0 0, .slice none 0 0, .int .i64 most] 222) := ⟨_, rfl⟩
  have e2 : (w1.alloc (.map #[] 0)).alloc (.cells #[.pointer (some ⟨Q.wb, 0, none⟩), .slice Q.na Q.NS.length Q.nc, .slice Q.la Q.LS.length Q.lc, .slice none 0 0, .map (some w1.heap.size), .slice none 0 0, .slice none 0 0, .int .i64 Q.most] 222) = W2 := by rw [hQ, hW2, HNN.out.1, HNL.out.1]
  rw [e2] at HI0
  have HB2 : Hid (Below w1.heap.size w1 W2) := Lib.hid (by rw [hW2]; exact (below_box w1 _).alloc (by simp) _)
  have HW2 := Lib.hid hW2
  have HI := Lib.hid HI0
  have y0 := (HPB.out W2 ((Chg.of_below HB1.out _).trans (Chg.of_below HB2.out (fun _ => False)) (fun _ _ e => e.elim))).1
  have yl := (HPB.out W2 ((Chg.of_below HB1.out _).trans (Chg.of_below HB2.out (fun _ => False)) (fun _ _ e => e.elim))).2.2
  clear HI0 e2 hW2 hQ hrb p0 p1 pl
  go_upto_region 6 with fail
  rw [← HRB.out, ← HW2.out]
  have hnn9 : nn ≤ 1000 := by have := HNN.out; omega
  have HF0 : Hid (FnI (Q.wt none 0 []) w st 0 W2) := Lib.hid (by
    have hq : Q.wt none 0 [] = Q := by rw [HQ.out]; rfl
    rw [hq]
    refine ⟨by rw [payS_zero]; exact HI.out, by rw [HQ.out]; rfl, (by rw [HQ.out]; intro x hx; cases hx), (fun _ => by rw [HQ.out]; rfl), ?_⟩
    exact (Chg.of_below (below_then HSZ.out.2 HB2.out) _))
  go_wp2_with fail
  go_loopw [35] (fun i wr => ∃ (j : Nat) (oa : Option Addr) (oc : Nat) (OF : List Ws), i = .int .i64 j ∧ j ≤ nn ∧ Hid (FnI (Q.wt oa oc OF) w st j wr)) (fun i _ => nn - (intOf i).toNat)
  case atStart => exact ⟨0, none, 0, [], rfl, Nat.zero_le _, HF0⟩
  case round =>
    clear HF0 x0 x1 xl y0 yl
    obtain ⟨j, oa, oc, OF, rfl, hj, HF⟩ := hrel
    obtain ⟨wo, rfl⟩ : ∃ wo : World, wo = wr := ⟨_, rfl⟩
    have hj9 : j ≤ 1000 := Nat.le_trans hj hnn9
    by_cases hlt : j < nn
    · obtain ⟨x, hx⟩ : ∃ x, NS[j]? = some x := ⟨_, List.getElem?_eq_getElem (by rw [← HNN.out.1]; exact hlt)⟩
      have hcw : Chg w wo (fun j => j = wb ∨ w.heap.size ≤ j) := by
        have := HF.out.c
        rw [HQ.out] at this
        exact this
      obtain ⟨b, off, rfl, hat⟩ := HN.out wo hcw (fun e => by rw [e] at hx; simp at hx)
      obtain ⟨q0, q1, q2, q3, q4, q5, q6, q7⟩ := kNd_cells hat hx
      have ql := hat.lt
      have HX := Lib.hid hx
      obtain ⟨lab, key, low, high⟩ := x
      clear hx hat hcw
      go_upto_region 8 with fail
      go_upto_region 9 with fail
      obtain ⟨wn, hwn⟩ : ∃ wn, wn = wo.alloc (.cells #[.string lab, .string key, .int .i64 low.kind, .int .i64 low.n, .string low.s, .int .i64 high.kind, .int .i64 high.n, .string high.s] 100) := ⟨_, rfl⟩
      rw [← hwn]
      have hz := (heap_new wo (.cells #[.string lab, .string key, .int .i64 low.kind, .int .i64 low.n, .string low.s, .int .i64 high.kind, .int .i64 high.n, .string high.s] 100))
      rw [← hwn] at hz
      have hbn : Below wo.heap.size wo wn := by rw [hwn]; exact below_box _ _
      have HMN : Hid (MrI (Q.wt oa oc OF) wn.drew (payS st j) [] [] (.slice none 0 0) [] (.slice none 0 0)) := Lib.hid ((HF.out.i.below hbn).below (below_drewN (Below.refl _ _) 1))
      have HOFL : Hid (j = OF.length) := Lib.hid HF.out.n.symm
      have HQF : Hid ((Q.wt oa oc OF).wb = wb ∧ (Q.wt oa oc OF).gb = gb ∧ (Q.wt oa oc OF).w0 = w0 ∧ (Q.wt oa oc OF).B = w.heap.size ∧ (Q.wt oa oc OF).rb = rb ∧ (Q.wt oa oc OF).mb = w1.heap.size ∧ (Q.wt oa oc OF).V = V ∧ (Q.wt oa oc OF).NS = NS) := Lib.hid (by rw [HQ.out, HRB.out]; exact ⟨rfl, rfl, rfl, rfl, rfl, rfl, rfl, rfl⟩)
      have HLE : Hid (w.heap.size ≤ wn.drew.heap.size) := Lib.hid (by
        have h1 := HMN.out.lt
        rw [HQF.out.2.2.2.2.1, HRB.out] at h1
        have := HSZ.out.1
        omega)
      have HWK1 : Hid (WkS w0 wn.drew wb gb (payS st j)) := Lib.hid (by
        have h1 := HMN.out.wk
        rw [HQF.out.1, HQF.out.2.1, HQF.out.2.2.1] at h1
        exact h1)
      have HFD := Lib.hid (wfind_any w0 wn.drew wb gb vb eb V E (payS st j) lab key low high HG.out HWK1.out (by have := HVE.out.1; omega))
      have z0 : wn.cell? ⟨wo.heap.size, 0, none⟩ = some (.string lab) := by rw [cell_of_blk hz]; rfl
      have z1 : wn.cell? ⟨wo.heap.size, 1, none⟩ = some (.string key) := by rw [cell_of_blk hz]; rfl
      have z2 : wn.cell? ⟨wo.heap.size, 2, none⟩ = some (.int .i64 low.kind) := by rw [cell_of_blk hz]; rfl
      have z3 : wn.cell? ⟨wo.heap.size, 3, none⟩ = some (.int .i64 low.n) := by rw [cell_of_blk hz]; rfl
      have z4 : wn.cell? ⟨wo.heap.size, 4, none⟩ = some (.string low.s) := by rw [cell_of_blk hz]; rfl
      have z5 : wn.cell? ⟨wo.heap.size, 5, none⟩ = some (.int .i64 high.kind) := by rw [cell_of_blk hz]; rfl
      have z6 : wn.cell? ⟨wo.heap.size, 6, none⟩ = some (.int .i64 high.n) := by rw [cell_of_blk hz]; rfl
      have z7 : wn.cell? ⟨wo.heap.size, 7, none⟩ = some (.string high.s) := by rw [cell_of_blk hz]; rfl
      have d3 : wn.cell? ⟨rb, 3, none⟩ = some (.slice oa j oc) := by
        obtain ⟨_, _, _, h3, _⟩ := HMN.out.cells
        rw [HQF.out.2.2.2.2.1] at h3
        rw [HOFL.out]
        exact h3
      have dl : rb < wn.heap.size := by
        have h1 := HMN.out.lt
        rw [HQF.out.2.2.2.2.1] at h1
        exact h1
      have zl : wo.heap.size < wn.heap.size := (Array.getElem?_eq_some_iff.1 hz).1
      have HCH : Hid (Chg w wn (fun i => i = wb ∨ w.heap.size ≤ i)) := Lib.hid (by
        have h1 := HF.out.c
        rw [HQF.out.1, HQF.out.2.2.2.1] at h1
        exact h1.trans (Chg.of_below hbn (fun _ => False)) (fun _ _ e => e.elim))
      have HJ := Lib.hid hlt
      have HPA : Hid (payS (payS st j) 1 = payS st (j + 1)) := Lib.hid (payS_add _ _ _)
      have HFN : Hid (∀ (w2 u' : World) (a2 a8 : Option Addr) (c2 c8 : Nat) (l2 : List Int), l2 = (if (payS (payS st j) 1).isSome then fitL V lab key low high else []) → MrI (Q.wt oa oc OF) (w2.alloc (.cells #[.slice a2 l2.length c2] 42)) (payS (payS st j) 1) [] [] (.slice none 0 0) [] (.slice none 0 0) → FreshI wn.drew.heap.size w2 a2 l2 → Chg wn.drew w2 (fun i => i = wb) →
          kW2.App (w2.alloc (.cells #[.slice a2 l2.length c2] 42)) w.heap.size (.slice oa j oc) (OF ++ [⟨a2, c2, l2⟩]) (.slice a8 (OF.length + 1) c8) u' → u'.heap[rb]? = w2.heap[rb]? ∧ FnI (Q.wt a8 c8 (OF ++ [⟨a2, c2, l2⟩])) w st (j + 1) (u'.setCell ⟨rb, 3, none⟩ (.slice a8 (OF.length + 1) c8))) := Lib.hid (fun w2 u' a2 a8 c2 c8 l2 hl2 hm hfr hch hA => by
        have hfx : FrX (w2.alloc (.cells #[.slice a2 l2.length c2] 42)) (Q.wt oa oc OF).B none ⟨a2, c2, l2⟩ := by
          rw [HQF.out.2.2.2.1]
          exact ((FrX.of_fresh (x := ⟨a2, c2, l2⟩) hfr (fun g e => by cases e)).mono HLE.out).keep (fun g cur hg _ => (Below.heap_alloc _ _ _ (Array.getElem?_eq_some_iff.1 hg).1).trans hg) (.inl rfl)
        have hF := hm.found (ws := ⟨a2, c2, l2⟩) (a' := a8) (c' := c8) (u' := u') (by rw [HQF.out.1, HQF.out.2.2.2.1]; exact HWL.out) (by rw [HQF.out.2.2.2.1, HQF.out.2.2.2.2.1, HRB.out]; have := HSZ.out.1; omega) (by rw [HQF.out.2.2.2.1]; rw [HOFL.out] at hA; exact hA) hfx
        obtain ⟨f1, f2, f3⟩ := hF
        rw [HQF.out.2.2.2.2.1] at f1 f3
        rw [HQF.out.1, HQF.out.2.2.2.1] at f3
        have hlen : (OF ++ [(⟨a2, c2, l2⟩ : Ws)]).length = j + 1 := by rw [List.length_append, List.length_singleton, HOFL.out]
        have hs2 : rb < w2.heap.size := by have := hch.size; exact Nat.lt_of_lt_of_le dl this
        refine ⟨f1.trans (Below.heap_alloc _ _ _ hs2), ⟨by rw [← HPA.out, ← HQF.out.2.2.2.2.1]; exact f2, hlen, ?_, ?_, ?_⟩⟩
        · intro x hx
          rcases List.mem_append.1 hx with hx | hx
          · exact HF.out.v x hx
          · rw [List.mem_singleton.1 hx]
            show l2.length ≤ (Q.wt oa oc OF).V.length ∧ ∀ n ∈ l2, n ∈ (Q.wt oa oc OF).V.map Vt.id
            rw [HQF.out.2.2.2.2.2.2.1, hl2]
            split
            · exact ⟨fitL_len _ _ _ _ _, fitL_ids⟩
            · exact ⟨Nat.zero_le _, fun n hn => by cases hn⟩
        · intro hs
          have hs1 : (payS (payS st j) 1).isSome = true := by rw [HPA.out]; exact hs
          have hs0 : (payS st j).isSome = true := by
            cases h : payS st j with
            | none => rw [h] at hs1; exact hs1
            | some _ => rfl
          have ho := HF.out.o hs0
          show (OF ++ [(⟨a2, c2, l2⟩ : Ws)]).map Ws.l = (List.range (j + 1)).map (candP (Q.wt oa oc OF).V (Q.wt oa oc OF).NS)
          rw [List.map_append, List.range_succ, List.map_append]
          have hc : candP (Q.wt oa oc OF).V (Q.wt oa oc OF).NS j = l2 := by
            rw [HQF.out.2.2.2.2.2.2.1, HQF.out.2.2.2.2.2.2.2, hl2, if_pos hs1]
            unfold candP
            rw [HX.out]
          rw [List.map_singleton, List.map_singleton, hc]
          congr 1
        · have h1 : Chg wn w2 (fun i => i = wb) := (Chg.refl wn (fun i => i = wb)).drew.trans hch (fun _ _ e => e)
          have h2 : Chg w w2 (fun i => i = wb ∨ w.heap.size ≤ i) := HCH.out.trans h1 (fun _ _ e => .inl e)
          have h3 := (h2.trans (Chg.of_below (below_box w2 (.cells #[.slice a2 l2.length c2] 42)) (fun _ => False)) (fun _ _ e => e.elim)).trans f3 (fun _ _ e => e)
          show Chg w _ (fun i => i = (Q.wt oa oc OF).wb ∨ (Q.wt oa oc OF).B ≤ i)
          rw [HQF.out.1, HQF.out.2.2.2.1]
          exact h3)
      have HARM : Hid (∀ (w2 : World) (a2 : Option Addr) (c2 : Nat) (l2 : List Int), l2 = (if (payS (payS st j) 1).isSome then fitL V lab key low high else []) → FreshI wn.drew.heap.size w2 a2 l2 → WkS w0 w2 wb gb (payS (payS st j) 1) → Chg wn.drew w2 (fun i => i = wb) →
          Hid (l2 = (if (payS (payS st j) 1).isSome then fitL V lab key low high else [])) ∧ Hid (FreshI wn.drew.heap.size w2 a2 l2) ∧ Hid (Chg wn.drew w2 (fun i => i = wb)) ∧ Hid (∃ cur, w2.heap[rb]? = some (.cells cur 222 (0, 0))) ∧ w2.cell? ⟨rb, 3, none⟩ = some (.slice oa j oc) ∧ rb < w2.heap.size ∧ (w2.alloc (.cells #[.slice a2 l2.length c2] 42)).cell? ⟨rb, 3, none⟩ = some (.slice oa j oc) ∧
          Hid (MrI (Q.wt oa oc OF) (w2.alloc (.cells #[.slice a2 l2.length c2] 42)) (payS (payS st j) 1) [] [] (.slice none 0 0) [] (.slice none 0 0)) ∧ Hid (kW2.Own (w2.alloc (.cells #[.slice a2 l2.length c2] 42)) w.heap.size (.slice oa j oc) OF) ∧ Hid (kW2.V (w2.alloc (.cells #[.slice a2 l2.length c2] 42)) (some ⟨w2.heap.size, 0, none⟩) [⟨a2, c2, l2⟩]) ∧ Hid (w.heap.size ≤ (w2.alloc (.cells #[.slice a2 l2.length c2] 42)).heap.size)) := Lib.hid (fun w2 a2 c2 l2 hl2 hfr hwk hch => by
        have hM2 := HMN.out.paid (u' := w2) (st' := payS (payS st j) 1) (by rw [HQF.out.1, HQF.out.2.2.2.2.1, HRB.out]; have := HSZ.out.1; have := HWL.out; omega) (by rw [HQF.out.1, HQF.out.2.2.2.2.2.1]; have := HSZ.out.1; have := HWL.out; omega) (by rw [HQF.out.2.2.2.2.1, HQF.out.2.2.2.2.2.1, HRB.out]; omega) (by rw [HQF.out.1]; exact hch) (by rw [HQF.out.1, HQF.out.2.1, HQF.out.2.2.1]; exact hwk) (fun e => by
          cases h : payS st j with
          | none => rw [h] at e; exact e
          | some _ => rfl)
        have hbk : ∃ cur, w2.heap[rb]? = some (.cells cur 222 (0, 0)) := by
          have := hM2.blk
          rw [HQF.out.2.2.2.2.1] at this
          exact ⟨_, this⟩
        have e3 : w2.cell? ⟨rb, 3, none⟩ = some (.slice oa j oc) := by
          obtain ⟨_, _, _, h3, _⟩ := hM2.cells
          rw [HQF.out.2.2.2.2.1] at h3
          rw [HOFL.out]
          exact h3
        have ez : rb < w2.heap.size := by
          obtain ⟨cur, h⟩ := hbk
          exact (Array.getElem?_eq_some_iff.1 h).1
        have hM3 := hM2.below (below_box w2 (.cells #[.slice a2 l2.length c2] 42))
        refine ⟨Lib.hid hl2, Lib.hid hfr, Lib.hid hch, Lib.hid hbk, e3, ez, below_cell (below_box w2 _) 3 ez e3, Lib.hid hM3, Lib.hid ?_, Lib.hid (fun _ => ⟨_, 0, rfl, RowK.new_at (heap_new _ _) rfl⟩), Lib.hid ?_⟩
        · have := hM3.ofo
          rw [HQF.out.2.2.2.1] at this
          rw [HOFL.out]
          exact this
        · have := HLE.out
          have := hch.size
          rw [size_alloc]
          omega)
      clear hz hbn hwn hlt
      go_region_law (first
        | (refine RowK.step_app (k := kW2) (B := w.heap.size) (v := .slice oa j oc) (l := OF) rfl (.tmp 43) (.tmp 47) rfl rfl HO2.out (some ⟨w2.heap.size, 0, none⟩) 1 [⟨a2, c2, l2⟩] 1 rfl rfl HV2.out (fun e => by cases e) (by have := HOFL.out; simp; omega) HB2.out ?_; intro v8 w8 hA; obtain ⟨a8, c8, hv8⟩ := hA.1.shape; rw [List.length_append, List.length_singleton] at hv8; subst hv8; have hE := HFN.out w2 w8 a2 a8 c2 c8 l2 HL2.out HM2.out HFR.out HC2.out hA; have y3 := (World.cell?_of_block (a := ⟨rb, 3, none⟩) hE.1).trans e3; have g3 : w8.frozen? ⟨rb, 3, none⟩ = false := (by obtain ⟨cur, h⟩ := HBK.out; exact frozen_of_blk (hE.1.trans h) 3); have zr : rb < w8.heap.size := (by obtain ⟨cur, h⟩ := HBK.out; exact (Array.getElem?_eq_some_iff.1 (hE.1.trans h)).1); have HE := Lib.hid hE.2; clear hA hE)
        | (go_simp; refine HFD.out.mono ?_; rintro e w2 ⟨a2, c2, l2, rfl, hl2, hfr, hwk, hch⟩; obtain ⟨HL2, HFR, HC2, HBK, e3, ez, e3', HM2, HO2, HV2, HB2⟩ := HARM.out w2 a2 c2 l2 hl2 hfr hwk hch; clear hl2 hfr hwk hch; dsimp only))
      all_goals
        go_wp2_with fail
        exact ⟨⟨j + 1, a8, c8, OF ++ [⟨a2, c2, l2⟩], by go_num, HJ.out, HE⟩, by simp [intOf]; have := HJ.out; omega⟩
    · obtain rfl : j = nn := by omega
      obtain ⟨q, hq⟩ : ∃ q : Mq, q = Q.wt oa oc OF := ⟨_, rfl⟩
      have HQF : Hid (q.wb = wb ∧ q.gb = gb ∧ q.w0 = w0 ∧ q.B = w.heap.size ∧ q.rb = rb ∧ q.mb = w1.heap.size ∧ q.V = V ∧ q.NS = NS ∧ q.E = E ∧ q.LS = LS ∧ q.most = most) := Lib.hid (by rw [hq, HQ.out, HRB.out]; exact ⟨rfl, rfl, rfl, rfl, rfl, rfl, rfl, rfl, rfl, rfl, rfl⟩)
      rw [← hq] at HF
      have HOK : Hid q.Ok := Lib.hid (by
        have hv := HF.out.v
        refine ⟨by rw [hq, HQ.out]; exact HG.out, by rw [HQF.out.1, HQF.out.2.2.2.1]; exact HWL.out, ?_, ?_, ?_, ?_, ?_, ?_, ?_, ?_, ?_, fun x hx => (hv x hx).1, fun x hx => (hv x hx).2, ?_⟩
        · rw [HQF.out.2.2.2.1, HQF.out.2.2.2.2.1, HRB.out]; have := HSZ.out.1; omega
        · rw [HQF.out.2.2.2.1, HQF.out.2.2.2.2.2.1]; have := HSZ.out.1; omega
        · rw [HQF.out.2.2.2.2.2.2.1]; exact HVE.out.1
        · rw [HQF.out.2.2.2.2.2.2.2.2.1]; exact HVE.out.2
        · rw [HQF.out.2.2.2.2.2.2.2.2.2.1]; have := HNL.out; omega
        · rw [HQF.out.2.2.2.2.2.2.2.2.2.1, HQF.out.2.2.2.2.2.2.2.1]; exact HLK.out
        · rw [HQF.out.2.2.2.2.2.2.2.2.2.1]; intro l hl; have h1 := (HOL.out l hl).2.2; have : (1048576 : Nat) ≤ maxLen := by decide
          omega
        · rw [HF.out.n, HQF.out.2.2.2.2.2.2.2.1]; exact HNN.out.1
        · rw [HQF.out.2.2.2.2.2.2.2.1]; have := HNN.out; omega
        · rw [HQF.out.2.2.2.2.2.2.2.2.2.2]; exact HMO.out)
      have HON : Hid (Calls Tryz.prog 128 #[.pointer (some ⟨rb, 0, none⟩)] wo (OnPost q wo j (payS st j) [] [] [])) := Lib.hid (by
        have h1 := on_any q HOK.out j wo (payS st j) [] [] (.slice none 0 0) [] (.slice none 0 0) (by rw [HQF.out.2.2.2.2.2.2.2.1, ← HNN.out.1]; simp) (Nat.zero_le _) HF.out.i (fun u hu => by
          have h2 := HF.out.c.trans hu (fun _ _ e => e)
          rw [HQF.out.1, HQF.out.2.2.2.1] at h2
          have h3 := HL.out u h2
          rw [hq, HQ.out]
          exact h3)
        rw [HQF.out.2.2.2.2.1] at h1
        exact h1)
      clear hq hlt hj hj9
      go_wp2_with fail
      refine HON.out.mono ?_
      rintro e w3 ⟨rfl, st', C', vr', out', vo', hR, hm, hch⟩
      have HR := Lib.hid hR
      have HM := Lib.hid hm
      have HFIN := Lib.hid (runT_fin q (by rw [HQF.out.2.2.2.2.2.2.1]; exact HG.out.ok.sv) st st' C' (out'.map Ws.l) (fun e => by
        have h1 := HF.out.o (by rw [HNN.out.1, ← HQF.out.2.2.2.2.2.2.2.1]; exact e)
        rw [HNN.out.1, ← HQF.out.2.2.2.2.2.2.2.1] at h1
        exact candQ_eq h1) (by
        rw [HNN.out.1] at hR
        rw [HQF.out.2.2.2.2.2.2.2.1]
        exact hR))
      have HCH : Hid (Chg w w3 (fun i => i = wb)) := Lib.hid (by
        have h1 := HF.out.c.trans hch (fun _ _ e => e)
        rw [HQF.out.1, HQF.out.2.2.2.1] at h1
        exact h1.mono (fun i hi e => e.elim id (fun e => by omega)))
      have HWS : Hid (WkS w0 w3 wb gb st') := Lib.hid (by
        have h1 := hm.wk
        rw [HQF.out.1, HQF.out.2.1, HQF.out.2.2.1] at h1
        exact h1)
      have HSP := Lib.hid (spent_any w0 w3 wb gb st' HWS.out)
      obtain ⟨_, _, _, _, _, _, c6, _, cl⟩ := hm.cells
      rw [HQF.out.2.2.2.2.1] at c6 cl
      obtain ⟨oa3, oc3, hvo⟩ := hm.outo.shape
      subst hvo
      obtain ⟨no, hno⟩ : ∃ n, n = out'.length := ⟨_, rfl⟩
      rw [← hno] at c6
      have HNO : Hid (no = out'.length ∧ no ≤ 4097) := Lib.hid ⟨hno, by have h1 := hm.ol; rw [HQF.out.2.2.2.2.2.2.2.2.2.2] at h1; have := HMO.out; omega⟩
      have hno9 : no ≤ 1000000 := by have := HNO.out.2; omega
      clear hR hm hch hno
      cases st' with
      | none =>
        go_wp2_with (go_at_call 42; (with_reducible refine HSP.out.mono ?_); rintro e w4 ⟨rfl, rfl⟩)
        go_ret2
        have h1 := HFIN.out.1 trivial
        rw [HQF.out.2.2.2.2.2.2.1, HQF.out.2.2.2.2.2.2.2.1, HQF.out.2.2.2.2.2.2.2.2.1, HQF.out.2.2.2.2.2.2.2.2.2.1, HQF.out.2.2.2.2.2.2.2.2.2.2] at h1
        exact ⟨none, 0, [], 41, none, rfl, h1, RowK.Own.nil kW2 _ _, (fun x hx => by cases hx), HWS.out, HCH.out⟩
      | some r' =>
        by_cases hm : most < no
        · have s1 : decide ((most : Int) < (no : Int)) = true := decide_eq_true (by omega)
          have s1' : decide (most < no) = true := decide_eq_true hm
          have h1 := HFIN.out.2.1 r' rfl (by rw [List.length_map, ← HNO.out.1, HQF.out.2.2.2.2.2.2.2.2.2.2]; exact hm)
          rw [HQF.out.2.2.2.2.2.2.1, HQF.out.2.2.2.2.2.2.2.1, HQF.out.2.2.2.2.2.2.2.2.1, HQF.out.2.2.2.2.2.2.2.2.2.1, HQF.out.2.2.2.2.2.2.2.2.2.2] at h1
          have H1 := Lib.hid h1
          clear hm h1
          go_wp2_with (go_at_call 42; (with_reducible refine HSP.out.mono ?_); rintro e w4 ⟨rfl, rfl⟩)
          go_ret2
          exact ⟨none, 0, [], 32, some r', rfl, H1.out, RowK.Own.nil kW2 _ _, (fun x hx => by cases hx), HWS.out, HCH.out⟩
        · have s1 : decide ((most : Int) < (no : Int)) = false := decide_eq_false (by omega)
          have s1' : decide (most < no) = false := decide_eq_false hm
          have h1 := HFIN.out.2.2 r' rfl (by rw [List.length_map, ← HNO.out.1, HQF.out.2.2.2.2.2.2.2.2.2.2]; omega)
          rw [HQF.out.2.2.2.2.2.2.1, HQF.out.2.2.2.2.2.2.2.1, HQF.out.2.2.2.2.2.2.2.2.1, HQF.out.2.2.2.2.2.2.2.2.2.1, HQF.out.2.2.2.2.2.2.2.2.2.2] at h1
          have H1 := Lib.hid h1
          clear hm h1
          go_wp2_with (go_at_call 42; (with_reducible refine HSP.out.mono ?_); rintro e w4 ⟨rfl, rfl⟩)
          go_ret2
          refine ⟨oa3, oc3, out', 0, some r', by rw [HNO.out.1]; rfl, H1.out, ?_, ?_, HWS.out, HCH.out⟩
          · have := HM.out.outo
            rw [HQF.out.2.2.2.1] at this
            exact this
          · intro x hx
            have := (HM.out.outc x hx).fresh
            rw [HQF.out.2.2.2.1] at this
            exact this
set_option maxRecDepth 100000 in
set_option maxHeartbeats 1000000 in
theorem mrun_nil (na la : Option Addr) (nc lc nn nl : Nat) (most : Int) (w : World) : Calls Tryz.prog 51 #[.pointer none, .agg #[.slice na nn nc, .slice la nl lc], .int .i64 most] w fun e w' => e = .returned (.tuple #[.slice none 0 0, .int .i64 1]) ∧ Below w.heap.size w w' := by
  go_enter Tryz.func51, Tryz.ntmps51
  go_wp2_with fail
  go_ret2
  exact ⟨rfl, below_box w _⟩
set_option maxRecDepth 100000 in
set_option maxHeartbeats 2000000 in
theorem mrun_bad (w : World) (wb : Nat) (na la : Option Addr) (nc lc : Nat) (NS : List Nd) (LS : List Lk) (most : Int)
    (hn : kNd.V w na NS) (hl : kLk.V w la LS) (on : ∀ x ∈ NS, x.Ok) (ol : ∀ x ∈ LS, x.Ok) (l1 : NS.length ≤ 1000) (l2 : LS.length ≤ 1000) (hr : rightPat NS LS = false ∨ most < 0 ∨ 4096 < most) :
    Calls Tryz.prog 51 #[.pointer (some ⟨wb, 0, none⟩), .agg #[.slice na NS.length nc, .slice la LS.length lc], .int .i64 most] w fun e w' => e = .returned (.tuple #[.slice none 0 0, .int .i64 2]) ∧ Below w.heap.size w w' := by
  obtain ⟨nn, hnn⟩ : ∃ n, n = NS.length := ⟨_, rfl⟩
  obtain ⟨nl, hnl⟩ : ∃ n, n = LS.length := ⟨_, rfl⟩
  obtain ⟨W, hW⟩ : ∃ W, W = w.alloc (.cells #[.slice na NS.length nc, .slice la LS.length lc] 116) := ⟨_, rfl⟩
  obtain ⟨pb, hpb⟩ : ∃ b, b = w.heap.size := ⟨_, rfl⟩
  have e1 : W.heap[pb]? = some (.cells #[.slice na NS.length nc, .slice la LS.length lc] 116 (0, 0)) := by rw [hW, hpb]; exact heap_new w _
  have hBW : Below w.heap.size w W := by rw [hW]; exact below_box _ _
  obtain ⟨rt, hrt⟩ : ∃ b, b = rightPat NS LS := ⟨_, rfl⟩
  have HMR : Hid (Calls Tryz.prog 57 #[.agg #[.slice na nn nc, .slice la nl lc]] W fun e w' => e = .returned (.bool rt) ∧ Below W.heap.size W w') := Lib.hid (by
    rw [hnn, hnl, hrt]
    exact mright_any na la nc lc NS LS W (hn.below hBW) (hl.below hBW) on ol l1 l2)
  rw [← hnn, ← hnl] at e1 hW ⊢
  rw [← hrt] at hr
  have HPB : Hid (W.cell? ⟨pb, 0, none⟩ = some (.slice na nn nc) ∧ W.cell? ⟨pb, 1, none⟩ = some (.slice la nl lc) ∧ pb < W.heap.size) := Lib.hid ⟨by rw [cell_of_blk e1]; rfl, by rw [cell_of_blk e1]; rfl, (Array.getElem?_eq_some_iff.1 e1).1⟩
  have HW := Lib.hid hW
  have HPE := Lib.hid hpb
  have HBW := Lib.hid hBW
  have HRR := Lib.hid hr
  clear hnn hnl hW hpb hBW hn hl on ol l1 l2 e1 hr hrt
  obtain ⟨p0, p1, pl⟩ := HPB.out
  go_enter Tryz.func51, Tryz.ntmps51
  go_upto_region 3 with fail
  rw [← HW.out, ← HPE.out]
  cases rt with
  | false =>
    go_wp2_with (go_at_call 57; (refine HMR.out.mono ?_); rintro e w1 ⟨rfl, hb1⟩; have HB1 := Lib.hid hb1; clear hb1)
    go_ret2
    exact ⟨rfl, below_then HBW.out HB1.out⟩
  | true =>
    by_cases h1 : most < 0
    · have t1 : decide (most < 0) = true := decide_eq_true h1
      clear h1 HRR
      go_wp2_with (go_at_call 57; (refine HMR.out.mono ?_); rintro e w1 ⟨rfl, hb1⟩; have HB1 := Lib.hid hb1; clear hb1)
      go_ret2
      exact ⟨rfl, below_then HBW.out HB1.out⟩
    · have t1 : decide (most < 0) = false := decide_eq_false h1
      have t2 : decide (4096 < most) = true := decide_eq_true (by
        rcases HRR.out with h | h | h
        · cases h
        · omega
        · exact h)
      clear h1 HRR
      go_wp2_with (go_at_call 57; (refine HMR.out.mono ?_); rintro e w1 ⟨rfl, hb1⟩; have HB1 := Lib.hid hb1; clear hb1)
      go_ret2
      exact ⟨rfl, below_then HBW.out HB1.out⟩
end Go.Proofs.YtonilojjahfboaaGreat
