/- (*occ.Txn).Abort, Record. Conditions: each contract's own premises. -/
import Derived.Test.YtkhkdedjffkhdaaGreatOcS
namespace Go.Proofs.YtkhkdedjffkhdaaGreat
open Go.RowKit Go.Maps

section
variable {w : World} {a : Ta} {T : Tn} {P : Ps} {s : Sto}
set_option maxRecDepth 100000 in
theorem ocabort_late (h : TxC w a.m T) (hp : 4 ≤ T.ph) : Calls Tryz.prog 30 #[.pointer (some ⟨a.m.tb, 0, none⟩)] w fun e w' => e = .returned (.int .i64 200) ∧ w = w' := by
  obtain ⟨k0, k1, k2, c3, k4, k5, k6, k7, k8, k9, k10, cl⟩ := h.cell
  obtain ⟨ph, hph⟩ : ∃ p, p = T.ph := ⟨_, rfl⟩
  rw [← hph] at c3 hp
  have t1 : decide (4 ≤ ph) = true := decide_eq_true hp
  have t2 : decide (ph < 4) = false := decide_eq_false (by omega)
  clear h k0 k1 k2 k4 k5 k6 k7 k8 k9 k10 hph
  go_enter Tryz.func30, Tryz.ntmps30
  go_wp2_with fail
  go_ret
  exact ⟨rfl, rfl⟩
set_option maxRecDepth 100000 in
theorem ocabort_ok (h : OcA w a T P s) (hp : T.ph < 4) (hn : s.cnt ≤ 1000) (hc : s.c ≤ 1000000) : Calls Tryz.prog 30 #[.pointer (some ⟨a.m.tb, 0, none⟩)] w (OvE 0 w a T P s) := by
  obtain ⟨k0, k1, k2, c3, k4, k5, k6, k7, k8, k9, k10, cl⟩ := h.mm.t.cell
  have HOV := Lib.hid (over_any h hn hc)
  obtain ⟨ph, hph⟩ : ∃ p, p = T.ph := ⟨_, rfl⟩
  rw [← hph] at c3 hp
  have t1 : decide (4 ≤ ph) = false := decide_eq_false (by omega)
  have t2 : decide (ph < 4) = true := decide_eq_true hp
  clear h k0 k1 k2 k4 k5 k6 k7 k8 k9 k10 hph hn hc
  go_enter Tryz.func30, Tryz.ntmps30
  go_wp2_with fail
  refine HOV.out.mono ?_
  rintro e w3 ⟨rfl, hp2⟩
  have HP2 := Lib.hid hp2
  clear hp2
  go_wp2_with fail
  go_ret
  exact ⟨rfl, rfl, HP2.out⟩
def RcPst (w : World) (T : Tn) (e : Ending) (w' : World) : Prop := ∃ a c, e = .returned (.agg #[.int .u64 T.st, .slice a T.W.length c]) ∧ kW.Own w' w.heap.size (.slice a T.W.length c) T.W ∧ Below w.heap.size w w'
set_option maxRecDepth 100000 in
set_option maxHeartbeats 2000000 in
theorem ocrecord_any {m : Tm} (h : TxC w m T) (hl : T.W.length ≤ 100000) : Calls Tryz.prog 12 #[.pointer (some ⟨m.tb, 0, none⟩)] w (RcPst w T) := by
  obtain ⟨nW, hnW⟩ : ∃ n, n = T.W.length := ⟨_, rfl⟩
  have HNW := Lib.hid hnW
  have HFC : Hid (∀ u, Below w.heap.size w u → u.cell? ⟨m.tb, 4, none⟩ = some (.slice m.wa nW m.wc) ∧ u.cell? ⟨m.tb, 9, none⟩ = some (.int .u64 T.st) ∧ m.tb < u.heap.size) := Lib.hid (fun u hu => by
    obtain ⟨_, _, _, _, k4, _, _, _, _, k9, _, kl⟩ := (h.below hu).cell
    rw [← hnW] at k4
    exact ⟨k4, k9, kl⟩)
  have HCL : Hid (∀ v, Below w.heap.size w v → Calls Tryz.prog 35 #[.slice m.wa nW m.wc] v (CwPost v T.W)) := Lib.hid (fun v hv => by
    have ho := (h.below hv).wo
    rw [hnW]
    refine cloneW_any m.wa m.wc T.W v ho.toV (fun e => ?_) (by omega)
    rw [e] at ho
    refine ⟨RowK.Own.noneCap ho, ?_⟩
    cases hl : T.W with
    | nil => rfl
    | cons x l =>
      obtain ⟨b', c', e9, _⟩ := ho.at' (fun e => by rw [hl] at e; cases e)
      cases e9)
  clear h hl hnW
  go_enter Tryz.func12, Tryz.ntmps12
  go_upto_region 1 with fail
  obtain ⟨rb, hrb⟩ : ∃ b, b = w.heap.size := ⟨_, rfl⟩
  obtain ⟨W, hW⟩ : ∃ W, W = w.alloc (.cells #[.int .u64 0, .slice none 0 0] 61) := ⟨_, rfl⟩
  rw [← hW, ← hrb]
  have HWB : Hid (W.heap[rb]? = some (.cells #[.int .u64 0, .slice none 0 0] 61 (0, 0)) ∧ Below w.heap.size w W ∧ w.heap.size ≤ rb) := Lib.hid ⟨by rw [hW, hrb]; exact heap_new w _, by rw [hW]; exact below_box w _, by rw [hrb]; exact Nat.le_refl _⟩
  clear hW hrb
  obtain ⟨k4, k9, kl⟩ := HFC.out W HWB.out.2.1
  go_region_with (go_at_call 35; refine (HCL.out _ (below_then HWB.out.2.1 (Below.refl _ _).drew)).mono ?_; rintro e w2 ⟨a2, c2, rfl, ho, hb⟩; rw [← HNW.out] at ho ⊢; have hb2 := below_then (show Below W.heap.size W _ from (Below.refl _ _).drew) hb; have hr2 := (hb2.block _ (Array.getElem?_eq_some_iff.1 HWB.out.1).1).trans HWB.out.1; have z0 := cell_of_blk hr2 0; have z1 := cell_of_blk hr2 1; have f0 := frozen_of_blk hr2 0; have f1 := frozen_of_blk hr2 1; have zl := (Array.getElem?_eq_some_iff.1 hr2).1; simp at z0 z1; obtain ⟨m4, m9, ml⟩ := HFC.out w2 (below_then HWB.out.2.1 hb2); have HO := Lib.hid (And.intro ho (And.intro hb2 hr2)); clear ho hb hb2 hr2)
  all_goals (
    have hc : Chg w2 ((w2.setCell ⟨rb, 0, none⟩ (.int .u64 T.st)).setCell ⟨rb, 1, none⟩ (.slice a2 nW c2)) (fun j => j = rb) := ((Chg.refl w2 (fun j => j = rb)).setCell (p := ⟨rb, 0, none⟩) (fun _ => rfl) _).setCell (p := ⟨rb, 1, none⟩) (fun _ => rfl) _
    have hbk : ((w2.setCell ⟨rb, 0, none⟩ (.int .u64 T.st)).setCell ⟨rb, 1, none⟩ (.slice a2 nW c2)).heap[rb]? = some (.cells #[.int .u64 T.st, .slice a2 nW c2] 61 (0, 0)) := by
      rw [blk_setCell (blk_setCell HO.out.2.2 _) _]
      simp
    have r0 := cell_of_blk hbk 0
    have r1 := cell_of_blk hbk 1
    simp at r0 r1
    have hfin : RcPst w T (.returned (.agg #[.int .u64 T.st, .slice a2 nW c2])) ((w2.setCell ⟨rb, 0, none⟩ (.int .u64 T.st)).setCell ⟨rb, 1, none⟩ (.slice a2 nW c2)) := by
      refine ⟨a2, c2, by rw [HNW.out], ?_, chg_fresh hc (below_then HWB.out.2.1 HO.out.2.1) (Nat.le_refl _) (fun j e => by rw [e]; exact HWB.out.2.2)⟩
      rw [← HNW.out]
      refine RowK.Own.mono (RowK.Own.chg HO.out.1 hc (fun j hj e => ?_)) (show w.heap.size ≤ _ from HWB.out.2.1.size)
      have h1 := (HO.out.1.lt j hj).1
      have h2 := (Array.getElem?_eq_some_iff.1 HWB.out.1).1
      have h3 : j = rb := e
      have h4 : W.drew.heap.size = W.heap.size := rfl
      omega
    go_wp2_with fail
    refine bodyPost_ret (v := .agg #[.int .u64 T.st, .slice a2 nW c2]) (by simp [results, Tryz.results12, go_sem, r0, r1]) rfl hfin)
end
end Go.Proofs.YtkhkdedjffkhdaaGreat
