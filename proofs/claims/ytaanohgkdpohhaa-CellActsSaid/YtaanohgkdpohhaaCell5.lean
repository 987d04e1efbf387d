/- The store of package cell: Install. Conditions: each contract's own premises. -/
import Derived.Test.YtaanohgkdpohhaaCell4
namespace Go.Proofs.Ytaanohgkdpohhaa
open Go.RowKit Go.Maps

theorem stamp_sm (t : Nat) (w : World) (h : Sm t) : Calls Try.prog 80 #[.int .u64 t] w fun e w' => e = .returned (.int .u64 t) ∧ w = w' := by
  unfold Sm at h
  refine (stamp_num t w (by omega)).mono ?_
  rintro e w' ⟨rfl, rfl⟩
  exact ⟨by rw [Nat.mod_eq_of_lt h], rfl⟩
theorem absent_num (t : Nat) (is : Bool) (w : World) (h : Sm t) : Calls Try.prog 78 #[.int .u64 t, .bool is] w fun e w' => e = .returned (.int .u64 (wd t false is)) ∧ w = w' := by
  have := absent_wd t false false is w h
  rw [show wd t false false = t by unfold wd; simp] at this
  exact this

set_option maxHeartbeats 400000 in
theorem install_stale (s : Sto) (k : Ky) (who t : Int) (vw : Int) (vs : ByteArray) (vh : Bool) (w : World) (h : StC w s) (hk : k.Ok) (hh : s.holds k who = false) :
    Calls Try.prog 19 #[.pointer (some ⟨s.sb, 0, none⟩), .agg #[.int .i64 k.kind, .int .i64 k.a, .int .i64 k.b, .string k.s], .int .i64 who, .int .u64 t, .agg #[.int .u64 vw, .string vs, .bool vh]] w fun e w' => e = .returned (.int .i64 51) ∧ Below w.heap.size w w' := by
  have hW := fun X Y => (h.alloc X).alloc Y
  have HH := Lib.hid hh
  clear h hh
  go_enter Try.func19, Try.ntmps19
  go_wp2_with (go_at_call 81; refine (holds_any s k who _ (hW _ _) hk).mono ?_; rintro e w1 ⟨rfl, hb⟩; rw [HH.out])
  go_ret
  exact ⟨rfl, (below_box2 w _ _ 0).trans (hb.mono (by simp; omega))⟩

set_option maxRecDepth 100000 in
set_option maxHeartbeats 1000000 in
theorem install_ok (s : Sto) (k : Ky) (x : Sl) (who : Int) (t : Nat) (vw : Int) (vs : ByteArray) (vh : Bool) (w : World) (h : StC w s) (hk : k.Ok) (hx : s.f k = some x) (hlk : x.lk = true) (hwho : x.who = who) (ht : Sm t) (hst : x.st < t) (hv : vh = true ∨ (vh = false ∧ vs = ⟨#[]⟩)) (hvs : vs.size ≤ maxLen) :
    Calls Try.prog 19 #[.pointer (some ⟨s.sb, 0, none⟩), .agg #[.int .i64 k.kind, .int .i64 k.a, .int .i64 k.b, .string k.s], .int .i64 who, .int .u64 t, .agg #[.int .u64 vw, .string vs, .bool vh]] w (StPost w s (s.put k { x with st := t, lk := false, ab := !vh, text := vs }) (.int .i64 0)) := by
  have hW := fun X Y => (h.alloc X).alloc Y
  have HH : Hid (s.holds k who = true) := Lib.hid (by unfold Sto.holds; rw [hx]; simp [hlk, hwho])
  have HX := Lib.hid hx
  have HT := Lib.hid ht
  have HL := Lib.hid hlk
  have hst' : ¬ ((t : Int) ≤ (x.st : Int)) := by omega
  have hst2 : decide (t ≤ x.st) = false := by simpa using hst
  have HSm := Lib.hid (h.slot k x hx).2.1.st
  clear hlk ht hx
  go_enter Try.func19, Try.ntmps19
  go_wp2_with fail
  refine (holds_any s k who _ (hW _ _) hk).mono ?_
  rintro e w1 ⟨rfl, hb⟩
  rw [HH.out]
  have hS1 : StC w1 s := (hW _ _).stay hb
  obtain ⟨d0, d1, hl1, _⟩ := hS1.pre hk
  have lk : ∀ nq, (Instr.lookup 40 (.map (some s.mb)) (.agg #[.int .i64 k.kind, .int .i64 k.a, .int .i64 k.b, .string k.s]) false).run Try.prog (w1.drewN nq) = .ok (ptrOf (s.f k)) (w1.drewN nq) := fun nq => hS1.look hk rfl
  rw [HX.out] at lk
  simp only [ptrOf, Option.map_some, Option.getD_some, Sl.ptr] at lk
  have hK : w1.heap[w.heap.size]? = some (.cells #[.int .i64 k.kind, .int .i64 k.a, .int .i64 k.b, .string k.s] 32) := (hb.block _ (by simp; omega)).trans ((Below.heap_alloc _ _ _ (by simp)).trans (heap_new w _))
  have hV : w1.heap[w.heap.size + 1]? = some (.cells #[.int .u64 vw, .string vs, .bool vh] 36) := by
    have e := heap_new (w.alloc (.cells #[.int .i64 k.kind, .int .i64 k.a, .int .i64 k.b, .string k.s] 32)) (.cells #[.int .u64 vw, .string vs, .bool vh] 36)
    rw [size_alloc] at e
    exact (hb.block _ (by simp)).trans e
  have k0 := cell_of_blk hK 0
  have k1 := cell_of_blk hK 1
  have k2 := cell_of_blk hK 2
  have k3 := cell_of_blk hK 3
  have v1 := cell_of_blk hV 1
  have v2 := cell_of_blk hV 2
  simp at k0 k1 k2 k3 v1 v2
  obtain ⟨_, _, c2, c3, c4, hxl⟩ := hS1.cells HX.out
  rw [HL.out] at c2
  have hbx := (hS1.slot k x HX.out).2.2.1
  have f2 := frozen_of_blk hbx 2
  have f3 := frozen_of_blk hbx 3
  have hz1 : w.heap.size + 1 < w1.heap.size := (Array.getElem?_eq_some_iff.1 hV).1
  have HBX := Lib.hid hbx
  have HB := Lib.hid hb
  clear hK hV hbx hb d0
  have hfin : ∀ w2, Chg w1 w2 (fun i => i = x.ad) → w2.heap[x.ad]? = some (Sl.blk { x with st := t, lk := false, ab := !vh, text := vs }) → StPost w s (s.put k { x with st := t, lk := false, ab := !vh, text := vs }) (.int .i64 0) (.returned (.int .i64 0)) w2 := by
    intro w2 hc hbb
    have c0 : Chg w w1 (fun i => i = x.ad) := (((Chg.refl w _).alloc _).alloc _).trans (Chg.of_below HB.out _) (fun _ _ e => e)
    exact h.put_post (x' := { x with st := t, lk := false, ab := !vh, text := vs }) HX.out rfl rfl rfl ⟨HT.out, hvs, (h.slot k x HX.out).2.1.who⟩ (c0.trans hc (fun _ _ e => e)) hbb _
  have HF := Lib.hid hfin
  clear hfin
  have hvs2 := Lib.hid hvs
  clear hvs
  rcases hv with rfl | ⟨hvh, rfl⟩
  · go_wp2_with fail
    go_quiet (fail)
    go_wp2_with (go_at_call 80; (first | (refine (stamp_wd x.st true x.ab _ HSm.out).mono ?_; rintro e w' ⟨rfl, rfl⟩) | (refine (stamp_sm t _ HT.out).mono ?_; rintro e w' ⟨rfl, rfl⟩)))
    all_goals
      go_region_with (go_at_call 78; refine (absent_num t _ _ HT.out).mono ?_; rintro e w' ⟨rfl, rfl⟩)
    all_goals
      go_wp2
      go_ret
      refine HF.out _ ?_ ?_
      · exact ((((Chg.refl w1 (fun i => i = x.ad)).drewN _).setCell (fun _ => rfl) _).setCell (fun _ => rfl) _)
      · rw [blk_setCell (blk_setCell (show (World.drewN w1 _).heap[x.ad]? = _ from HBX.out) _)]
        rfl
  · subst hvh
    go_wp2_with fail
    go_quiet (fail)
    go_wp2_with (go_at_call 80; (first | (refine (stamp_wd x.st true x.ab _ HSm.out).mono ?_; rintro e w' ⟨rfl, rfl⟩) | (refine (stamp_sm t _ HT.out).mono ?_; rintro e w' ⟨rfl, rfl⟩)))
    all_goals
      go_region_with (go_at_call 78; refine (absent_num t _ _ HT.out).mono ?_; rintro e w' ⟨rfl, rfl⟩)
    all_goals
      go_wp2
      go_ret
      refine HF.out _ ?_ ?_
      · exact ((((Chg.refl w1 (fun i => i = x.ad)).drewN _).setCell (fun _ => rfl) _).setCell (fun _ => rfl) _)
      · rw [blk_setCell (blk_setCell (show (World.drewN w1 _).heap[x.ad]? = _ from HBX.out) _)]
        rfl
end Go.Proofs.Ytaanohgkdpohhaa
