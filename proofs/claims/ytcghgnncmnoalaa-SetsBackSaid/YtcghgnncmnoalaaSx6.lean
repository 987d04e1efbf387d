/- Sets: Put, Mark, Back, Reads. Conditions: each contract's own premises. -/
import Derived.Test.YtcghgnncmnoalaaSx5
namespace Go.Proofs.Ytcghgnncmnoalaa
open Go.RowKit Go.Maps

/-- a map of the sets turned -/
theorem StX.wturn {w w' : World} {sb bs bw bm ns nw nm nw' : Nat} {gs : Ky → Option Sn} {gw gm gw' : Ky → Option Tx} (h : StX w sb bs bw bm ns nw nm gs gw gm) (ht : w.mapTurned w' bw) (hx : MpX w' bw nw' Tx.v gw') : StX w' sb bs bw bm ns nw' nm gs gw' gm := by
  have hb : ∀ j, j ≠ bw → w'.heap[j]? = w.heap[j]? := fun j hj => turned_block ht hj
  obtain ⟨es, ck, hmap⟩ := h.wm.map
  have hne : sb ≠ bw := fun e => by
    have h9 := h.blk
    rw [e, hmap] at h9
    cases h9
  exact ⟨(hb sb hne).trans h.blk, h.sm.of_block (hb bs h.n1), hx, h.mm.of_block (hb bm (fun e => h.n3 e.symm)), h.n1, h.n2, h.n3⟩
def PutPost (w : World) (sb bs bw bm ns nw nm : Nat) (gs : Ky → Option Sn) (gw gm : Ky → Option Tx) (k : Ky) (t : Tx) (e : Ending) (w' : World) : Prop :=
  if (gs k).isSome = true then e = .returned (.int .i64 0) ∧ ∃ nw', nw' ≤ nw + 1 ∧ StX w' sb bs bw bm ns nw' nm gs (updK gw k (some t)) gm ∧ Chg w w' (fun j => j = bw)
  else e = .returned (.int .i64 101) ∧ Below w.heap.size w w'
set_option maxRecDepth 100000 in
set_option maxHeartbeats 2000000 in
theorem sxPut_any {w : World} {sb bs bw bm ns nw nm : Nat} {gs : Ky → Option Sn} {gw gm : Ky → Option Tx} (h : StX w sb bs bw bm ns nw nm gs gw gm) (hnw : nw ≤ 1000000) {k : Ky} (hk : k.Ok) (val : ByteArray) :
    Calls Try.prog 35 #[.pointer (some ⟨sb, 0, none⟩), .agg #[.int .i64 k.kind, .int .i64 k.a, .int .i64 k.b, .string k.s], .string val] w (PutPost w sb bs bw bm ns nw nm gs gw gm k ⟨val, true⟩) := by
  obtain ⟨W, hW⟩ : ∃ W, w.alloc (.cells #[.int .i64 k.kind, .int .i64 k.a, .int .i64 k.b, .string k.s] 62) = W := ⟨_, rfl⟩
  obtain ⟨kb, hkb⟩ : ∃ x, x = w.heap.size := ⟨_, rfl⟩
  have bW : Below w.heap.size w W := by rw [← hW]; exact below_box _ _
  have eW : W.heap[kb]? = some (.cells #[.int .i64 k.kind, .int .i64 k.a, .int .i64 k.b, .string k.s] 62) := by rw [← hW, hkb]; exact heap_new _ _
  have v0 := cell_of_blk eW 0
  have v1 := cell_of_blk eW 1
  have v2 := cell_of_blk eW 2
  have v3 := cell_of_blk eW 3
  simp at v0 v1 v2 v3
  have HH := Lib.hid (h.below bW)
  have HE := Lib.hid eW
  have HK := Lib.hid hk
  have HNW := Lib.hid hnw
  have HB := Lib.hid bW
  have HW := Lib.hid hW
  have HKB := Lib.hid hkb
  obtain ⟨q, hq⟩ : ∃ q, (gs k).isSome = q := ⟨_, rfl⟩
  have HQ := Lib.hid hq
  clear h hk bW eW hW hkb hnw hq
  go_enter Try.func35, Try.ntmps35
  go_upto_region 1 with fail
  rw [HW.out, ← HKB.out]
  go_wp2_with fail
  refine (unseen_any HH.out HK.out).mono ?_
  rintro e w1 ⟨rfl, b1⟩
  rw [HQ.out]
  have HB1 := Lib.hid b1
  clear b1 v0 v1 v2 v3
  cases q
  · go_wp2_with fail
    go_ret
    unfold PutPost
    rw [if_neg (by rw [HQ.out]; decide)]
    exact ⟨rfl, below_then HB.out HB1.out⟩
  · have e1 := (HB1.out.block _ (Array.getElem?_eq_some_iff.1 HE.out).1).trans HE.out
    have v0 := cell_of_blk e1 0
    have v1 := cell_of_blk e1 1
    have v2 := cell_of_blk e1 2
    have v3 := cell_of_blk e1 3
    have hH := HH.out.below HB1.out
    have c1 := cell_of_blk hH.blk 1
    simp at v0 v1 v2 v3 c1
    obtain ⟨F, hm, hF⟩ := hH.wm
    have HHU := Lib.hid hH
    have HF := Lib.hid hF
    have hm2 : mapR w1.drew Try.prog 62 bw nw F := hm.of_block rfl
    have hnl : nw < maxLen := by have := HNW.out; unfold maxLen; omega
    clear hH hm hF e1
    go_upto_region 3 with fail
    refine wp_region_still_tail 7 (by kernel_rfl) (by kernel_rfl) ?_
    change wpStill _ _ (World.drew _) (fun a' => wpList _ _ _ _ a' (World.drew _)) _ _
    simp only [List.take_succ_cons, List.take_zero, List.drop_succ_cons, List.drop_zero]
    repeat still_step
    refine wpStill_nil ?_
    go_wp2_with (at_mapUpdate; refine wpList_store _ rfl _ _ _ 154 rfl 62 159 lawKey Try.underlying154 bw nw F rfl hm2 hnl _ (.agg #[.string val, .bool true]) _ rfl rfl (keyK HK.out) ?_; intro w3 m3 t3 c3 f3 z3)
    have M3 := Lib.hid m3
    have T3 := Lib.hid t3
    clear m3 t3 c3 f3 z3 hm2
    go_wp2_with fail
    go_ret
    unfold PutPost
    rw [if_pos HQ.out]
    have hx : MpX w3 bw (if (F k.lit).isSome = true then nw else nw + 1) Tx.v (updK gw k (some ⟨val, true⟩)) := MpX.stored (enc := Tx.v) HF.out HK.out M3.out
    refine ⟨rfl, (if (F k.lit).isSome = true then nw else nw + 1), len_if nw _, (HHU.out.below (below_drewN (Below.refl _ _) 1)).wturn T3.out hx, ?_⟩
    have h1 : Chg w w1 (fun j => j = bw) := Chg.of_below (below_then HB.out HB1.out) _
    exact h1.drew.turned T3.out (fun _ => rfl)
set_option maxRecDepth 100000 in
set_option maxHeartbeats 1000000 in
theorem sxMark_any {w : World} {sb bs bw bm ns nw nm : Nat} {gs : Ky → Option Sn} {gw gm : Ky → Option Tx} (h : StX w sb bs bw bm ns nw nm gs gw gm) :
    Calls Try.prog 38 #[.pointer (some ⟨sb, 0, none⟩)] w fun e w' => e = .returned (.tuple #[]) ∧ StX w' sb bs bw w.heap.size ns nw nw gs gw gw ∧ Chg w w' (fun j => j = sb) := by
  have c1 := cell_of_blk h.blk 1
  have c2 := cell_of_blk h.blk 2
  simp at c1 c2
  obtain ⟨F, hm, hF⟩ := h.wm
  have HC := Lib.hid (mclone_any hm)
  have HH := Lib.hid h
  have HF := Lib.hid hF
  clear h hm hF
  go_enter Try.func38, Try.ntmps38
  go_wp2_with fail
  refine HC.out.mono ?_
  rintro e w1 ⟨rfl, m1, b1⟩
  have hH := HH.out.below b1
  have k2 := cell_of_blk hH.blk 2
  have f2 := frozen_of_blk hH.blk 2
  simp at k2
  have HM := Lib.hid m1
  have HB := Lib.hid b1
  have HH1 := Lib.hid hH
  clear m1 b1 hH c1 c2
  go_wp2_with fail
  go_end0
  have hc : Chg w1 (w1.setCell ⟨sb, 2, none⟩ (.map (some w.heap.size))) (fun j => j = sb) := (Chg.refl w1 (fun j => j = sb)).setCell (p := ⟨sb, 2, none⟩) (fun _ => rfl) _
  have hne : ∀ b, (∃ es ck, w1.heap[b]? = some (.map es ck)) → b ≠ sb := fun b ⟨es, ck, he⟩ e => by
    have h9 := HH1.out.blk
    rw [← e, he] at h9
    cases h9
  have hx : MpX w1 w.heap.size nw Tx.v gw := ⟨F, HM.out, HF.out⟩
  have hb : ∀ b, b < w1.heap.size → b ≠ sb → (w1.setCell ⟨sb, 2, none⟩ (.map (some w.heap.size))).heap[b]? = w1.heap[b]? := fun b hl hn => hc.block b hl hn
  have l1 := HH.out.sm.lt
  have l2 := HH.out.wm.lt
  refine ⟨rfl, ⟨by rw [blk_setCell HH1.out.blk]; rfl, HH1.out.sm.of_block (hb _ HH1.out.sm.lt (hne _ HH1.out.sm.map)), HH1.out.wm.of_block (hb _ HH1.out.wm.lt (hne _ HH1.out.wm.map)), hx.of_block (hb _ hx.lt (hne _ hx.map)), HH.out.n1, by omega, by omega⟩, (Chg.of_below HB.out _).trans hc (fun _ _ h => h)⟩
set_option maxRecDepth 100000 in
set_option maxHeartbeats 1000000 in
theorem sxBack_any {w : World} {sb bs bw bm ns nw nm : Nat} {gs : Ky → Option Sn} {gw gm : Ky → Option Tx} (h : StX w sb bs bw bm ns nw nm gs gw gm) :
    Calls Try.prog 40 #[.pointer (some ⟨sb, 0, none⟩)] w fun e w' => e = .returned (.tuple #[]) ∧ StX w' sb bs w.heap.size bm ns nm nm gs gm gm ∧ Chg w w' (fun j => j = sb) := by
  have c1 := cell_of_blk h.blk 1
  have c2 := cell_of_blk h.blk 2
  simp at c1 c2
  obtain ⟨F, hm, hF⟩ := h.mm
  have HC := Lib.hid (mclone_any hm)
  have HH := Lib.hid h
  have HF := Lib.hid hF
  clear h hm hF
  go_enter Try.func40, Try.ntmps40
  go_wp2_with fail
  refine HC.out.mono ?_
  rintro e w1 ⟨rfl, m1, b1⟩
  have hH := HH.out.below b1
  have k2 := cell_of_blk hH.blk 1
  have f2 := frozen_of_blk hH.blk 1
  simp at k2
  have HM := Lib.hid m1
  have HB := Lib.hid b1
  have HH1 := Lib.hid hH
  clear m1 b1 hH c1 c2
  go_wp2_with fail
  go_end0
  have hc : Chg w1 (w1.setCell ⟨sb, 1, none⟩ (.map (some w.heap.size))) (fun j => j = sb) := (Chg.refl w1 (fun j => j = sb)).setCell (p := ⟨sb, 1, none⟩) (fun _ => rfl) _
  have hne : ∀ b, (∃ es ck, w1.heap[b]? = some (.map es ck)) → b ≠ sb := fun b ⟨es, ck, he⟩ e => by
    have h9 := HH1.out.blk
    rw [← e, he] at h9
    cases h9
  have hx : MpX w1 w.heap.size nm Tx.v gm := ⟨F, HM.out, HF.out⟩
  have hb : ∀ b, b < w1.heap.size → b ≠ sb → (w1.setCell ⟨sb, 1, none⟩ (.map (some w.heap.size))).heap[b]? = w1.heap[b]? := fun b hl hn => hc.block b hl hn
  have l1 := HH.out.sm.lt
  have l2 := HH.out.mm.lt
  refine ⟨rfl, ⟨by rw [blk_setCell HH1.out.blk]; rfl, HH1.out.sm.of_block (hb _ HH1.out.sm.lt (hne _ HH1.out.sm.map)), hx.of_block (hb _ hx.lt (hne _ hx.map)), HH1.out.mm.of_block (hb _ HH1.out.mm.lt (hne _ HH1.out.mm.map)), by omega, HH.out.n2, by omega⟩, (Chg.of_below HB.out _).trans hc (fun _ _ h => h)⟩
/-- the keys of a plain function, in order -/
def KsG {β : Type} (g : Ky → Option β) (n : Nat) (ks : List Ky) : Prop := KySorted ks ∧ (∀ k ∈ ks, k.Ok) ∧ ks.length ≤ n ∧ ∀ k : Ky, k.Ok → (k ∈ ks ↔ (g k).isSome = true)
set_option maxRecDepth 100000 in
set_option maxHeartbeats 1000000 in
theorem sxReads_any {w : World} {sb bs bw bm ns nw nm : Nat} {gs : Ky → Option Sn} {gw gm : Ky → Option Tx} (h : StX w sb bs bw bm ns nw nm gs gw gm) (hns : ns ≤ 1000000) :
    Calls Try.prog 46 #[.pointer (some ⟨sb, 0, none⟩)] w fun e w' => ∃ v ks, e = .returned v ∧ KsG gs ns ks ∧ kK.Own w' w.heap.size v ks ∧ Below w.heap.size w w' := by
  have c0 := cell_of_blk h.blk 0
  simp at c0
  obtain ⟨F, hm, hF⟩ := h.sm
  have HM := Lib.hid hm
  have HF := Lib.hid hF
  have HNS := Lib.hid hns
  clear h hm hF hns
  go_enter Try.func46, Try.ntmps46
  go_wp2_with fail
  refine (keysS_any (some bs) w).mono ?_
  rintro e w1 ⟨rfl, hw1⟩
  have b1 : Below w.heap.size w w1 := by rw [hw1]; exact below_box _ _
  have HB1 := Lib.hid b1
  have HS : Hid (Calls Try.prog 103 #[.func (.func 137) #[] #[.pointer (some ⟨w.heap.size, 0, none⟩)], .func (.func 105) #[] #[]] w1 (SortedPost F ns w1)) := Lib.hid (sortedS_any w.heap.size bs ns F HNS.out w1 (by rw [hw1, size_alloc]; omega) (by rw [hw1]; exact cell_of_blk (heap_new w _) 0) (HM.out.of_block (b1.block _ HM.out.lt)))
  clear hw1 b1 c0
  go_wp2_with fail
  refine HS.out.mono ?_
  rintro e w2 ⟨v, ks, rfl, s1, s2, o2, b2⟩
  have HO := Lib.hid (And.intro s1 (And.intro s2 (And.intro o2 b2)))
  clear s1 s2 o2 b2
  go_wp2_with fail
  go_ret
  obtain ⟨s1, s2, o2, b2⟩ := HO.out
  refine ⟨v, ks, rfl, ⟨s1, s2.2.1, s2.2.2.1, fun k hk => ?_⟩, o2.mono HB1.out.size, below_then HB1.out b2⟩
  rw [s2.2.2.2 k hk, HF.out k hk]
  cases gs k <;> simp
end Go.Proofs.Ytcghgnncmnoalaa
