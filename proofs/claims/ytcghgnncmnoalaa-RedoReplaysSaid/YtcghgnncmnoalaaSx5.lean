/- Sets: See, Put. Conditions: each contract's own premises. -/
import Derived.Test.YtcghgnncmnoalaaSx4
namespace Go.Proofs.Ytcghgnncmnoalaa
open Go.RowKit Go.Maps

theorem sizeZ {s : ByteArray} : (s.toList == ([] : List UInt8)) = decide (s.size = 0) := by
  rw [ByteArray.toList_eq]
  cases hd : s.data.toList with
  | nil =>
    have h2 : s.size = 0 := by rw [show s.size = s.data.toList.length from rfl, hd]; rfl
    rw [h2]; rfl
  | cons a t =>
    have h2 : s.size ≠ 0 := by rw [show s.size = s.data.toList.length from rfl, hd]; simp
    simp [h2]
open Classical in
/-- a function of keys, turned at one -/
noncomputable def updK {β : Type} (g : Ky → Option β) (k : Ky) (o : Option β) : Ky → Option β := fun x => if x = k then o else g x
theorem MpX.stored {β : Type} {w' : World} {b n' : Nat} {enc : β → Value} {g : Ky → Option β} {k : Ky} {x : β} {F : Lit → Option Value} (hF : ∀ k : Ky, k.Ok → F k.lit = (g k).map enc) (hk : k.Ok) (h : mapR w' Try.prog 62 b n' (upd F k.lit (some (enc x)))) : MpX w' b n' enc (updK g k (some x)) := by
  refine ⟨_, h, fun y hy => ?_⟩
  unfold upd updK
  by_cases e : y = k
  · subst e; simp
  · rw [if_neg e, if_neg (fun h => e (lit_inj hy hk h))]
    exact hF y hy
theorem len_if (n : Nat) (q : Bool) : (if q = true then n else n + 1) ≤ n + 1 := by split <;> omega
def SeePost (w : World) (sb bs bw bm ns nw nm : Nat) (gs : Ky → Option Sn) (gw gm : Ky → Option Tx) (k : Ky) (x : Sn) (e : Ending) (w' : World) : Prop :=
  if x.val.size ≠ 0 ∧ x.has = false then e = .returned (.int .i64 2) ∧ Below w.heap.size w w'
  else if (gs k).isSome = true then e = .returned (.int .i64 31) ∧ Below w.heap.size w w'
  else e = .returned (.int .i64 0) ∧ ∃ ns', ns' ≤ ns + 1 ∧ StX w' sb bs bw bm ns' nw nm (updK gs k (some x)) gw gm ∧ Chg w w' (fun j => j = bs)
set_option maxRecDepth 100000 in
set_option maxHeartbeats 2000000 in
theorem sxSee_any {w : World} {sb bs bw bm ns nw nm : Nat} {gs : Ky → Option Sn} {gw gm : Ky → Option Tx} (h : StX w sb bs bw bm ns nw nm gs gw gm) (hns : ns ≤ 1000000) {k : Ky} (hk : k.Ok) (v : Sn) :
    Calls Try.prog 33 #[.pointer (some ⟨sb, 0, none⟩), .agg #[.int .i64 k.kind, .int .i64 k.a, .int .i64 k.b, .string k.s], .agg #[.int .u64 v.word, .string v.val, .bool v.has]] w (SeePost w sb bs bw bm ns nw nm gs gw gm k v) := by
  obtain ⟨W, hW⟩ : ∃ W, (w.alloc (.cells #[.int .i64 k.kind, .int .i64 k.a, .int .i64 k.b, .string k.s] 62)).alloc (.cells #[.int .u64 v.word, .string v.val, .bool v.has] 64) = W := ⟨_, rfl⟩
  obtain ⟨kb, hkb⟩ : ∃ x, x = w.heap.size := ⟨_, rfl⟩
  obtain ⟨vb, hvb⟩ : ∃ x, x = w.heap.size + 1 := ⟨_, rfl⟩
  have bW : Below w.heap.size w W := by rw [← hW]; exact below_then (below_box _ _) (below_box _ _)
  have eW : W.heap[kb]? = some (.cells #[.int .i64 k.kind, .int .i64 k.a, .int .i64 k.b, .string k.s] 62) := by rw [← hW, hkb, Below.heap_alloc _ _ _ (by rw [size_alloc]; omega)]; exact heap_new _ _
  have eR : W.heap[vb]? = some (.cells #[.int .u64 v.word, .string v.val, .bool v.has] 64) := by rw [← hW, hvb]; have := heap_new (w.alloc (.cells #[.int .i64 k.kind, .int .i64 k.a, .int .i64 k.b, .string k.s] 62)) (.cells #[.int .u64 v.word, .string v.val, .bool v.has] 64); rwa [size_alloc] at this
  have HR : Hid (∀ u : World, Below W.heap.size W u → u.heap[vb]? = some (.cells #[.int .u64 v.word, .string v.val, .bool v.has] 64)) := Lib.hid (fun u hu => (hu.block _ (Array.getElem?_eq_some_iff.1 eR).1).trans eR)
  have z0 := cell_of_blk eR 1
  have z1 := cell_of_blk eR 2
  simp at z0 z1
  obtain ⟨x, q, hv, hq, _, _⟩ := sn_cases (gs k)
  have HS : Hid (∀ u : World, Below W.heap.size W u → u.cell? ⟨sb, 0, none⟩ = some (.map (some bs)) ∧ u.cell? ⟨kb, 0, none⟩ = some (.int .i64 k.kind) ∧ u.cell? ⟨kb, 1, none⟩ = some (.int .i64 k.a) ∧ u.cell? ⟨kb, 2, none⟩ = some (.int .i64 k.b) ∧ u.cell? ⟨kb, 3, none⟩ = some (.string k.s) ∧
      (Instr.lookup 153 (.map (some bs)) (.agg #[.int .i64 k.kind, .int .i64 k.a, .int .i64 k.b, .string k.s]) true).run Try.prog u = .ok (.tuple #[.agg #[.int .u64 x.word, .string x.val, .bool x.has], .bool q]) u) := Lib.hid (fun u hu => by
    have h2 := (h.below bW).below hu
    have e2 := (hu.block _ (Array.getElem?_eq_some_iff.1 eW).1).trans eW
    have hl := h2.sm.look Try.underlying153 (zeroSn u) hk
    rw [hv, hq] at hl
    exact ⟨by simpa using cell_of_blk h2.blk 0, by simpa using cell_of_blk e2 0, by simpa using cell_of_blk e2 1, by simpa using cell_of_blk e2 2, by simpa using cell_of_blk e2 3, hl⟩)
  have HH := Lib.hid (h.below bW)
  have HK := Lib.hid hk
  have HQ := Lib.hid hq
  have HNS := Lib.hid hns
  have HB := Lib.hid bW
  have HW := Lib.hid hW
  have HKB := Lib.hid (And.intro hkb hvb)
  have hz : ∃ e, (v.val.toList == ([] : List UInt8)) = e ∧ decide (v.val.size = 0) = e := ⟨_, sizeZ, rfl⟩
  obtain ⟨ee, he1, he2⟩ := hz
  have HE := Lib.hid he2
  clear h hk bW eW hW hkb hvb hv hq eR hns he2
  by_cases hbad : v.val.size ≠ 0 ∧ v.has = false
  · have t1 : ee = false := by rw [← HE.out]; exact decide_eq_false hbad.1
    rw [t1] at he1
    have HBD := Lib.hid hbad
    clear hbad
    go_enter Try.func33, Try.ntmps33
    go_upto_region 1 with fail
    rw [HW.out, ← HKB.out.2]
    have t2 := HBD.out.2
    go_wp2_with fail
    go_ret
    unfold SeePost
    rw [if_pos HBD.out]
    exact ⟨rfl, HB.out⟩
  have tt : ee = true ∨ (ee = false ∧ v.has = true) := by
    cases hh : v.has
    · left
      rw [← HE.out]
      exact decide_eq_true (Classical.byContradiction fun hn => hbad ⟨hn, hh⟩)
    · cases ee
      · exact .inr ⟨rfl, rfl⟩
      · exact .inl rfl
  have HBD := Lib.hid hbad
  clear hbad
  rcases tt with tt | ⟨tt, th⟩
  · subst tt
    go_enter Try.func33, Try.ntmps33
    go_upto_region 1 with fail
    rw [HW.out, ← HKB.out.2, ← HKB.out.1]
    go_upto_region 3 with fail
    clear z0 z1
    refine wp_region_held_drew (S := (fun w' : World => w'.cell? ⟨sb, 0, none⟩ = some (.map (some bs)) ∧ w'.cell? ⟨kb, 0, none⟩ = some (.int .i64 k.kind) ∧ w'.cell? ⟨kb, 1, none⟩ = some (.int .i64 k.a) ∧ w'.cell? ⟨kb, 2, none⟩ = some (.int .i64 k.b) ∧ w'.cell? ⟨kb, 3, none⟩ = some (.string k.s) ∧ (Instr.lookup 153 (.map (some bs)) (.agg #[.int .i64 k.kind, .int .i64 k.a, .int .i64 k.b, .string k.s]) true).run Try.prog w' = .ok (.tuple #[.agg #[.int .u64 x.word, .string x.val, .bool x.has], .bool q]) w')) (by kernel_rfl) (HS.out _ (below_drewN (Below.refl _ _) 1)) (fun hHeld => ?_)
    obtain ⟨X, hGen⟩ : ∃ u, u = World.drew W := ⟨_, rfl⟩
    rw [← hGen] at hHeld ⊢
    have HBX : Hid (Below W.heap.size W X) := Lib.hid (by rw [hGen]; exact below_drewN (Below.refl _ _) 1)
    clear hGen
    refine wpAnyH_take (i := 0) (oi := ⟨some 18, _, _, _, _, _⟩) (v := ?vvpe1) rfl (by kernel_rfl) (by kernel_rfl) (by kernel_rfl) (fun _ _ _ h => h) (Or.inl ⟨by rfl, ?yype1⟩) hHeld ?rrpe1
    case yype1 => (intro wq hSw; (try dsimp only at hSw); go_simp; first | done | with_reducible rfl)
    simp only [Act.put, List.setIfInBounds_toArray, List.set_cons_zero, List.set_cons_succ]
    refine wpAnyH_take (i := 1) (oi := ⟨some 19, _, _, _, _, _⟩) (v := ?vvpe2) rfl (by kernel_rfl) (by kernel_rfl) (by kernel_rfl) (fun _ _ _ h => h) (Or.inl ⟨by rfl, ?yype2⟩) hHeld ?rrpe2
    case yype2 => (intro wq hSw; (try dsimp only at hSw); go_simp; first | done | with_reducible rfl)
    simp only [Act.put, List.setIfInBounds_toArray, List.set_cons_zero, List.set_cons_succ]
    refine wpAnyH_take (i := 2) (oi := ⟨some 20, _, _, _, _, _⟩) (v := ?vvpe3) rfl (by kernel_rfl) (by kernel_rfl) (by kernel_rfl) (fun _ _ _ h => h) (Or.inl ⟨by rfl, ?yype3⟩) hHeld ?rrpe3
    case yype3 => (intro wq hSw; (try dsimp only at hSw); go_simp; first | done | with_reducible rfl)
    simp only [Act.put, List.setIfInBounds_toArray, List.set_cons_zero, List.set_cons_succ]
    refine wpAnyH_take (i := 3) (oi := ⟨some 21, _, _, _, _, _⟩) (v := ?vvpe4) rfl (by kernel_rfl) (by kernel_rfl) (by kernel_rfl) (fun _ _ _ h => h) (Or.inl ⟨by rfl, ?yype4⟩) hHeld ?rrpe4
    case yype4 => (intro wq hSw; (try dsimp only at hSw); go_simp; first | done | with_reducible rfl)
    simp only [Act.put, List.setIfInBounds_toArray, List.set_cons_zero, List.set_cons_succ]
    refine wpAnyH_take (i := 4) (oi := ⟨some 22, _, _, _, _, _⟩) (v := ?vvpe5) rfl (by kernel_rfl) (by kernel_rfl) (by kernel_rfl) (fun _ _ _ h => h) (Or.inl ⟨by rfl, ?yype5⟩) hHeld ?rrpe5
    case yype5 => (intro wq hSw; (try dsimp only at hSw); go_simp; first | done | with_reducible rfl)
    simp only [Act.put, List.setIfInBounds_toArray, List.set_cons_zero, List.set_cons_succ]
    refine wpAnyH_take (i := 5) (oi := ⟨some 23, _, _, _, _, _⟩) (v := ?vvpe6) rfl (by kernel_rfl) (by kernel_rfl) (by kernel_rfl) (fun _ _ _ h => h) (Or.inl ⟨by rfl, ?yype6⟩) hHeld ?rrpe6
    case yype6 => (intro wq hSw; (try dsimp only at hSw); go_simp; first | done | with_reducible rfl)
    simp only [Act.put, List.setIfInBounds_toArray, List.set_cons_zero, List.set_cons_succ]
    refine wpAnyH_take (i := 6) (oi := ⟨some 17, _, _, _, _, _⟩) (v := ?vvpe7) rfl (by kernel_rfl) (by kernel_rfl) (by kernel_rfl) (fun _ _ _ h => h) (Or.inl ⟨by rfl, ?yype7⟩) hHeld ?rrpe7
    case yype7 => (intro wq hSw; (try dsimp only at hSw); go_simp; first | done | with_reducible rfl)
    simp only [Act.put, List.setIfInBounds_toArray, List.set_cons_zero, List.set_cons_succ]
    refine wpAnyH_take (i := 7) (oi := ⟨some 24, _, _, _, _, _⟩) (v := ?vvpe8) rfl (by kernel_rfl) (by kernel_rfl) (by kernel_rfl) (fun _ _ _ h => h) (Or.inl ⟨by rfl, ?yype8⟩) hHeld ?rrpe8
    case yype8 => (intro wq hSw; (try dsimp only at hSw); go_simp; first | done | with_reducible rfl)
    simp only [Act.put, List.setIfInBounds_toArray, List.set_cons_zero, List.set_cons_succ]
    refine wpAnyH_take (i := 8) (oi := ⟨some 25, _, _, _, _, _⟩) (v := ?vvpe9) rfl (by kernel_rfl) (by kernel_rfl) (by kernel_rfl) (fun _ _ _ h => h) (Or.inl ⟨by rfl, ?yype9⟩) hHeld ?rrpe9
    case yype9 => (intro wq hSw; (try dsimp only at hSw); go_simp; first | done | with_reducible rfl)
    simp only [Act.put, List.setIfInBounds_toArray, List.set_cons_zero, List.set_cons_succ]
    refine wpAnyH_ready (rs := [9]) (by kernel_rfl) (by simp) ?_
    refine AllReadyH.cons (o := ⟨some 7, _, _, _, _, _⟩) rfl (fun K hK => ?_) AllReadyH.nil
    go_simp
    obtain ⟨n5, hn5⟩ : ∃ u, u = X.alloc (.cells #[.int .u64 0, .string ⟨#[]⟩, .bool false] 64) := ⟨_, rfl⟩
    obtain ⟨g5, hg5⟩ : ∃ g, g = X.heap.size := ⟨_, rfl⟩
    rw [← hn5, ← hg5]
    have HB5 : Hid (Below W.heap.size W n5) := Lib.hid (by rw [hn5]; exact below_then HBX.out (below_box _ _))
    have E5 : Hid (n5.heap[g5]? = some (.cells #[.int .u64 0, .string ⟨#[]⟩, .bool false] 64)) := Lib.hid (by rw [hn5, hg5]; exact heap_new _ _)
    have L5 : Hid (W.heap.size ≤ g5) := Lib.hid (by rw [hg5]; exact HBX.out.size)
    have z0 := cell_of_blk E5.out 0
    have z1 := cell_of_blk E5.out 1
    have z2 := cell_of_blk E5.out 2
    have y0 := frozen_of_blk E5.out 0
    have y1 := frozen_of_blk E5.out 1
    have y2 := frozen_of_blk E5.out 2
    simp at z0 z1 z2
    clear hn5 hg5
    refine hK.out _ _ ?sspe10 (fun hHeld => ?_)
    case sspe10 => (exact HS.out _ HB5.out)
    clear hK K
    try simp only [Act.put, List.setIfInBounds_toArray, List.set_cons_zero, List.set_cons_succ]
    refine wpAnyH_ready (rs := [10]) (by kernel_rfl) (by simp) ?_
    refine AllReadyH.cons (o := ⟨none, _, _, _, _, _⟩) rfl (fun K hK => ?_) AllReadyH.nil
    go_simp
    obtain ⟨U, hU⟩ : ∃ u, u = ((n5.setCell ⟨g5, 0, none⟩ (.int .u64 x.word)).setCell ⟨g5, 1, none⟩ (.string x.val)).setCell ⟨g5, 2, none⟩ (.bool x.has) := ⟨_, rfl⟩
    rw [← hU]
    have HBU : Hid (Below W.heap.size W U) := Lib.hid (by rw [hU]; exact ((HB5.out.setCell (p := ⟨g5, 0, none⟩) L5.out _).setCell (p := ⟨g5, 1, none⟩) L5.out _).setCell (p := ⟨g5, 2, none⟩) L5.out _)
    clear hU z0 z1 z2 y0 y1 y2
    refine hK.out _ _ ?sspe11 (fun hHeld => ?_)
    case sspe11 => (exact HS.out _ HBU.out)
    clear hK K
    try simp only [Act.put, List.setIfInBounds_toArray, List.set_cons_zero, List.set_cons_succ]
    refine wpAnyH_take (i := 11) (oi := ⟨some 8, _, _, _, _, _⟩) (v := ?vvpe12) rfl (by kernel_rfl) (by kernel_rfl) (by kernel_rfl) (fun _ _ _ h => h) (Or.inl ⟨by rfl, ?yype12⟩) hHeld ?rrpe12
    case yype12 => (intro wq hSw; (try dsimp only at hSw); go_simp; first | done | with_reducible rfl)
    simp only [Act.put, List.setIfInBounds_toArray, List.set_cons_zero, List.set_cons_succ]
    refine wpAnyH_done (by kernel_rfl) ?_ _
    clear hHeld
    cases q
    · go_upto_region 6 with fail
      have c0 := (HS.out _ HBU.out).1
      obtain ⟨_, k0, k1, k2, k3, _⟩ := HS.out _ HBU.out
      have er := HR.out _ HBU.out
      have v0 := cell_of_blk er 0
      have v1 := cell_of_blk er 1
      have v2 := cell_of_blk er 2
      simp at v0 v1 v2
      have hHU := HH.out.below HBU.out
      obtain ⟨F, hm, hF⟩ := hHU.sm
      have HHU := Lib.hid hHU
      have HF := Lib.hid hF
      have hm2 : mapR U.drew Try.prog 62 bs ns F := hm.of_block rfl
      have hnl : ns < maxLen := by have := HNS.out; unfold maxLen; omega
      clear hHU hm hF er
      refine wp_region_still_tail 6 (by kernel_rfl) (by kernel_rfl) ?_
      change wpStill _ _ (World.drew _) (fun a' => wpList _ _ _ _ a' (World.drew _)) _ _
      simp only [List.take_succ_cons, List.take_zero, List.drop_succ_cons, List.drop_zero]
      repeat still_step
      refine wpStill_nil ?_
      go_wp2_with (at_mapUpdate; refine wpList_store _ rfl _ _ _ 153 rfl 62 64 lawKey Try.underlying153 bs ns F rfl hm2 hnl _ (.agg #[.int .u64 v.word, .string v.val, .bool v.has]) _ rfl rfl (keyK HK.out) ?_; intro w3 m3 t3 c3 f3 z3)
      have M3 := Lib.hid m3
      have T3 := Lib.hid t3
      clear m3 t3 c3 f3 z3 hm2
      go_wp2_with fail
      go_ret
      unfold SeePost
      rw [if_neg HBD.out, if_neg (by rw [HQ.out]; decide)]
      refine ⟨rfl, (if (F k.lit).isSome = true then ns else ns + 1), len_if ns _, ?_, ?_⟩
      · have hx : MpX w3 bs (if (F k.lit).isSome = true then ns else ns + 1) Sn.v (updK gs k (some v)) := MpX.stored (enc := Sn.v) HF.out HK.out M3.out
        have hT := HHU.out
        have hb : ∀ j, j ≠ bs → w3.heap[j]? = U.heap[j]? := fun j hj => turned_block T3.out hj
        obtain ⟨es, ck, hmap⟩ := hT.sm.map
        have hne : sb ≠ bs := fun e => by
          have h9 := hT.blk
          rw [e, hmap] at h9
          cases h9
        exact ⟨(hb sb hne).trans hT.blk, hx, hT.wm.of_block (hb bw (fun e => hT.n1 e.symm)), hT.mm.of_block (hb bm (fun e => hT.n2 e.symm)), hT.n1, hT.n2, hT.n3⟩
      · have h1 : Chg w U (fun j => j = bs) := Chg.of_below (below_then HB.out HBU.out) _
        exact h1.drew.turned T3.out (fun _ => rfl)
    · go_wp2_with fail
      go_ret
      unfold SeePost
      rw [if_neg HBD.out, if_pos HQ.out]
      exact ⟨rfl, below_then HB.out HBU.out⟩
  · subst tt
    have TH := Lib.hid th
    clear th
    go_enter Try.func33, Try.ntmps33
    go_upto_region 1 with fail
    rw [HW.out, ← HKB.out.2, ← HKB.out.1]
    have th := TH.out
    go_upto_region 3 with fail
    clear z0 z1 th
    refine wp_region_held_drew (S := (fun w' : World => w'.cell? ⟨sb, 0, none⟩ = some (.map (some bs)) ∧ w'.cell? ⟨kb, 0, none⟩ = some (.int .i64 k.kind) ∧ w'.cell? ⟨kb, 1, none⟩ = some (.int .i64 k.a) ∧ w'.cell? ⟨kb, 2, none⟩ = some (.int .i64 k.b) ∧ w'.cell? ⟨kb, 3, none⟩ = some (.string k.s) ∧ (Instr.lookup 153 (.map (some bs)) (.agg #[.int .i64 k.kind, .int .i64 k.a, .int .i64 k.b, .string k.s]) true).run Try.prog w' = .ok (.tuple #[.agg #[.int .u64 x.word, .string x.val, .bool x.has], .bool q]) w')) (by kernel_rfl) (HS.out _ (below_drewN (Below.refl _ _) 1)) (fun hHeld => ?_)
    obtain ⟨X, hGen⟩ : ∃ u, u = World.drew W := ⟨_, rfl⟩
    rw [← hGen] at hHeld ⊢
    have HBX : Hid (Below W.heap.size W X) := Lib.hid (by rw [hGen]; exact below_drewN (Below.refl _ _) 1)
    clear hGen
    refine wpAnyH_take (i := 0) (oi := ⟨some 18, _, _, _, _, _⟩) (v := ?vvpf1) rfl (by kernel_rfl) (by kernel_rfl) (by kernel_rfl) (fun _ _ _ h => h) (Or.inl ⟨by rfl, ?yypf1⟩) hHeld ?rrpf1
    case yypf1 => (intro wq hSw; (try dsimp only at hSw); go_simp; first | done | with_reducible rfl)
    simp only [Act.put, List.setIfInBounds_toArray, List.set_cons_zero, List.set_cons_succ]
    refine wpAnyH_take (i := 1) (oi := ⟨some 19, _, _, _, _, _⟩) (v := ?vvpf2) rfl (by kernel_rfl) (by kernel_rfl) (by kernel_rfl) (fun _ _ _ h => h) (Or.inl ⟨by rfl, ?yypf2⟩) hHeld ?rrpf2
    case yypf2 => (intro wq hSw; (try dsimp only at hSw); go_simp; first | done | with_reducible rfl)
    simp only [Act.put, List.setIfInBounds_toArray, List.set_cons_zero, List.set_cons_succ]
    refine wpAnyH_take (i := 2) (oi := ⟨some 20, _, _, _, _, _⟩) (v := ?vvpf3) rfl (by kernel_rfl) (by kernel_rfl) (by kernel_rfl) (fun _ _ _ h => h) (Or.inl ⟨by rfl, ?yypf3⟩) hHeld ?rrpf3
    case yypf3 => (intro wq hSw; (try dsimp only at hSw); go_simp; first | done | with_reducible rfl)
    simp only [Act.put, List.setIfInBounds_toArray, List.set_cons_zero, List.set_cons_succ]
    refine wpAnyH_take (i := 3) (oi := ⟨some 21, _, _, _, _, _⟩) (v := ?vvpf4) rfl (by kernel_rfl) (by kernel_rfl) (by kernel_rfl) (fun _ _ _ h => h) (Or.inl ⟨by rfl, ?yypf4⟩) hHeld ?rrpf4
    case yypf4 => (intro wq hSw; (try dsimp only at hSw); go_simp; first | done | with_reducible rfl)
    simp only [Act.put, List.setIfInBounds_toArray, List.set_cons_zero, List.set_cons_succ]
    refine wpAnyH_take (i := 4) (oi := ⟨some 22, _, _, _, _, _⟩) (v := ?vvpf5) rfl (by kernel_rfl) (by kernel_rfl) (by kernel_rfl) (fun _ _ _ h => h) (Or.inl ⟨by rfl, ?yypf5⟩) hHeld ?rrpf5
    case yypf5 => (intro wq hSw; (try dsimp only at hSw); go_simp; first | done | with_reducible rfl)
    simp only [Act.put, List.setIfInBounds_toArray, List.set_cons_zero, List.set_cons_succ]
    refine wpAnyH_take (i := 5) (oi := ⟨some 23, _, _, _, _, _⟩) (v := ?vvpf6) rfl (by kernel_rfl) (by kernel_rfl) (by kernel_rfl) (fun _ _ _ h => h) (Or.inl ⟨by rfl, ?yypf6⟩) hHeld ?rrpf6
    case yypf6 => (intro wq hSw; (try dsimp only at hSw); go_simp; first | done | with_reducible rfl)
    simp only [Act.put, List.setIfInBounds_toArray, List.set_cons_zero, List.set_cons_succ]
    refine wpAnyH_take (i := 6) (oi := ⟨some 17, _, _, _, _, _⟩) (v := ?vvpf7) rfl (by kernel_rfl) (by kernel_rfl) (by kernel_rfl) (fun _ _ _ h => h) (Or.inl ⟨by rfl, ?yypf7⟩) hHeld ?rrpf7
    case yypf7 => (intro wq hSw; (try dsimp only at hSw); go_simp; first | done | with_reducible rfl)
    simp only [Act.put, List.setIfInBounds_toArray, List.set_cons_zero, List.set_cons_succ]
    refine wpAnyH_take (i := 7) (oi := ⟨some 24, _, _, _, _, _⟩) (v := ?vvpf8) rfl (by kernel_rfl) (by kernel_rfl) (by kernel_rfl) (fun _ _ _ h => h) (Or.inl ⟨by rfl, ?yypf8⟩) hHeld ?rrpf8
    case yypf8 => (intro wq hSw; (try dsimp only at hSw); go_simp; first | done | with_reducible rfl)
    simp only [Act.put, List.setIfInBounds_toArray, List.set_cons_zero, List.set_cons_succ]
    refine wpAnyH_take (i := 8) (oi := ⟨some 25, _, _, _, _, _⟩) (v := ?vvpf9) rfl (by kernel_rfl) (by kernel_rfl) (by kernel_rfl) (fun _ _ _ h => h) (Or.inl ⟨by rfl, ?yypf9⟩) hHeld ?rrpf9
    case yypf9 => (intro wq hSw; (try dsimp only at hSw); go_simp; first | done | with_reducible rfl)
    simp only [Act.put, List.setIfInBounds_toArray, List.set_cons_zero, List.set_cons_succ]
    refine wpAnyH_ready (rs := [9]) (by kernel_rfl) (by simp) ?_
    refine AllReadyH.cons (o := ⟨some 7, _, _, _, _, _⟩) rfl (fun K hK => ?_) AllReadyH.nil
    go_simp
    obtain ⟨n5, hn5⟩ : ∃ u, u = X.alloc (.cells #[.int .u64 0, .string ⟨#[]⟩, .bool false] 64) := ⟨_, rfl⟩
    obtain ⟨g5, hg5⟩ : ∃ g, g = X.heap.size := ⟨_, rfl⟩
    rw [← hn5, ← hg5]
    have HB5 : Hid (Below W.heap.size W n5) := Lib.hid (by rw [hn5]; exact below_then HBX.out (below_box _ _))
    have E5 : Hid (n5.heap[g5]? = some (.cells #[.int .u64 0, .string ⟨#[]⟩, .bool false] 64)) := Lib.hid (by rw [hn5, hg5]; exact heap_new _ _)
    have L5 : Hid (W.heap.size ≤ g5) := Lib.hid (by rw [hg5]; exact HBX.out.size)
    have z0 := cell_of_blk E5.out 0
    have z1 := cell_of_blk E5.out 1
    have z2 := cell_of_blk E5.out 2
    have y0 := frozen_of_blk E5.out 0
    have y1 := frozen_of_blk E5.out 1
    have y2 := frozen_of_blk E5.out 2
    simp at z0 z1 z2
    clear hn5 hg5
    refine hK.out _ _ ?sspf10 (fun hHeld => ?_)
    case sspf10 => (exact HS.out _ HB5.out)
    clear hK K
    try simp only [Act.put, List.setIfInBounds_toArray, List.set_cons_zero, List.set_cons_succ]
    refine wpAnyH_ready (rs := [10]) (by kernel_rfl) (by simp) ?_
    refine AllReadyH.cons (o := ⟨none, _, _, _, _, _⟩) rfl (fun K hK => ?_) AllReadyH.nil
    go_simp
    obtain ⟨U, hU⟩ : ∃ u, u = ((n5.setCell ⟨g5, 0, none⟩ (.int .u64 x.word)).setCell ⟨g5, 1, none⟩ (.string x.val)).setCell ⟨g5, 2, none⟩ (.bool x.has) := ⟨_, rfl⟩
    rw [← hU]
    have HBU : Hid (Below W.heap.size W U) := Lib.hid (by rw [hU]; exact ((HB5.out.setCell (p := ⟨g5, 0, none⟩) L5.out _).setCell (p := ⟨g5, 1, none⟩) L5.out _).setCell (p := ⟨g5, 2, none⟩) L5.out _)
    clear hU z0 z1 z2 y0 y1 y2
    refine hK.out _ _ ?sspf11 (fun hHeld => ?_)
    case sspf11 => (exact HS.out _ HBU.out)
    clear hK K
    try simp only [Act.put, List.setIfInBounds_toArray, List.set_cons_zero, List.set_cons_succ]
    refine wpAnyH_take (i := 11) (oi := ⟨some 8, _, _, _, _, _⟩) (v := ?vvpf12) rfl (by kernel_rfl) (by kernel_rfl) (by kernel_rfl) (fun _ _ _ h => h) (Or.inl ⟨by rfl, ?yypf12⟩) hHeld ?rrpf12
    case yypf12 => (intro wq hSw; (try dsimp only at hSw); go_simp; first | done | with_reducible rfl)
    simp only [Act.put, List.setIfInBounds_toArray, List.set_cons_zero, List.set_cons_succ]
    refine wpAnyH_done (by kernel_rfl) ?_ _
    clear hHeld
    cases q
    · go_upto_region 6 with fail
      have c0 := (HS.out _ HBU.out).1
      obtain ⟨_, k0, k1, k2, k3, _⟩ := HS.out _ HBU.out
      have er := HR.out _ HBU.out
      have v0 := cell_of_blk er 0
      have v1 := cell_of_blk er 1
      have v2 := cell_of_blk er 2
      simp at v0 v1 v2
      have hHU := HH.out.below HBU.out
      obtain ⟨F, hm, hF⟩ := hHU.sm
      have HHU := Lib.hid hHU
      have HF := Lib.hid hF
      have hm2 : mapR U.drew Try.prog 62 bs ns F := hm.of_block rfl
      have hnl : ns < maxLen := by have := HNS.out; unfold maxLen; omega
      clear hHU hm hF er
      refine wp_region_still_tail 6 (by kernel_rfl) (by kernel_rfl) ?_
      change wpStill _ _ (World.drew _) (fun a' => wpList _ _ _ _ a' (World.drew _)) _ _
      simp only [List.take_succ_cons, List.take_zero, List.drop_succ_cons, List.drop_zero]
      repeat still_step
      refine wpStill_nil ?_
      go_wp2_with (at_mapUpdate; refine wpList_store _ rfl _ _ _ 153 rfl 62 64 lawKey Try.underlying153 bs ns F rfl hm2 hnl _ (.agg #[.int .u64 v.word, .string v.val, .bool v.has]) _ rfl rfl (keyK HK.out) ?_; intro w3 m3 t3 c3 f3 z3)
      have M3 := Lib.hid m3
      have T3 := Lib.hid t3
      clear m3 t3 c3 f3 z3 hm2
      go_wp2_with fail
      go_ret
      unfold SeePost
      rw [if_neg HBD.out, if_neg (by rw [HQ.out]; decide)]
      refine ⟨rfl, (if (F k.lit).isSome = true then ns else ns + 1), len_if ns _, ?_, ?_⟩
      · have hx : MpX w3 bs (if (F k.lit).isSome = true then ns else ns + 1) Sn.v (updK gs k (some v)) := MpX.stored (enc := Sn.v) HF.out HK.out M3.out
        have hT := HHU.out
        have hb : ∀ j, j ≠ bs → w3.heap[j]? = U.heap[j]? := fun j hj => turned_block T3.out hj
        obtain ⟨es, ck, hmap⟩ := hT.sm.map
        have hne : sb ≠ bs := fun e => by
          have h9 := hT.blk
          rw [e, hmap] at h9
          cases h9
        exact ⟨(hb sb hne).trans hT.blk, hx, hT.wm.of_block (hb bw (fun e => hT.n1 e.symm)), hT.mm.of_block (hb bm (fun e => hT.n2 e.symm)), hT.n1, hT.n2, hT.n3⟩
      · have h1 : Chg w U (fun j => j = bs) := Chg.of_below (below_then HB.out HBU.out) _
        exact h1.drew.turned T3.out (fun _ => rfl)
    · go_wp2_with fail
      go_ret
      unfold SeePost
      rw [if_neg HBD.out, if_pos HQ.out]
      exact ⟨rfl, below_then HB.out HBU.out⟩
end Go.Proofs.Ytcghgnncmnoalaa
