/- Sets: unseen. Conditions: each contract's own premises. -/
import Derived.Test.YtcghgnncmnoalaaSx1
namespace Go.Proofs.Ytcghgnncmnoalaa
open Go.RowKit Go.Maps

theorem sn_cases (o : Option Sn) : ∃ (x : Sn) (q : Bool), ((o.map Sn.v).getD Sn.zero = .agg #[.int .u64 x.word, .string x.val, .bool x.has]) ∧ o.isSome = q ∧ (o = none → x = ⟨0, ⟨#[]⟩, false⟩) ∧ (∀ y, o = some y → x = y) := by
  cases o with
  | none => exact ⟨⟨0, ⟨#[]⟩, false⟩, false, rfl, rfl, fun _ => rfl, fun _ h => (by cases h)⟩
  | some x => exact ⟨x, true, rfl, rfl, fun h => (by cases h), fun y h => by injection h⟩
set_option maxRecDepth 100000 in
set_option maxHeartbeats 1000000 in
theorem unseen_any {w : World} {sb bs bw bm ns nw nm : Nat} {gs : Ky → Option Sn} {gw gm : Ky → Option Tx} (h : StX w sb bs bw bm ns nw nm gs gw gm) {k : Ky} (hk : k.Ok) :
    Calls Try.prog 100 #[.pointer (some ⟨sb, 0, none⟩), .agg #[.int .i64 k.kind, .int .i64 k.a, .int .i64 k.b, .string k.s]] w fun e w' => e = .returned (.bool (!(gs k).isSome)) ∧ Below w.heap.size w w' := by
  obtain ⟨W, hW⟩ : ∃ W, w.alloc (.cells #[.int .i64 k.kind, .int .i64 k.a, .int .i64 k.b, .string k.s] 62) = W := ⟨_, rfl⟩
  obtain ⟨kb, hkb⟩ : ∃ x, x = w.heap.size := ⟨_, rfl⟩
  have bW : Below w.heap.size w W := by rw [← hW]; exact below_box _ _
  have eW : W.heap[kb]? = some (.cells #[.int .i64 k.kind, .int .i64 k.a, .int .i64 k.b, .string k.s] 62) := by rw [← hW, hkb]; exact heap_new _ _
  obtain ⟨x, q, hv, hq, _, _⟩ := sn_cases (gs k)
  rw [hq]
  have HS : Hid (∀ u : World, Below W.heap.size W u → u.cell? ⟨sb, 0, none⟩ = some (.map (some bs)) ∧ u.cell? ⟨kb, 0, none⟩ = some (.int .i64 k.kind) ∧ u.cell? ⟨kb, 1, none⟩ = some (.int .i64 k.a) ∧ u.cell? ⟨kb, 2, none⟩ = some (.int .i64 k.b) ∧ u.cell? ⟨kb, 3, none⟩ = some (.string k.s) ∧
      (Instr.lookup 153 (.map (some bs)) (.agg #[.int .i64 k.kind, .int .i64 k.a, .int .i64 k.b, .string k.s]) true).run Try.prog u = .ok (.tuple #[.agg #[.int .u64 x.word, .string x.val, .bool x.has], .bool q]) u) := Lib.hid (fun u hu => by
    have h2 := (h.below bW).below hu
    have e2 := (hu.block _ (Array.getElem?_eq_some_iff.1 eW).1).trans eW
    have hl := h2.sm.look Try.underlying153 (zeroSn u) hk
    rw [hv, hq] at hl
    exact ⟨by simpa using cell_of_blk h2.blk 0, by simpa using cell_of_blk e2 0, by simpa using cell_of_blk e2 1, by simpa using cell_of_blk e2 2, by simpa using cell_of_blk e2 3, hl⟩)
  have HB := Lib.hid bW
  have HW := Lib.hid hW
  have HKB := Lib.hid hkb
  clear h hk bW eW hW hkb hv hq
  go_enter Try.func100, Try.ntmps100
  go_upto_region 1 with fail
  rw [HW.out, ← HKB.out]
  refine wp_region_held_drew (S := (fun w' : World => w'.cell? ⟨sb, 0, none⟩ = some (.map (some bs)) ∧ w'.cell? ⟨kb, 0, none⟩ = some (.int .i64 k.kind) ∧ w'.cell? ⟨kb, 1, none⟩ = some (.int .i64 k.a) ∧ w'.cell? ⟨kb, 2, none⟩ = some (.int .i64 k.b) ∧ w'.cell? ⟨kb, 3, none⟩ = some (.string k.s) ∧ (Instr.lookup 153 (.map (some bs)) (.agg #[.int .i64 k.kind, .int .i64 k.a, .int .i64 k.b, .string k.s]) true).run Try.prog w' = .ok (.tuple #[.agg #[.int .u64 x.word, .string x.val, .bool x.has], .bool q]) w')) (by kernel_rfl) (HS.out _ (below_drewN (Below.refl _ _) 1)) (fun hHeld => ?_)
  obtain ⟨X, hGen⟩ : ∃ u, u = World.drew W := ⟨_, rfl⟩
  rw [← hGen] at hHeld ⊢
  have HBX : Hid (Below W.heap.size W X) := Lib.hid (by rw [hGen]; exact below_drewN (Below.refl _ _) 1)
  clear hGen
  refine wpAnyH_take (i := 0) (oi := ⟨some 8, _, _, _, _, _⟩) (v := ?vvpa1) rfl (by kernel_rfl) (by kernel_rfl) (by kernel_rfl) (fun _ _ _ h => h) (Or.inl ⟨by rfl, ?yypa1⟩) hHeld ?rrpa1
  case yypa1 => (intro wq hSw; (try dsimp only at hSw); go_simp; first | done | with_reducible rfl)
  simp only [Act.put, List.setIfInBounds_toArray, List.set_cons_zero, List.set_cons_succ]
  refine wpAnyH_take (i := 1) (oi := ⟨some 9, _, _, _, _, _⟩) (v := ?vvpa2) rfl (by kernel_rfl) (by kernel_rfl) (by kernel_rfl) (fun _ _ _ h => h) (Or.inl ⟨by rfl, ?yypa2⟩) hHeld ?rrpa2
  case yypa2 => (intro wq hSw; (try dsimp only at hSw); go_simp; first | done | with_reducible rfl)
  simp only [Act.put, List.setIfInBounds_toArray, List.set_cons_zero, List.set_cons_succ]
  refine wpAnyH_take (i := 2) (oi := ⟨some 10, _, _, _, _, _⟩) (v := ?vvpa3) rfl (by kernel_rfl) (by kernel_rfl) (by kernel_rfl) (fun _ _ _ h => h) (Or.inl ⟨by rfl, ?yypa3⟩) hHeld ?rrpa3
  case yypa3 => (intro wq hSw; (try dsimp only at hSw); go_simp; first | done | with_reducible rfl)
  simp only [Act.put, List.setIfInBounds_toArray, List.set_cons_zero, List.set_cons_succ]
  refine wpAnyH_take (i := 3) (oi := ⟨some 11, _, _, _, _, _⟩) (v := ?vvpa4) rfl (by kernel_rfl) (by kernel_rfl) (by kernel_rfl) (fun _ _ _ h => h) (Or.inl ⟨by rfl, ?yypa4⟩) hHeld ?rrpa4
  case yypa4 => (intro wq hSw; (try dsimp only at hSw); go_simp; first | done | with_reducible rfl)
  simp only [Act.put, List.setIfInBounds_toArray, List.set_cons_zero, List.set_cons_succ]
  refine wpAnyH_take (i := 4) (oi := ⟨some 12, _, _, _, _, _⟩) (v := ?vvpa5) rfl (by kernel_rfl) (by kernel_rfl) (by kernel_rfl) (fun _ _ _ h => h) (Or.inl ⟨by rfl, ?yypa5⟩) hHeld ?rrpa5
  case yypa5 => (intro wq hSw; (try dsimp only at hSw); go_simp; first | done | with_reducible rfl)
  simp only [Act.put, List.setIfInBounds_toArray, List.set_cons_zero, List.set_cons_succ]
  refine wpAnyH_take (i := 5) (oi := ⟨some 13, _, _, _, _, _⟩) (v := ?vvpa6) rfl (by kernel_rfl) (by kernel_rfl) (by kernel_rfl) (fun _ _ _ h => h) (Or.inl ⟨by rfl, ?yypa6⟩) hHeld ?rrpa6
  case yypa6 => (intro wq hSw; (try dsimp only at hSw); go_simp; first | done | with_reducible rfl)
  simp only [Act.put, List.setIfInBounds_toArray, List.set_cons_zero, List.set_cons_succ]
  refine wpAnyH_take (i := 6) (oi := ⟨some 7, _, _, _, _, _⟩) (v := ?vvpa7) rfl (by kernel_rfl) (by kernel_rfl) (by kernel_rfl) (fun _ _ _ h => h) (Or.inl ⟨by rfl, ?yypa7⟩) hHeld ?rrpa7
  case yypa7 => (intro wq hSw; (try dsimp only at hSw); go_simp; first | done | with_reducible rfl)
  simp only [Act.put, List.setIfInBounds_toArray, List.set_cons_zero, List.set_cons_succ]
  refine wpAnyH_take (i := 7) (oi := ⟨some 14, _, _, _, _, _⟩) (v := ?vvpa8) rfl (by kernel_rfl) (by kernel_rfl) (by kernel_rfl) (fun _ _ _ h => h) (Or.inl ⟨by rfl, ?yypa8⟩) hHeld ?rrpa8
  case yypa8 => (intro wq hSw; (try dsimp only at hSw); go_simp; first | done | with_reducible rfl)
  simp only [Act.put, List.setIfInBounds_toArray, List.set_cons_zero, List.set_cons_succ]
  refine wpAnyH_take (i := 8) (oi := ⟨some 15, _, _, _, _, _⟩) (v := ?vvpa9) rfl (by kernel_rfl) (by kernel_rfl) (by kernel_rfl) (fun _ _ _ h => h) (Or.inl ⟨by rfl, ?yypa9⟩) hHeld ?rrpa9
  case yypa9 => (intro wq hSw; (try dsimp only at hSw); go_simp; first | done | with_reducible rfl)
  simp only [Act.put, List.setIfInBounds_toArray, List.set_cons_zero, List.set_cons_succ]
  refine wpAnyH_ready (rs := [9]) (by kernel_rfl) (by simp) ?_
  refine AllReadyH.cons (o := ⟨some 5, _, _, _, _, _⟩) rfl (fun K hK => ?_) AllReadyH.nil
  go_simp
  obtain ⟨n5, hn5⟩ : ∃ u, u = X.alloc (.cells #[.int .u64 0, .string ⟨#[]⟩, .bool false] 64) := ⟨_, rfl⟩
  obtain ⟨g5, hg5⟩ : ∃ g, g = X.heap.size := ⟨_, rfl⟩
  rw [← hn5, ← hg5]
  have HB5 : Hid (Below W.heap.size W n5) := Lib.hid (by rw [hn5]; exact below_then HBX.out (below_box _ _))
  have E5 : Hid (n5.heap[g5]? = some (.cells #[.int .u64 0, .string ⟨#[]⟩, .bool false] 64)) := Lib.hid (by rw [hn5, hg5]; exact heap_new _ _)
  have L5 : Hid (W.heap.size ≤ g5) := Lib.hid (by rw [hg5]; exact HBX.out.size)
  have z0 := cell_of_blk E5.out 0
  have z1 := cell_of_blk E5.out 1
  have z2 := cell_of_blk E5.out 2
  have y0 := frozen_of_blk E5.out 0
  have y1 := frozen_of_blk E5.out 1
  have y2 := frozen_of_blk E5.out 2
  simp at z0 z1 z2
  clear hn5 hg5
  refine hK.out _ _ ?sspa10 (fun hHeld => ?_)
  case sspa10 => (exact HS.out _ HB5.out)
  clear hK K
  try simp only [Act.put, List.setIfInBounds_toArray, List.set_cons_zero, List.set_cons_succ]
  refine wpAnyH_ready (rs := [10]) (by kernel_rfl) (by simp) ?_
  refine AllReadyH.cons (o := ⟨none, _, _, _, _, _⟩) rfl (fun K hK => ?_) AllReadyH.nil
  go_simp
  obtain ⟨U, hU⟩ : ∃ u, u = ((n5.setCell ⟨g5, 0, none⟩ (.int .u64 x.word)).setCell ⟨g5, 1, none⟩ (.string x.val)).setCell ⟨g5, 2, none⟩ (.bool x.has) := ⟨_, rfl⟩
  rw [← hU]
  have HBU : Hid (Below W.heap.size W U) := Lib.hid (by rw [hU]; exact ((HB5.out.setCell (p := ⟨g5, 0, none⟩) L5.out _).setCell (p := ⟨g5, 1, none⟩) L5.out _).setCell (p := ⟨g5, 2, none⟩) L5.out _)
  clear hU z0 z1 z2 y0 y1 y2
  refine hK.out _ _ ?sspa11 (fun hHeld => ?_)
  case sspa11 => (exact HS.out _ HBU.out)
  clear hK K
  try simp only [Act.put, List.setIfInBounds_toArray, List.set_cons_zero, List.set_cons_succ]
  refine wpAnyH_take (i := 11) (oi := ⟨some 6, _, _, _, _, _⟩) (v := ?vvpa12) rfl (by kernel_rfl) (by kernel_rfl) (by kernel_rfl) (fun _ _ _ h => h) (Or.inl ⟨by rfl, ?yypa12⟩) hHeld ?rrpa12
  case yypa12 => (intro wq hSw; (try dsimp only at hSw); go_simp; first | done | with_reducible rfl)
  simp only [Act.put, List.setIfInBounds_toArray, List.set_cons_zero, List.set_cons_succ]
  refine wpAnyH_done (by kernel_rfl) ?_ _
  clear hHeld
  go_wp2_with fail
  go_ret
  exact ⟨rfl, below_then HB.out HBU.out⟩
end Go.Proofs.Ytcghgnncmnoalaa
