/- Sets: Seen. Conditions: each contract's own premises. -/
import Derived.Test.YtcghgnncmnoalaaSx2
namespace Go.Proofs.Ytcghgnncmnoalaa
open Go.RowKit Go.Maps

set_option maxRecDepth 100000 in
set_option maxHeartbeats 1000000 in
theorem sxSeen_any {w : World} {sb bs bw bm ns nw nm : Nat} {gs : Ky → Option Sn} {gw gm : Ky → Option Tx} (h : StX w sb bs bw bm ns nw nm gs gw gm) {k : Ky} (hk : k.Ok) :
    Calls Try.prog 43 #[.pointer (some ⟨sb, 0, none⟩), .agg #[.int .i64 k.kind, .int .i64 k.a, .int .i64 k.b, .string k.s]] w fun e w' => e = .returned (.tuple #[((gs k).map Sn.v).getD Sn.zero, .bool (gs k).isSome]) ∧ Below w.heap.size w w' := by
  obtain ⟨W, hW⟩ : ∃ W, (w.alloc (.cells #[.int .i64 k.kind, .int .i64 k.a, .int .i64 k.b, .string k.s] 62)).alloc (.cells #[.int .u64 0, .string ⟨#[]⟩, .bool false] 64) = W := ⟨_, rfl⟩
  obtain ⟨kb, hkb⟩ : ∃ x, x = w.heap.size := ⟨_, rfl⟩
  obtain ⟨rb, hrb⟩ : ∃ x, x = w.heap.size + 1 := ⟨_, rfl⟩
  have bW : Below w.heap.size w W := by rw [← hW]; exact below_then (below_box _ _) (below_box _ _)
  have eW : W.heap[kb]? = some (.cells #[.int .i64 k.kind, .int .i64 k.a, .int .i64 k.b, .string k.s] 62) := by rw [← hW, hkb, Below.heap_alloc _ _ _ (by rw [size_alloc]; omega)]; exact heap_new _ _
  have eR : W.heap[rb]? = some (.cells #[.int .u64 0, .string ⟨#[]⟩, .bool false] 64) := by rw [← hW, hrb]; have := heap_new (w.alloc (.cells #[.int .i64 k.kind, .int .i64 k.a, .int .i64 k.b, .string k.s] 62)) (.cells #[.int .u64 0, .string ⟨#[]⟩, .bool false] 64); rwa [size_alloc] at this
  obtain ⟨x, q, hv, hq, _, _⟩ := sn_cases (gs k)
  rw [hq, hv]
  have HS : Hid (∀ u : World, Below W.heap.size W u → u.cell? ⟨sb, 0, none⟩ = some (.map (some bs)) ∧ u.cell? ⟨kb, 0, none⟩ = some (.int .i64 k.kind) ∧ u.cell? ⟨kb, 1, none⟩ = some (.int .i64 k.a) ∧ u.cell? ⟨kb, 2, none⟩ = some (.int .i64 k.b) ∧ u.cell? ⟨kb, 3, none⟩ = some (.string k.s) ∧
      (Instr.lookup 153 (.map (some bs)) (.agg #[.int .i64 k.kind, .int .i64 k.a, .int .i64 k.b, .string k.s]) true).run Try.prog u = .ok (.tuple #[.agg #[.int .u64 x.word, .string x.val, .bool x.has], .bool q]) u) := Lib.hid (fun u hu => by
    have h2 := (h.below bW).below hu
    have e2 := (hu.block _ (Array.getElem?_eq_some_iff.1 eW).1).trans eW
    have hl := h2.sm.look Try.underlying153 (zeroSn u) hk
    rw [hv, hq] at hl
    exact ⟨by simpa using cell_of_blk h2.blk 0, by simpa using cell_of_blk e2 0, by simpa using cell_of_blk e2 1, by simpa using cell_of_blk e2 2, by simpa using cell_of_blk e2 3, hl⟩)
  have HR : Hid (∀ u : World, Below W.heap.size W u → u.heap[rb]? = some (.cells #[.int .u64 0, .string ⟨#[]⟩, .bool false] 64)) := Lib.hid (fun u hu => (hu.block _ (Array.getElem?_eq_some_iff.1 eR).1).trans eR)
  have HB := Lib.hid bW
  have HW := Lib.hid hW
  have HKB := Lib.hid (And.intro hkb hrb)
  have HLR : Hid (w.heap.size ≤ rb) := Lib.hid (by omega)
  clear h hk bW eW hW hkb hrb hv hq eR
  go_enter Try.func43, Try.ntmps43
  go_upto_region 1 with fail
  rw [HW.out, ← HKB.out.2, ← HKB.out.1]
  refine wp_region_held_drew (S := (fun w' : World => w'.cell? ⟨sb, 0, none⟩ = some (.map (some bs)) ∧ w'.cell? ⟨kb, 0, none⟩ = some (.int .i64 k.kind) ∧ w'.cell? ⟨kb, 1, none⟩ = some (.int .i64 k.a) ∧ w'.cell? ⟨kb, 2, none⟩ = some (.int .i64 k.b) ∧ w'.cell? ⟨kb, 3, none⟩ = some (.string k.s) ∧ (Instr.lookup 153 (.map (some bs)) (.agg #[.int .i64 k.kind, .int .i64 k.a, .int .i64 k.b, .string k.s]) true).run Try.prog w' = .ok (.tuple #[.agg #[.int .u64 x.word, .string x.val, .bool x.has], .bool q]) w')) (by kernel_rfl) (HS.out _ (below_drewN (Below.refl _ _) 1)) (fun hHeld => ?_)
  obtain ⟨X, hGen⟩ : ∃ u, u = World.drew W := ⟨_, rfl⟩
  rw [← hGen] at hHeld ⊢
  have HBX : Hid (Below W.heap.size W X) := Lib.hid (by rw [hGen]; exact below_drewN (Below.refl _ _) 1)
  clear hGen
  refine wpAnyH_take (i := 0) (oi := ⟨some 9, _, _, _, _, _⟩) (v := ?vvpb1) rfl (by kernel_rfl) (by kernel_rfl) (by kernel_rfl) (fun _ _ _ h => h) (Or.inl ⟨by rfl, ?yypb1⟩) hHeld ?rrpb1
  case yypb1 => (intro wq hSw; (try dsimp only at hSw); go_simp; first | done | with_reducible rfl)
  simp only [Act.put, List.setIfInBounds_toArray, List.set_cons_zero, List.set_cons_succ]
  refine wpAnyH_take (i := 1) (oi := ⟨some 10, _, _, _, _, _⟩) (v := ?vvpb2) rfl (by kernel_rfl) (by kernel_rfl) (by kernel_rfl) (fun _ _ _ h => h) (Or.inl ⟨by rfl, ?yypb2⟩) hHeld ?rrpb2
  case yypb2 => (intro wq hSw; (try dsimp only at hSw); go_simp; first | done | with_reducible rfl)
  simp only [Act.put, List.setIfInBounds_toArray, List.set_cons_zero, List.set_cons_succ]
  refine wpAnyH_take (i := 2) (oi := ⟨some 11, _, _, _, _, _⟩) (v := ?vvpb3) rfl (by kernel_rfl) (by kernel_rfl) (by kernel_rfl) (fun _ _ _ h => h) (Or.inl ⟨by rfl, ?yypb3⟩) hHeld ?rrpb3
  case yypb3 => (intro wq hSw; (try dsimp only at hSw); go_simp; first | done | with_reducible rfl)
  simp only [Act.put, List.setIfInBounds_toArray, List.set_cons_zero, List.set_cons_succ]
  refine wpAnyH_take (i := 3) (oi := ⟨some 12, _, _, _, _, _⟩) (v := ?vvpb4) rfl (by kernel_rfl) (by kernel_rfl) (by kernel_rfl) (fun _ _ _ h => h) (Or.inl ⟨by rfl, ?yypb4⟩) hHeld ?rrpb4
  case yypb4 => (intro wq hSw; (try dsimp only at hSw); go_simp; first | done | with_reducible rfl)
  simp only [Act.put, List.setIfInBounds_toArray, List.set_cons_zero, List.set_cons_succ]
  refine wpAnyH_take (i := 4) (oi := ⟨some 13, _, _, _, _, _⟩) (v := ?vvpb5) rfl (by kernel_rfl) (by kernel_rfl) (by kernel_rfl) (fun _ _ _ h => h) (Or.inl ⟨by rfl, ?yypb5⟩) hHeld ?rrpb5
  case yypb5 => (intro wq hSw; (try dsimp only at hSw); go_simp; first | done | with_reducible rfl)
  simp only [Act.put, List.setIfInBounds_toArray, List.set_cons_zero, List.set_cons_succ]
  refine wpAnyH_take (i := 5) (oi := ⟨some 14, _, _, _, _, _⟩) (v := ?vvpb6) rfl (by kernel_rfl) (by kernel_rfl) (by kernel_rfl) (fun _ _ _ h => h) (Or.inl ⟨by rfl, ?yypb6⟩) hHeld ?rrpb6
  case yypb6 => (intro wq hSw; (try dsimp only at hSw); go_simp; first | done | with_reducible rfl)
  simp only [Act.put, List.setIfInBounds_toArray, List.set_cons_zero, List.set_cons_succ]
  refine wpAnyH_take (i := 6) (oi := ⟨some 8, _, _, _, _, _⟩) (v := ?vvpb7) rfl (by kernel_rfl) (by kernel_rfl) (by kernel_rfl) (fun _ _ _ h => h) (Or.inl ⟨by rfl, ?yypb7⟩) hHeld ?rrpb7
  case yypb7 => (intro wq hSw; (try dsimp only at hSw); go_simp; first | done | with_reducible rfl)
  simp only [Act.put, List.setIfInBounds_toArray, List.set_cons_zero, List.set_cons_succ]
  refine wpAnyH_take (i := 7) (oi := ⟨some 15, _, _, _, _, _⟩) (v := ?vvpb8) rfl (by kernel_rfl) (by kernel_rfl) (by kernel_rfl) (fun _ _ _ h => h) (Or.inl ⟨by rfl, ?yypb8⟩) hHeld ?rrpb8
  case yypb8 => (intro wq hSw; (try dsimp only at hSw); go_simp; first | done | with_reducible rfl)
  simp only [Act.put, List.setIfInBounds_toArray, List.set_cons_zero, List.set_cons_succ]
  refine wpAnyH_take (i := 8) (oi := ⟨some 16, _, _, _, _, _⟩) (v := ?vvpb9) rfl (by kernel_rfl) (by kernel_rfl) (by kernel_rfl) (fun _ _ _ h => h) (Or.inl ⟨by rfl, ?yypb9⟩) hHeld ?rrpb9
  case yypb9 => (intro wq hSw; (try dsimp only at hSw); go_simp; first | done | with_reducible rfl)
  simp only [Act.put, List.setIfInBounds_toArray, List.set_cons_zero, List.set_cons_succ]
  refine wpAnyH_ready (rs := [9]) (by kernel_rfl) (by simp) ?_
  refine AllReadyH.cons (o := ⟨some 6, _, _, _, _, _⟩) rfl (fun K hK => ?_) AllReadyH.nil
  go_simp
  obtain ⟨n5, hn5⟩ : ∃ u, u = X.alloc (.cells #[.int .u64 0, .string ⟨#[]⟩, .bool false] 64) := ⟨_, rfl⟩
  obtain ⟨g5, hg5⟩ : ∃ g, g = X.heap.size := ⟨_, rfl⟩
  rw [← hn5, ← hg5]
  have HB5 : Hid (Below W.heap.size W n5) := Lib.hid (by rw [hn5]; exact below_then HBX.out (below_box _ _))
  have E5 : Hid (n5.heap[g5]? = some (.cells #[.int .u64 0, .string ⟨#[]⟩, .bool false] 64)) := Lib.hid (by rw [hn5, hg5]; exact heap_new _ _)
  have L5 : Hid (W.heap.size ≤ g5) := Lib.hid (by rw [hg5]; exact HBX.out.size)
  have z0 := cell_of_blk E5.out 0
  have z1 := cell_of_blk E5.out 1
  have z2 := cell_of_blk E5.out 2
  have y0 := frozen_of_blk E5.out 0
  have y1 := frozen_of_blk E5.out 1
  have y2 := frozen_of_blk E5.out 2
  simp at z0 z1 z2
  clear hn5 hg5
  refine hK.out _ _ ?sspb10 (fun hHeld => ?_)
  case sspb10 => (exact HS.out _ HB5.out)
  clear hK K
  try simp only [Act.put, List.setIfInBounds_toArray, List.set_cons_zero, List.set_cons_succ]
  refine wpAnyH_ready (rs := [10]) (by kernel_rfl) (by simp) ?_
  refine AllReadyH.cons (o := ⟨none, _, _, _, _, _⟩) rfl (fun K hK => ?_) AllReadyH.nil
  go_simp
  obtain ⟨U, hU⟩ : ∃ u, u = ((n5.setCell ⟨g5, 0, none⟩ (.int .u64 x.word)).setCell ⟨g5, 1, none⟩ (.string x.val)).setCell ⟨g5, 2, none⟩ (.bool x.has) := ⟨_, rfl⟩
  rw [← hU]
  have HBU : Hid (Below W.heap.size W U) := Lib.hid (by rw [hU]; exact ((HB5.out.setCell (p := ⟨g5, 0, none⟩) L5.out _).setCell (p := ⟨g5, 1, none⟩) L5.out _).setCell (p := ⟨g5, 2, none⟩) L5.out _)
  have EU : Hid (U.heap[g5]? = some (.cells #[.int .u64 x.word, .string x.val, .bool x.has] 64)) := Lib.hid (by rw [hU, blk_setCell (blk_setCell (blk_setCell E5.out _) _) _]; rfl)
  clear hU z0 z1 z2 y0 y1 y2
  refine hK.out _ _ ?sspb11 (fun hHeld => ?_)
  case sspb11 => (exact HS.out _ HBU.out)
  clear hK K
  try simp only [Act.put, List.setIfInBounds_toArray, List.set_cons_zero, List.set_cons_succ]
  refine wpAnyH_take (i := 11) (oi := ⟨some 7, _, _, _, _, _⟩) (v := ?vvpb12) rfl (by kernel_rfl) (by kernel_rfl) (by kernel_rfl) (fun _ _ _ h => h) (Or.inl ⟨by rfl, ?yypb12⟩) hHeld ?rrpb12
  case yypb12 => (intro wq hSw; (try dsimp only at hSw); go_simp; first | done | with_reducible rfl)
  simp only [Act.put, List.setIfInBounds_toArray, List.set_cons_zero, List.set_cons_succ]
  refine wpAnyH_done (by kernel_rfl) ?_ _
  clear hHeld
  have r0 := cell_of_blk (HR.out _ HBU.out) 0
  have r1 := cell_of_blk (HR.out _ HBU.out) 1
  have r2 := cell_of_blk (HR.out _ HBU.out) 2
  have s0 := frozen_of_blk (HR.out _ HBU.out) 0
  have s1 := frozen_of_blk (HR.out _ HBU.out) 1
  have s2 := frozen_of_blk (HR.out _ HBU.out) 2
  have u0 := cell_of_blk EU.out 0
  have u1 := cell_of_blk EU.out 1
  have u2 := cell_of_blk EU.out 2
  simp at r0 r1 r2 u0 u1 u2
  go_wp2_with fail
  have er := HR.out _ HBU.out
  refine bodyPost_ret (v := .tuple #[.agg #[.int .u64 x.word, .string x.val, .bool x.has], .bool q]) ?_ rfl ⟨rfl, ?_⟩
  · have e1 := blk_setCell (blk_setCell (blk_setCell er (.int .u64 x.word) (i := 0)) (.string x.val) (i := 1)) (.bool x.has) (i := 2)
    have d0 := cell_of_blk e1 0
    have d1 := cell_of_blk e1 1
    have d2 := cell_of_blk e1 2
    simp at d0 d1 d2
    simp [results, Try.results43, go_sem, d0, d1, d2]
  · exact (((below_then HB.out HBU.out).setCell (p := ⟨rb, 0, none⟩) HLR.out _).setCell (p := ⟨rb, 1, none⟩) HLR.out _).setCell (p := ⟨rb, 2, none⟩) HLR.out _
end Go.Proofs.Ytcghgnncmnoalaa
