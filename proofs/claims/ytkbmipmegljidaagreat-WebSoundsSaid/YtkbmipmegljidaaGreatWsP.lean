/- graph.AddEdge. Conditions: each contract's own premises. graph.Edge, graph.Vertex. Conditions: each contract's own premises. -/
import Derived.Test.YtkbmipmegljidaaGreatGr3
namespace Go.Proofs.YtkbmipmegljidaaGreat
open Go.RowKit Go.Maps

theorem adde_cells {u w' : World} {gb vb eb kb : Nat} {V : List Vt} {E : List Eg} {v : Eg} {a : Option Addr} {c : Nat} (hg : GrC u gb vb eb V E) (hb : u.heap[kb]? = some (.cells #[.int .i64 v.id, .string v.label, .int .i64 v.fr, .int .i64 v.to, .slice a v.ps.length c] 32)) (h : Below u.heap.size u w') :
    w'.cell? ⟨gb, 0, none⟩ = some (.map (some vb)) ∧ w'.cell? ⟨gb, 1, none⟩ = some (.map (some eb)) ∧ w'.cell? ⟨kb, 0, none⟩ = some (.int .i64 v.id) ∧ w'.cell? ⟨kb, 1, none⟩ = some (.string v.label) ∧ w'.cell? ⟨kb, 2, none⟩ = some (.int .i64 v.fr) ∧ w'.cell? ⟨kb, 3, none⟩ = some (.int .i64 v.to) ∧ w'.cell? ⟨kb, 4, none⟩ = some (.slice a v.ps.length c) := by
  have e1 := (h.block _ hg.lt).trans hg.blk
  have e2 := (h.block _ (Array.getElem?_eq_some_iff.1 hb).1).trans hb
  exact ⟨by rw [cell_of_blk e1]; rfl, by rw [cell_of_blk e1]; rfl, by rw [cell_of_blk e2]; rfl, by rw [cell_of_blk e2]; rfl, by rw [cell_of_blk e2]; rfl, by rw [cell_of_blk e2]; rfl, by rw [cell_of_blk e2]; rfl⟩
theorem lookV' {w : World} {gb vb eb : Nat} {V : List Vt} {E : List Eg} (h : GrC w gb vb eb V E) {n : Int} (hn : I64 n) :
    ∃ (i : Int) (s : ByteArray) (a : Option Addr) (m c : Nat) (k : Bool), (Instr.lookup 77 (.map (some vb)) (.int .i64 n) true).run Tryz.prog w = .ok (.tuple #[.agg #[.int .i64 i, .string s, .slice a m c], .bool k]) w ∧ k = (findB Vt.id V n).isSome := by
  cases hf : findB Vt.id V n with
  | none => exact ⟨_, _, _, _, _, _, (lookV h hn).1 hf, rfl⟩
  | some y =>
    obtain ⟨a, c, h1, _⟩ := (lookV h hn).2 y hf
    exact ⟨_, _, _, _, _, _, h1, rfl⟩
theorem lookE' {w : World} {gb vb eb : Nat} {V : List Vt} {E : List Eg} (h : GrC w gb vb eb V E) {n : Int} (hn : I64 n) :
    ∃ (i : Int) (s : ByteArray) (f t : Int) (a : Option Addr) (m c : Nat) (k : Bool), (Instr.lookup 78 (.map (some eb)) (.int .i64 n) true).run Tryz.prog w = .ok (.tuple #[.agg #[.int .i64 i, .string s, .int .i64 f, .int .i64 t, .slice a m c], .bool k]) w ∧ k = (findB Eg.id E n).isSome := by
  cases hf : findB Eg.id E n with
  | none => exact ⟨_, _, _, _, _, _, _, _, (lookE h hn).1 hf, rfl⟩
  | some y =>
    obtain ⟨a, c, h1, _⟩ := (lookE h hn).2 y hf
    exact ⟨_, _, _, _, _, _, _, _, h1, rfl⟩
section
variable {V : List Vt} {E : List Eg} {v : Eg}
theorem adde_twice (hc : checkR v.label v.ps [v.id, v.fr, v.to] = 0) (h1 : true = (findB Eg.id E v.id).isSome) : addE V E v = (31, E) := by
  unfold addE; rw [if_pos hc, if_pos h1.symm]
theorem adde_none (hc : checkR v.label v.ps [v.id, v.fr, v.to] = 0) (h1 : false = (findB Eg.id E v.id).isSome) (h2 : false = (findB Vt.id V v.fr).isSome ∨ false = (findB Vt.id V v.to).isSome) : addE V E v = (101, E) := by
  unfold addE; rw [if_pos hc, if_neg (by rw [← h1]; simp), if_pos]
  rcases h2 with h2 | h2
  · have : findB Vt.id V v.fr = none := by simpa using h2.symm
    simp [this]
  · have : findB Vt.id V v.to = none := by simpa using h2.symm
    simp [this]
theorem adde_ok (hc : checkR v.label v.ps [v.id, v.fr, v.to] = 0) (h1 : false = (findB Eg.id E v.id).isSome) (h2 : true = (findB Vt.id V v.fr).isSome) (h3 : true = (findB Vt.id V v.to).isSome) : addE V E v = (0, insB Eg.id v E) := by
  unfold addE; rw [if_pos hc, if_neg (by rw [← h1]; simp), if_neg]
  simp only [Bool.or_eq_true, not_or, Option.isNone_iff_eq_none]
  exact ⟨(fun e => by rw [e] at h2; cases h2), (fun e => by rw [e] at h3; cases h3)⟩
end
set_option maxRecDepth 100000 in
set_option maxHeartbeats 4000000 in
theorem gaddE_any (gb vb eb : Nat) (V : List Vt) (E : List Eg) (v : Eg) (a : Option Addr) (c : Nat) (w : World) (h : GrC w gb vb eb V E) (hp : PsA w a c v.ps) (hl : v.ps.length ≤ 100000) (hid : I64 v.id ∧ I64 v.fr ∧ I64 v.to) (hlab : v.label.size ≤ maxLen) (hvl : E.length < maxLen) :
    Calls Tryz.prog 60 #[.pointer (some ⟨gb, 0, none⟩), v.val a c] w (AePost w gb vb eb V E v) := by
  have HX0 := Lib.hid (heap_new w (.cells #[.int .i64 v.id, .string v.label, .int .i64 v.fr, .int .i64 v.to, .slice a v.ps.length c] 32))
  have HW0 := Lib.hid ((below_box w (.cells #[.int .i64 v.id, .string v.label, .int .i64 v.fr, .int .i64 v.to, .slice a v.ps.length c] 32)).alloc (by simp) (.cells #[.int .i64 v.id, .int .i64 v.fr, .int .i64 v.to] 3))
  have HIDS : Hid (IsV ((w.alloc (.cells #[.int .i64 v.id, .string v.label, .int .i64 v.fr, .int .i64 v.to, .slice a v.ps.length c] 32)).alloc (.cells #[.int .i64 v.id, .int .i64 v.fr, .int .i64 v.to] 3)) (some ⟨w.heap.size + 1, 0, none⟩) [v.id, v.fr, v.to]) := Lib.hid (ids_at (heap_new2 w _ _) (by simp [hid.1, hid.2.1, hid.2.2]))
  have HG := Lib.hid h
  have HPA := Lib.hid hp
  have HPL := Lib.hid hl
  have HID := Lib.hid hid
  have HVL := Lib.hid hvl
  have HLB := Lib.hid hlab
  clear h hp hl hid hvl hlab
  unfold Eg.val
  go_enter Tryz.func60, Tryz.ntmps60
  go_wp2_with fail
  refine (check_any v.label a _ c 3 v.ps [v.id, v.fr, v.to] _ HLB.out (HPA.out.v.below HW0.out) HIDS.out HPL.out (by simp)).mono ?_
  rintro e w1 ⟨rfl, b1⟩
  have HB1 : Hid (w1.heap[w.heap.size]? = some (.cells #[.int .i64 v.id, .string v.label, .int .i64 v.fr, .int .i64 v.to, .slice a v.ps.length c] 32)) := Lib.hid ((b1.block _ (by simp; omega)).trans ((Below.heap_alloc _ _ _ (by simp)).trans HX0.out))
  have HBW : Hid (Below w.heap.size w w1) := Lib.hid (HW0.out.trans (b1.mono (by simp; omega)))
  replace HPA : Hid (PsA w1 a c v.ps) := Lib.hid (HPA.out.below HBW.out)
  have HG1 : Hid (GrC w1 gb vb eb V E) := Lib.hid (HG.out.below HBW.out)
  clear b1 HG HIDS
  by_cases hck : checkR v.label v.ps [v.id, v.fr, v.to] = 0
  · rw [hck]
    have HCK := Lib.hid hck
    clear hck
    obtain ⟨i1, s1, f1, t1, a1, n1, c1, k1, hlk, hqHSe⟩ := lookE' HG1.out (HID.out.1)
    have HQHSe := Lib.hid hqHSe
    obtain ⟨fm, mm, _⟩ := HG1.out.em
    have HSe : Hid (∀ w' : World, Below w1.heap.size w1 w' → w'.cell? ⟨gb, 0, none⟩ = some (.map (some vb)) ∧ w'.cell? ⟨gb, 1, none⟩ = some (.map (some eb)) ∧ w'.cell? ⟨w.heap.size, 0, none⟩ = some (.int .i64 v.id) ∧ w'.cell? ⟨w.heap.size, 1, none⟩ = some (.string v.label) ∧ w'.cell? ⟨w.heap.size, 2, none⟩ = some (.int .i64 v.fr) ∧ w'.cell? ⟨w.heap.size, 3, none⟩ = some (.int .i64 v.to) ∧ w'.cell? ⟨w.heap.size, 4, none⟩ = some (.slice a v.ps.length c) ∧ (Instr.lookup 78 (.map (some eb)) (.int .i64 v.id) true).run Tryz.prog w' = .ok (.tuple #[.agg #[.int .i64 i1, .string s1, .int .i64 f1, .int .i64 t1, .slice a1 n1 c1], .bool k1]) w') := Lib.hid (fun w' hb => by
        obtain ⟨x1, x2, x3, x4, x5, x6, x7⟩ := adde_cells HG1.out HB1.out hb
        exact ⟨x1, x2, x3, x4, x5, x6, x7, look_stay mm lawI Tryz.underlying78 zeroE (keyI (HID.out.1)) hlk (hb.block _ mm.lt)⟩)
    clear hlk mm hqHSe
    go_upto_region 4 with fail
    refine wp_region_held_drew (S := (fun w' : World => w'.cell? ⟨gb, 0, none⟩ = some (.map (some vb)) ∧ w'.cell? ⟨gb, 1, none⟩ = some (.map (some eb)) ∧ w'.cell? ⟨w.heap.size, 0, none⟩ = some (.int .i64 v.id) ∧ w'.cell? ⟨w.heap.size, 1, none⟩ = some (.string v.label) ∧ w'.cell? ⟨w.heap.size, 2, none⟩ = some (.int .i64 v.fr) ∧ w'.cell? ⟨w.heap.size, 3, none⟩ = some (.int .i64 v.to) ∧ w'.cell? ⟨w.heap.size, 4, none⟩ = some (.slice a v.ps.length c) ∧ (Instr.lookup 78 (.map (some eb)) (.int .i64 v.id) true).run Tryz.prog w' = .ok (.tuple #[.agg #[.int .i64 i1, .string s1, .int .i64 f1, .int .i64 t1, .slice a1 n1 c1], .bool k1]) w')) (by kernel_rfl) (HSe.out _ (below_drewN (Below.refl _ _) 1)) (fun hHeld => ?_)
    obtain ⟨Xe, hGen⟩ : ∃ u, u = World.drew w1 := ⟨_, rfl⟩
    rw [← hGen] at hHeld ⊢
    have HXe : Hid (Below w1.heap.size w1 Xe) := Lib.hid (by rw [hGen]; exact below_drewN (Below.refl _ _) 1)
    clear hGen
    refine wpAnyH_take (i := 0) (oi := ⟨some 28, _, _, _, _, _⟩) (v := ?vvqe1) rfl (by kernel_rfl) (by kernel_rfl) (by kernel_rfl) (fun _ _ _ h => h) (Or.inl ⟨by rfl, ?yyqe1⟩) hHeld ?rrqe1
    case yyqe1 => (intro wq hSw; (try dsimp only at hSw); go_simp; first | done | with_reducible rfl)
    simp only [Act.put, List.setIfInBounds_toArray, List.set_cons_zero, List.set_cons_succ]
    refine wpAnyH_take (i := 1) (oi := ⟨some 29, _, _, _, _, _⟩) (v := ?vvqe2) rfl (by kernel_rfl) (by kernel_rfl) (by kernel_rfl) (fun _ _ _ h => h) (Or.inl ⟨by rfl, ?yyqe2⟩) hHeld ?rrqe2
    case yyqe2 => (intro wq hSw; (try dsimp only at hSw); go_simp; first | done | with_reducible rfl)
    simp only [Act.put, List.setIfInBounds_toArray, List.set_cons_zero, List.set_cons_succ]
    refine wpAnyH_take (i := 2) (oi := ⟨some 30, _, _, _, _, _⟩) (v := ?vvqe3) rfl (by kernel_rfl) (by kernel_rfl) (by kernel_rfl) (fun _ _ _ h => h) (Or.inl ⟨by rfl, ?yyqe3⟩) hHeld ?rrqe3
    case yyqe3 => (intro wq hSw; (try dsimp only at hSw); go_simp; first | done | with_reducible rfl)
    simp only [Act.put, List.setIfInBounds_toArray, List.set_cons_zero, List.set_cons_succ]
    refine wpAnyH_take (i := 3) (oi := ⟨some 31, _, _, _, _, _⟩) (v := ?vvqe4) rfl (by kernel_rfl) (by kernel_rfl) (by kernel_rfl) (fun _ _ _ h => h) (Or.inl ⟨by rfl, ?yyqe4⟩) hHeld ?rrqe4
    case yyqe4 => (intro wq hSw; (try dsimp only at hSw); go_simp; first | done | with_reducible rfl)
    simp only [Act.put, List.setIfInBounds_toArray, List.set_cons_zero, List.set_cons_succ]
    refine wpAnyH_take (i := 4) (oi := ⟨some 32, _, _, _, _, _⟩) (v := ?vvqe5) rfl (by kernel_rfl) (by kernel_rfl) (by kernel_rfl) (fun _ _ _ h => h) (Or.inl ⟨by rfl, ?yyqe5⟩) hHeld ?rrqe5
    case yyqe5 => (intro wq hSw; (try dsimp only at hSw); go_simp; first | done | with_reducible rfl)
    simp only [Act.put, List.setIfInBounds_toArray, List.set_cons_zero, List.set_cons_succ]
    refine wpAnyH_take (i := 5) (oi := ⟨some 33, _, _, _, _, _⟩) (v := ?vvqe6) rfl (by kernel_rfl) (by kernel_rfl) (by kernel_rfl) (fun _ _ _ h => h) (Or.inl ⟨by rfl, ?yyqe6⟩) hHeld ?rrqe6
    case yyqe6 => (intro wq hSw; (try dsimp only at hSw); go_simp; first | done | with_reducible rfl)
    simp only [Act.put, List.setIfInBounds_toArray, List.set_cons_zero, List.set_cons_succ]
    refine wpAnyH_take (i := 6) (oi := ⟨some 34, _, _, _, _, _⟩) (v := ?vvqe7) rfl (by kernel_rfl) (by kernel_rfl) (by kernel_rfl) (fun _ _ _ h => h) (Or.inl ⟨by rfl, ?yyqe7⟩) hHeld ?rrqe7
    case yyqe7 => (intro wq hSw; (try dsimp only at hSw); go_simp; first | done | with_reducible rfl)
    simp only [Act.put, List.setIfInBounds_toArray, List.set_cons_zero, List.set_cons_succ]
    refine wpAnyH_take (i := 7) (oi := ⟨some 27, _, _, _, _, _⟩) (v := ?vvqe8) rfl (by kernel_rfl) (by kernel_rfl) (by kernel_rfl) (fun _ _ _ h => h) (Or.inl ⟨by rfl, ?yyqe8⟩) hHeld ?rrqe8
    case yyqe8 => (intro wq hSw; (try dsimp only at hSw); go_simp; first | done | with_reducible rfl)
    simp only [Act.put, List.setIfInBounds_toArray, List.set_cons_zero, List.set_cons_succ]
    refine wpAnyH_take (i := 8) (oi := ⟨some 35, _, _, _, _, _⟩) (v := ?vvqe9) rfl (by kernel_rfl) (by kernel_rfl) (by kernel_rfl) (fun _ _ _ h => h) (Or.inl ⟨by rfl, ?yyqe9⟩) hHeld ?rrqe9
    case yyqe9 => (intro wq hSw; (try dsimp only at hSw); go_simp; first | done | with_reducible rfl)
    simp only [Act.put, List.setIfInBounds_toArray, List.set_cons_zero, List.set_cons_succ]
    refine wpAnyH_take (i := 9) (oi := ⟨some 36, _, _, _, _, _⟩) (v := ?vvqe10) rfl (by kernel_rfl) (by kernel_rfl) (by kernel_rfl) (fun _ _ _ h => h) (Or.inl ⟨by rfl, ?yyqe10⟩) hHeld ?rrqe10
    case yyqe10 => (intro wq hSw; (try dsimp only at hSw); go_simp; first | done | with_reducible rfl)
    simp only [Act.put, List.setIfInBounds_toArray, List.set_cons_zero, List.set_cons_succ]
    refine wpAnyH_ready (rs := [10]) (by kernel_rfl) (by simp) ?_
    refine AllReadyH.cons (o := ⟨some 6, _, _, _, _, _⟩) rfl (fun K hK => ?_) AllReadyH.nil
    go_simp
    obtain ⟨ne, hn⟩ : ∃ u, u = Xe.alloc (.cells #[.int .i64 0, .string ⟨#[]⟩, .int .i64 0, .int .i64 0, .slice none 0 0] 32) := ⟨_, rfl⟩
    obtain ⟨ge, hg⟩ : ∃ g, g = Xe.heap.size := ⟨_, rfl⟩
    rw [← hn, ← hg]
    have HAe : Hid (Below w1.heap.size w1 ne) := Lib.hid (by rw [hn]; exact below_then HXe.out (below_box _ _))
    have Ee : Hid (ne.heap[ge]? = some (.cells #[.int .i64 0, .string ⟨#[]⟩, .int .i64 0, .int .i64 0, .slice none 0 0] 32)) := Lib.hid (by rw [hn, hg]; exact heap_new _ _)
    have Le : Hid (w1.heap.size ≤ ge) := Lib.hid (by rw [hg]; exact HXe.out.size)
    clear hn hg
    try dsimp only
    refine hK.out _ _ ?ssqe11 (fun hHeld => ?_)
    case ssqe11 => (exact HSe.out _ HAe.out)
    clear hK K
    try simp only [Act.put, List.setIfInBounds_toArray, List.set_cons_zero, List.set_cons_succ]
    refine wpAnyH_ready (rs := [11]) (by kernel_rfl) (by simp) ?_
    refine AllReadyH.cons (o := ⟨none, _, _, _, _, _⟩) rfl (fun K hK => ?_) AllReadyH.nil
    have z0 := cell_of_blk Ee.out 0
    have z1 := cell_of_blk Ee.out 1
    have z2 := cell_of_blk Ee.out 2
    have z3 := cell_of_blk Ee.out 3
    have z4 := cell_of_blk Ee.out 4
    have y0 := frozen_of_blk Ee.out 0
    have y1 := frozen_of_blk Ee.out 1
    have y2 := frozen_of_blk Ee.out 2
    have y3 := frozen_of_blk Ee.out 3
    have y4 := frozen_of_blk Ee.out 4
    simp at z0 z1 z2 z3 z4
    go_simp
    obtain ⟨ue, hU⟩ : ∃ u, u = (((((ne.setCell ⟨ge, 0, none⟩ (.int .i64 i1)).setCell ⟨ge, 1, none⟩ (.string s1)).setCell ⟨ge, 2, none⟩ (.int .i64 f1)).setCell ⟨ge, 3, none⟩ (.int .i64 t1)).setCell ⟨ge, 4, none⟩ (.slice a1 n1 c1)) := ⟨_, rfl⟩
    rw [← hU]
    have HCe : Hid (Below w1.heap.size w1 ue) := Lib.hid (by rw [hU]; exact (((((HAe.out.setCell (p := ⟨ge, 0, none⟩) Le.out _).setCell (p := ⟨ge, 1, none⟩) Le.out _).setCell (p := ⟨ge, 2, none⟩) Le.out _).setCell (p := ⟨ge, 3, none⟩) Le.out _).setCell (p := ⟨ge, 4, none⟩) Le.out _))
    clear hU z0 y0 z1 y1 z2 y2 z3 y3 z4 y4
    try dsimp only
    refine hK.out _ _ ?ssqe12 (fun hHeld => ?_)
    case ssqe12 => (exact HSe.out _ HCe.out)
    clear hK K
    try simp only [Act.put, List.setIfInBounds_toArray, List.set_cons_zero, List.set_cons_succ]
    refine wpAnyH_take (i := 12) (oi := ⟨some 7, _, _, _, _, _⟩) (v := ?vvqe13) rfl (by kernel_rfl) (by kernel_rfl) (by kernel_rfl) (fun _ _ _ h => h) (Or.inl ⟨by rfl, ?yyqe13⟩) hHeld ?rrqe13
    case yyqe13 => (intro wq hSw; (try dsimp only at hSw); go_simp; first | done | with_reducible rfl)
    simp only [Act.put, List.setIfInBounds_toArray, List.set_cons_zero, List.set_cons_succ]
    refine wpAnyH_done (by kernel_rfl) ?_ _
    clear hHeld
    obtain ⟨u2, hu2⟩ : ∃ u, u = ue := ⟨_, rfl⟩
    rw [← hu2] at HCe ⊢
    clear hu2
    replace HG1 : Hid (GrC u2 gb vb eb V E) := Lib.hid (HG1.out.below HCe.out)
    replace HBW : Hid (Below w.heap.size w u2) := Lib.hid (HBW.out.trans (HCe.out.mono HBW.out.size))
    replace HPA : Hid (PsA u2 a c v.ps) := Lib.hid (HPA.out.below HCe.out)
    replace HB1 : Hid (u2.heap[w.heap.size]? = some (.cells #[.int .i64 v.id, .string v.label, .int .i64 v.fr, .int .i64 v.to, .slice a v.ps.length c] 32)) := Lib.hid ((HCe.out.block _ (Array.getElem?_eq_some_iff.1 HB1.out).1).trans HB1.out)
    clear HCe
    obtain ⟨i2, s2, a2, n2, c2, k2, hlk, hqHSf⟩ := lookV' HG1.out (HID.out.2.1)
    have HQHSf := Lib.hid hqHSf
    obtain ⟨fm, mm, _⟩ := HG1.out.vm
    have HSf : Hid (∀ w' : World, Below u2.heap.size u2 w' → w'.cell? ⟨gb, 0, none⟩ = some (.map (some vb)) ∧ w'.cell? ⟨gb, 1, none⟩ = some (.map (some eb)) ∧ w'.cell? ⟨w.heap.size, 0, none⟩ = some (.int .i64 v.id) ∧ w'.cell? ⟨w.heap.size, 1, none⟩ = some (.string v.label) ∧ w'.cell? ⟨w.heap.size, 2, none⟩ = some (.int .i64 v.fr) ∧ w'.cell? ⟨w.heap.size, 3, none⟩ = some (.int .i64 v.to) ∧ w'.cell? ⟨w.heap.size, 4, none⟩ = some (.slice a v.ps.length c) ∧ (Instr.lookup 77 (.map (some vb)) (.int .i64 v.fr) true).run Tryz.prog w' = .ok (.tuple #[.agg #[.int .i64 i2, .string s2, .slice a2 n2 c2], .bool k2]) w') := Lib.hid (fun w' hb => by
        obtain ⟨x1, x2, x3, x4, x5, x6, x7⟩ := adde_cells HG1.out HB1.out hb
        exact ⟨x1, x2, x3, x4, x5, x6, x7, look_stay mm lawI Tryz.underlying77 zeroV (keyI (HID.out.2.1)) hlk (hb.block _ mm.lt)⟩)
    clear hlk mm hqHSf
    go_upto_region 5 with fail
    refine wp_region_held_drew (S := (fun w' : World => w'.cell? ⟨gb, 0, none⟩ = some (.map (some vb)) ∧ w'.cell? ⟨gb, 1, none⟩ = some (.map (some eb)) ∧ w'.cell? ⟨w.heap.size, 0, none⟩ = some (.int .i64 v.id) ∧ w'.cell? ⟨w.heap.size, 1, none⟩ = some (.string v.label) ∧ w'.cell? ⟨w.heap.size, 2, none⟩ = some (.int .i64 v.fr) ∧ w'.cell? ⟨w.heap.size, 3, none⟩ = some (.int .i64 v.to) ∧ w'.cell? ⟨w.heap.size, 4, none⟩ = some (.slice a v.ps.length c) ∧ (Instr.lookup 77 (.map (some vb)) (.int .i64 v.fr) true).run Tryz.prog w' = .ok (.tuple #[.agg #[.int .i64 i2, .string s2, .slice a2 n2 c2], .bool k2]) w')) (by kernel_rfl) (HSf.out _ (below_drewN (Below.refl _ _) 1)) (fun hHeld => ?_)
    obtain ⟨Xf, hGen⟩ : ∃ u, u = World.drew u2 := ⟨_, rfl⟩
    rw [← hGen] at hHeld ⊢
    have HXf : Hid (Below u2.heap.size u2 Xf) := Lib.hid (by rw [hGen]; exact below_drewN (Below.refl _ _) 1)
    clear hGen
    refine wpAnyH_take (i := 0) (oi := ⟨some 38, _, _, _, _, _⟩) (v := ?vvqf1) rfl (by kernel_rfl) (by kernel_rfl) (by kernel_rfl) (fun _ _ _ h => h) (Or.inl ⟨by rfl, ?yyqf1⟩) hHeld ?rrqf1
    case yyqf1 => (intro wq hSw; (try dsimp only at hSw); go_simp; first | done | with_reducible rfl)
    simp only [Act.put, List.setIfInBounds_toArray, List.set_cons_zero, List.set_cons_succ]
    refine wpAnyH_take (i := 1) (oi := ⟨some 39, _, _, _, _, _⟩) (v := ?vvqf2) rfl (by kernel_rfl) (by kernel_rfl) (by kernel_rfl) (fun _ _ _ h => h) (Or.inl ⟨by rfl, ?yyqf2⟩) hHeld ?rrqf2
    case yyqf2 => (intro wq hSw; (try dsimp only at hSw); go_simp; first | done | with_reducible rfl)
    simp only [Act.put, List.setIfInBounds_toArray, List.set_cons_zero, List.set_cons_succ]
    refine wpAnyH_take (i := 2) (oi := ⟨some 40, _, _, _, _, _⟩) (v := ?vvqf3) rfl (by kernel_rfl) (by kernel_rfl) (by kernel_rfl) (fun _ _ _ h => h) (Or.inl ⟨by rfl, ?yyqf3⟩) hHeld ?rrqf3
    case yyqf3 => (intro wq hSw; (try dsimp only at hSw); go_simp; first | done | with_reducible rfl)
    simp only [Act.put, List.setIfInBounds_toArray, List.set_cons_zero, List.set_cons_succ]
    refine wpAnyH_take (i := 3) (oi := ⟨some 41, _, _, _, _, _⟩) (v := ?vvqf4) rfl (by kernel_rfl) (by kernel_rfl) (by kernel_rfl) (fun _ _ _ h => h) (Or.inl ⟨by rfl, ?yyqf4⟩) hHeld ?rrqf4
    case yyqf4 => (intro wq hSw; (try dsimp only at hSw); go_simp; first | done | with_reducible rfl)
    simp only [Act.put, List.setIfInBounds_toArray, List.set_cons_zero, List.set_cons_succ]
    refine wpAnyH_take (i := 4) (oi := ⟨some 42, _, _, _, _, _⟩) (v := ?vvqf5) rfl (by kernel_rfl) (by kernel_rfl) (by kernel_rfl) (fun _ _ _ h => h) (Or.inl ⟨by rfl, ?yyqf5⟩) hHeld ?rrqf5
    case yyqf5 => (intro wq hSw; (try dsimp only at hSw); go_simp; first | done | with_reducible rfl)
    simp only [Act.put, List.setIfInBounds_toArray, List.set_cons_zero, List.set_cons_succ]
    refine wpAnyH_take (i := 5) (oi := ⟨some 43, _, _, _, _, _⟩) (v := ?vvqf6) rfl (by kernel_rfl) (by kernel_rfl) (by kernel_rfl) (fun _ _ _ h => h) (Or.inl ⟨by rfl, ?yyqf6⟩) hHeld ?rrqf6
    case yyqf6 => (intro wq hSw; (try dsimp only at hSw); go_simp; first | done | with_reducible rfl)
    simp only [Act.put, List.setIfInBounds_toArray, List.set_cons_zero, List.set_cons_succ]
    refine wpAnyH_take (i := 6) (oi := ⟨some 44, _, _, _, _, _⟩) (v := ?vvqf7) rfl (by kernel_rfl) (by kernel_rfl) (by kernel_rfl) (fun _ _ _ h => h) (Or.inl ⟨by rfl, ?yyqf7⟩) hHeld ?rrqf7
    case yyqf7 => (intro wq hSw; (try dsimp only at hSw); go_simp; first | done | with_reducible rfl)
    simp only [Act.put, List.setIfInBounds_toArray, List.set_cons_zero, List.set_cons_succ]
    refine wpAnyH_take (i := 7) (oi := ⟨some 37, _, _, _, _, _⟩) (v := ?vvqf8) rfl (by kernel_rfl) (by kernel_rfl) (by kernel_rfl) (fun _ _ _ h => h) (Or.inl ⟨by rfl, ?yyqf8⟩) hHeld ?rrqf8
    case yyqf8 => (intro wq hSw; (try dsimp only at hSw); go_simp; first | done | with_reducible rfl)
    simp only [Act.put, List.setIfInBounds_toArray, List.set_cons_zero, List.set_cons_succ]
    refine wpAnyH_take (i := 8) (oi := ⟨some 45, _, _, _, _, _⟩) (v := ?vvqf9) rfl (by kernel_rfl) (by kernel_rfl) (by kernel_rfl) (fun _ _ _ h => h) (Or.inl ⟨by rfl, ?yyqf9⟩) hHeld ?rrqf9
    case yyqf9 => (intro wq hSw; (try dsimp only at hSw); go_simp; first | done | with_reducible rfl)
    simp only [Act.put, List.setIfInBounds_toArray, List.set_cons_zero, List.set_cons_succ]
    refine wpAnyH_take (i := 9) (oi := ⟨some 46, _, _, _, _, _⟩) (v := ?vvqf10) rfl (by kernel_rfl) (by kernel_rfl) (by kernel_rfl) (fun _ _ _ h => h) (Or.inl ⟨by rfl, ?yyqf10⟩) hHeld ?rrqf10
    case yyqf10 => (intro wq hSw; (try dsimp only at hSw); go_simp; first | done | with_reducible rfl)
    simp only [Act.put, List.setIfInBounds_toArray, List.set_cons_zero, List.set_cons_succ]
    refine wpAnyH_ready (rs := [10]) (by kernel_rfl) (by simp) ?_
    refine AllReadyH.cons (o := ⟨some 8, _, _, _, _, _⟩) rfl (fun K hK => ?_) AllReadyH.nil
    go_simp
    obtain ⟨nf, hn⟩ : ∃ u, u = Xf.alloc (.cells #[.int .i64 0, .string ⟨#[]⟩, .slice none 0 0] 30) := ⟨_, rfl⟩
    obtain ⟨gf, hg⟩ : ∃ g, g = Xf.heap.size := ⟨_, rfl⟩
    rw [← hn, ← hg]
    have HAf : Hid (Below u2.heap.size u2 nf) := Lib.hid (by rw [hn]; exact below_then HXf.out (below_box _ _))
    have Ef : Hid (nf.heap[gf]? = some (.cells #[.int .i64 0, .string ⟨#[]⟩, .slice none 0 0] 30)) := Lib.hid (by rw [hn, hg]; exact heap_new _ _)
    have Lf : Hid (u2.heap.size ≤ gf) := Lib.hid (by rw [hg]; exact HXf.out.size)
    clear hn hg
    try dsimp only
    refine hK.out _ _ ?ssqf11 (fun hHeld => ?_)
    case ssqf11 => (exact HSf.out _ HAf.out)
    clear hK K
    try simp only [Act.put, List.setIfInBounds_toArray, List.set_cons_zero, List.set_cons_succ]
    refine wpAnyH_ready (rs := [11]) (by kernel_rfl) (by simp) ?_
    refine AllReadyH.cons (o := ⟨none, _, _, _, _, _⟩) rfl (fun K hK => ?_) AllReadyH.nil
    have z0 := cell_of_blk Ef.out 0
    have z1 := cell_of_blk Ef.out 1
    have z2 := cell_of_blk Ef.out 2
    have y0 := frozen_of_blk Ef.out 0
    have y1 := frozen_of_blk Ef.out 1
    have y2 := frozen_of_blk Ef.out 2
    simp at z0 z1 z2
    go_simp
    obtain ⟨uf, hU⟩ : ∃ u, u = (((nf.setCell ⟨gf, 0, none⟩ (.int .i64 i2)).setCell ⟨gf, 1, none⟩ (.string s2)).setCell ⟨gf, 2, none⟩ (.slice a2 n2 c2)) := ⟨_, rfl⟩
    rw [← hU]
    have HCf : Hid (Below u2.heap.size u2 uf) := Lib.hid (by rw [hU]; exact (((HAf.out.setCell (p := ⟨gf, 0, none⟩) Lf.out _).setCell (p := ⟨gf, 1, none⟩) Lf.out _).setCell (p := ⟨gf, 2, none⟩) Lf.out _))
    clear hU z0 y0 z1 y1 z2 y2
    try dsimp only
    refine hK.out _ _ ?ssqf12 (fun hHeld => ?_)
    case ssqf12 => (exact HSf.out _ HCf.out)
    clear hK K
    try simp only [Act.put, List.setIfInBounds_toArray, List.set_cons_zero, List.set_cons_succ]
    refine wpAnyH_take (i := 12) (oi := ⟨some 9, _, _, _, _, _⟩) (v := ?vvqf13) rfl (by kernel_rfl) (by kernel_rfl) (by kernel_rfl) (fun _ _ _ h => h) (Or.inl ⟨by rfl, ?yyqf13⟩) hHeld ?rrqf13
    case yyqf13 => (intro wq hSw; (try dsimp only at hSw); go_simp; first | done | with_reducible rfl)
    simp only [Act.put, List.setIfInBounds_toArray, List.set_cons_zero, List.set_cons_succ]
    refine wpAnyH_done (by kernel_rfl) ?_ _
    clear hHeld
    obtain ⟨u3, hu2⟩ : ∃ u, u = uf := ⟨_, rfl⟩
    rw [← hu2] at HCf ⊢
    clear hu2
    replace HG1 : Hid (GrC u3 gb vb eb V E) := Lib.hid (HG1.out.below HCf.out)
    replace HBW : Hid (Below w.heap.size w u3) := Lib.hid (HBW.out.trans (HCf.out.mono HBW.out.size))
    replace HPA : Hid (PsA u3 a c v.ps) := Lib.hid (HPA.out.below HCf.out)
    replace HB1 : Hid (u3.heap[w.heap.size]? = some (.cells #[.int .i64 v.id, .string v.label, .int .i64 v.fr, .int .i64 v.to, .slice a v.ps.length c] 32)) := Lib.hid ((HCf.out.block _ (Array.getElem?_eq_some_iff.1 HB1.out).1).trans HB1.out)
    clear HCf
    obtain ⟨i3, s3, a3, n3, c3, k3, hlk, hqHSt⟩ := lookV' HG1.out (HID.out.2.2)
    have HQHSt := Lib.hid hqHSt
    obtain ⟨fm, mm, _⟩ := HG1.out.vm
    have HSt : Hid (∀ w' : World, Below u3.heap.size u3 w' → w'.cell? ⟨gb, 0, none⟩ = some (.map (some vb)) ∧ w'.cell? ⟨gb, 1, none⟩ = some (.map (some eb)) ∧ w'.cell? ⟨w.heap.size, 0, none⟩ = some (.int .i64 v.id) ∧ w'.cell? ⟨w.heap.size, 1, none⟩ = some (.string v.label) ∧ w'.cell? ⟨w.heap.size, 2, none⟩ = some (.int .i64 v.fr) ∧ w'.cell? ⟨w.heap.size, 3, none⟩ = some (.int .i64 v.to) ∧ w'.cell? ⟨w.heap.size, 4, none⟩ = some (.slice a v.ps.length c) ∧ (Instr.lookup 77 (.map (some vb)) (.int .i64 v.to) true).run Tryz.prog w' = .ok (.tuple #[.agg #[.int .i64 i3, .string s3, .slice a3 n3 c3], .bool k3]) w') := Lib.hid (fun w' hb => by
        obtain ⟨x1, x2, x3, x4, x5, x6, x7⟩ := adde_cells HG1.out HB1.out hb
        exact ⟨x1, x2, x3, x4, x5, x6, x7, look_stay mm lawI Tryz.underlying77 zeroV (keyI (HID.out.2.2)) hlk (hb.block _ mm.lt)⟩)
    clear hlk mm hqHSt
    go_upto_region 6 with fail
    refine wp_region_held_drew (S := (fun w' : World => w'.cell? ⟨gb, 0, none⟩ = some (.map (some vb)) ∧ w'.cell? ⟨gb, 1, none⟩ = some (.map (some eb)) ∧ w'.cell? ⟨w.heap.size, 0, none⟩ = some (.int .i64 v.id) ∧ w'.cell? ⟨w.heap.size, 1, none⟩ = some (.string v.label) ∧ w'.cell? ⟨w.heap.size, 2, none⟩ = some (.int .i64 v.fr) ∧ w'.cell? ⟨w.heap.size, 3, none⟩ = some (.int .i64 v.to) ∧ w'.cell? ⟨w.heap.size, 4, none⟩ = some (.slice a v.ps.length c) ∧ (Instr.lookup 77 (.map (some vb)) (.int .i64 v.to) true).run Tryz.prog w' = .ok (.tuple #[.agg #[.int .i64 i3, .string s3, .slice a3 n3 c3], .bool k3]) w')) (by kernel_rfl) (HSt.out _ (below_drewN (Below.refl _ _) 1)) (fun hHeld => ?_)
    obtain ⟨Xt, hGen⟩ : ∃ u, u = World.drew u3 := ⟨_, rfl⟩
    rw [← hGen] at hHeld ⊢
    have HXt : Hid (Below u3.heap.size u3 Xt) := Lib.hid (by rw [hGen]; exact below_drewN (Below.refl _ _) 1)
    clear hGen
    refine wpAnyH_take (i := 0) (oi := ⟨some 48, _, _, _, _, _⟩) (v := ?vvqt1) rfl (by kernel_rfl) (by kernel_rfl) (by kernel_rfl) (fun _ _ _ h => h) (Or.inl ⟨by rfl, ?yyqt1⟩) hHeld ?rrqt1
    case yyqt1 => (intro wq hSw; (try dsimp only at hSw); go_simp; first | done | with_reducible rfl)
    simp only [Act.put, List.setIfInBounds_toArray, List.set_cons_zero, List.set_cons_succ]
    refine wpAnyH_take (i := 1) (oi := ⟨some 49, _, _, _, _, _⟩) (v := ?vvqt2) rfl (by kernel_rfl) (by kernel_rfl) (by kernel_rfl) (fun _ _ _ h => h) (Or.inl ⟨by rfl, ?yyqt2⟩) hHeld ?rrqt2
    case yyqt2 => (intro wq hSw; (try dsimp only at hSw); go_simp; first | done | with_reducible rfl)
    simp only [Act.put, List.setIfInBounds_toArray, List.set_cons_zero, List.set_cons_succ]
    refine wpAnyH_take (i := 2) (oi := ⟨some 50, _, _, _, _, _⟩) (v := ?vvqt3) rfl (by kernel_rfl) (by kernel_rfl) (by kernel_rfl) (fun _ _ _ h => h) (Or.inl ⟨by rfl, ?yyqt3⟩) hHeld ?rrqt3
    case yyqt3 => (intro wq hSw; (try dsimp only at hSw); go_simp; first | done | with_reducible rfl)
    simp only [Act.put, List.setIfInBounds_toArray, List.set_cons_zero, List.set_cons_succ]
    refine wpAnyH_take (i := 3) (oi := ⟨some 51, _, _, _, _, _⟩) (v := ?vvqt4) rfl (by kernel_rfl) (by kernel_rfl) (by kernel_rfl) (fun _ _ _ h => h) (Or.inl ⟨by rfl, ?yyqt4⟩) hHeld ?rrqt4
    case yyqt4 => (intro wq hSw; (try dsimp only at hSw); go_simp; first | done | with_reducible rfl)
    simp only [Act.put, List.setIfInBounds_toArray, List.set_cons_zero, List.set_cons_succ]
    refine wpAnyH_take (i := 4) (oi := ⟨some 52, _, _, _, _, _⟩) (v := ?vvqt5) rfl (by kernel_rfl) (by kernel_rfl) (by kernel_rfl) (fun _ _ _ h => h) (Or.inl ⟨by rfl, ?yyqt5⟩) hHeld ?rrqt5
    case yyqt5 => (intro wq hSw; (try dsimp only at hSw); go_simp; first | done | with_reducible rfl)
    simp only [Act.put, List.setIfInBounds_toArray, List.set_cons_zero, List.set_cons_succ]
    refine wpAnyH_take (i := 5) (oi := ⟨some 53, _, _, _, _, _⟩) (v := ?vvqt6) rfl (by kernel_rfl) (by kernel_rfl) (by kernel_rfl) (fun _ _ _ h => h) (Or.inl ⟨by rfl, ?yyqt6⟩) hHeld ?rrqt6
    case yyqt6 => (intro wq hSw; (try dsimp only at hSw); go_simp; first | done | with_reducible rfl)
    simp only [Act.put, List.setIfInBounds_toArray, List.set_cons_zero, List.set_cons_succ]
    refine wpAnyH_take (i := 6) (oi := ⟨some 54, _, _, _, _, _⟩) (v := ?vvqt7) rfl (by kernel_rfl) (by kernel_rfl) (by kernel_rfl) (fun _ _ _ h => h) (Or.inl ⟨by rfl, ?yyqt7⟩) hHeld ?rrqt7
    case yyqt7 => (intro wq hSw; (try dsimp only at hSw); go_simp; first | done | with_reducible rfl)
    simp only [Act.put, List.setIfInBounds_toArray, List.set_cons_zero, List.set_cons_succ]
    refine wpAnyH_take (i := 7) (oi := ⟨some 47, _, _, _, _, _⟩) (v := ?vvqt8) rfl (by kernel_rfl) (by kernel_rfl) (by kernel_rfl) (fun _ _ _ h => h) (Or.inl ⟨by rfl, ?yyqt8⟩) hHeld ?rrqt8
    case yyqt8 => (intro wq hSw; (try dsimp only at hSw); go_simp; first | done | with_reducible rfl)
    simp only [Act.put, List.setIfInBounds_toArray, List.set_cons_zero, List.set_cons_succ]
    refine wpAnyH_take (i := 8) (oi := ⟨some 55, _, _, _, _, _⟩) (v := ?vvqt9) rfl (by kernel_rfl) (by kernel_rfl) (by kernel_rfl) (fun _ _ _ h => h) (Or.inl ⟨by rfl, ?yyqt9⟩) hHeld ?rrqt9
    case yyqt9 => (intro wq hSw; (try dsimp only at hSw); go_simp; first | done | with_reducible rfl)
    simp only [Act.put, List.setIfInBounds_toArray, List.set_cons_zero, List.set_cons_succ]
    refine wpAnyH_take (i := 9) (oi := ⟨some 56, _, _, _, _, _⟩) (v := ?vvqt10) rfl (by kernel_rfl) (by kernel_rfl) (by kernel_rfl) (fun _ _ _ h => h) (Or.inl ⟨by rfl, ?yyqt10⟩) hHeld ?rrqt10
    case yyqt10 => (intro wq hSw; (try dsimp only at hSw); go_simp; first | done | with_reducible rfl)
    simp only [Act.put, List.setIfInBounds_toArray, List.set_cons_zero, List.set_cons_succ]
    refine wpAnyH_ready (rs := [10]) (by kernel_rfl) (by simp) ?_
    refine AllReadyH.cons (o := ⟨some 10, _, _, _, _, _⟩) rfl (fun K hK => ?_) AllReadyH.nil
    go_simp
    obtain ⟨nt, hn⟩ : ∃ u, u = Xt.alloc (.cells #[.int .i64 0, .string ⟨#[]⟩, .slice none 0 0] 30) := ⟨_, rfl⟩
    obtain ⟨gt, hg⟩ : ∃ g, g = Xt.heap.size := ⟨_, rfl⟩
    rw [← hn, ← hg]
    have HAt : Hid (Below u3.heap.size u3 nt) := Lib.hid (by rw [hn]; exact below_then HXt.out (below_box _ _))
    have Et : Hid (nt.heap[gt]? = some (.cells #[.int .i64 0, .string ⟨#[]⟩, .slice none 0 0] 30)) := Lib.hid (by rw [hn, hg]; exact heap_new _ _)
    have Lt : Hid (u3.heap.size ≤ gt) := Lib.hid (by rw [hg]; exact HXt.out.size)
    clear hn hg
    try dsimp only
    refine hK.out _ _ ?ssqt11 (fun hHeld => ?_)
    case ssqt11 => (exact HSt.out _ HAt.out)
    clear hK K
    try simp only [Act.put, List.setIfInBounds_toArray, List.set_cons_zero, List.set_cons_succ]
    refine wpAnyH_ready (rs := [11]) (by kernel_rfl) (by simp) ?_
    refine AllReadyH.cons (o := ⟨none, _, _, _, _, _⟩) rfl (fun K hK => ?_) AllReadyH.nil
    have z0 := cell_of_blk Et.out 0
    have z1 := cell_of_blk Et.out 1
    have z2 := cell_of_blk Et.out 2
    have y0 := frozen_of_blk Et.out 0
    have y1 := frozen_of_blk Et.out 1
    have y2 := frozen_of_blk Et.out 2
    simp at z0 z1 z2
    go_simp
    obtain ⟨ut, hU⟩ : ∃ u, u = (((nt.setCell ⟨gt, 0, none⟩ (.int .i64 i3)).setCell ⟨gt, 1, none⟩ (.string s3)).setCell ⟨gt, 2, none⟩ (.slice a3 n3 c3)) := ⟨_, rfl⟩
    rw [← hU]
    have HCt : Hid (Below u3.heap.size u3 ut) := Lib.hid (by rw [hU]; exact (((HAt.out.setCell (p := ⟨gt, 0, none⟩) Lt.out _).setCell (p := ⟨gt, 1, none⟩) Lt.out _).setCell (p := ⟨gt, 2, none⟩) Lt.out _))
    clear hU z0 y0 z1 y1 z2 y2
    try dsimp only
    refine hK.out _ _ ?ssqt12 (fun hHeld => ?_)
    case ssqt12 => (exact HSt.out _ HCt.out)
    clear hK K
    try simp only [Act.put, List.setIfInBounds_toArray, List.set_cons_zero, List.set_cons_succ]
    refine wpAnyH_take (i := 12) (oi := ⟨some 11, _, _, _, _, _⟩) (v := ?vvqt13) rfl (by kernel_rfl) (by kernel_rfl) (by kernel_rfl) (fun _ _ _ h => h) (Or.inl ⟨by rfl, ?yyqt13⟩) hHeld ?rrqt13
    case yyqt13 => (intro wq hSw; (try dsimp only at hSw); go_simp; first | done | with_reducible rfl)
    simp only [Act.put, List.setIfInBounds_toArray, List.set_cons_zero, List.set_cons_succ]
    refine wpAnyH_done (by kernel_rfl) ?_ _
    clear hHeld
    obtain ⟨u4, hu2⟩ : ∃ u, u = ut := ⟨_, rfl⟩
    rw [← hu2] at HCt ⊢
    clear hu2
    replace HG1 : Hid (GrC u4 gb vb eb V E) := Lib.hid (HG1.out.below HCt.out)
    replace HBW : Hid (Below w.heap.size w u4) := Lib.hid (HBW.out.trans (HCt.out.mono HBW.out.size))
    replace HPA : Hid (PsA u4 a c v.ps) := Lib.hid (HPA.out.below HCt.out)
    replace HB1 : Hid (u4.heap[w.heap.size]? = some (.cells #[.int .i64 v.id, .string v.label, .int .i64 v.fr, .int .i64 v.to, .slice a v.ps.length c] 32)) := Lib.hid ((HCt.out.block _ (Array.getElem?_eq_some_iff.1 HB1.out).1).trans HB1.out)
    clear HCt
    go_upto_region 7 with fail
    cases k1
    · cases k2
      · go_wp2_with fail
        go_ret
        have e9 := adde_none (V := V) HCK.out HQHSe.out (.inl HQHSf.out)
        exact ⟨by rw [e9]; rfl, by rw [e9]; exact HG1.out, Chg.of_below HBW.out _⟩
      · cases k3
        · go_wp2_with fail
          go_ret
          have e9 := adde_none (V := V) HCK.out HQHSe.out (.inr HQHSt.out)
          exact ⟨by rw [e9]; rfl, by rw [e9]; exact HG1.out, Chg.of_below HBW.out _⟩
        · go_upto_region 11 with fail
          have HV : Hid (∀ w' : World, Below u4.heap.size u4 w' → w'.cell? ⟨gb, 0, none⟩ = some (.map (some vb)) ∧ w'.cell? ⟨gb, 1, none⟩ = some (.map (some eb)) ∧ w'.cell? ⟨w.heap.size, 0, none⟩ = some (.int .i64 v.id) ∧ w'.cell? ⟨w.heap.size, 1, none⟩ = some (.string v.label) ∧ w'.cell? ⟨w.heap.size, 2, none⟩ = some (.int .i64 v.fr) ∧ w'.cell? ⟨w.heap.size, 3, none⟩ = some (.int .i64 v.to) ∧ w'.cell? ⟨w.heap.size, 4, none⟩ = some (.slice a v.ps.length c)) := Lib.hid (fun w' hb => adde_cells HG1.out HB1.out hb)
          refine wp_region_held_drew (S := (fun w' : World => w'.cell? ⟨gb, 0, none⟩ = some (.map (some vb)) ∧ w'.cell? ⟨gb, 1, none⟩ = some (.map (some eb)) ∧ w'.cell? ⟨w.heap.size, 0, none⟩ = some (.int .i64 v.id) ∧ w'.cell? ⟨w.heap.size, 1, none⟩ = some (.string v.label) ∧ w'.cell? ⟨w.heap.size, 2, none⟩ = some (.int .i64 v.fr) ∧ w'.cell? ⟨w.heap.size, 3, none⟩ = some (.int .i64 v.to) ∧ w'.cell? ⟨w.heap.size, 4, none⟩ = some (.slice a v.ps.length c))) (by kernel_rfl) (HV.out _ (below_drewN (Below.refl _ _) 1)) (fun hHeld => ?_)
          obtain ⟨Xz, hGen⟩ : ∃ u, u = World.drew u4 := ⟨_, rfl⟩
          rw [← hGen] at hHeld ⊢
          have HXz : Hid (Below u4.heap.size u4 Xz) := Lib.hid (by rw [hGen]; exact below_drewN (Below.refl _ _) 1)
          clear hGen
          refine wpAnyH_take (i := 0) (oi := ⟨some 66, _, _, _, _, _⟩) (v := ?vvpz1) rfl (by kernel_rfl) (by kernel_rfl) (by kernel_rfl) (fun _ _ _ h => h) (Or.inl ⟨by rfl, ?yypz1⟩) hHeld ?rrpz1
          case yypz1 => (intro wq hSw; (try dsimp only at hSw); go_simp; first | done | with_reducible rfl)
          simp only [Act.put, List.setIfInBounds_toArray, List.set_cons_zero, List.set_cons_succ]
          refine wpAnyH_take (i := 1) (oi := ⟨some 67, _, _, _, _, _⟩) (v := ?vvpz2) rfl (by kernel_rfl) (by kernel_rfl) (by kernel_rfl) (fun _ _ _ h => h) (Or.inl ⟨by rfl, ?yypz2⟩) hHeld ?rrpz2
          case yypz2 => (intro wq hSw; (try dsimp only at hSw); go_simp; first | done | with_reducible rfl)
          simp only [Act.put, List.setIfInBounds_toArray, List.set_cons_zero, List.set_cons_succ]
          refine wpAnyH_take (i := 2) (oi := ⟨some 68, _, _, _, _, _⟩) (v := ?vvpz3) rfl (by kernel_rfl) (by kernel_rfl) (by kernel_rfl) (fun _ _ _ h => h) (Or.inl ⟨by rfl, ?yypz3⟩) hHeld ?rrpz3
          case yypz3 => (intro wq hSw; (try dsimp only at hSw); go_simp; first | done | with_reducible rfl)
          simp only [Act.put, List.setIfInBounds_toArray, List.set_cons_zero, List.set_cons_succ]
          refine wpAnyH_take (i := 3) (oi := ⟨some 69, _, _, _, _, _⟩) (v := ?vvpz4) rfl (by kernel_rfl) (by kernel_rfl) (by kernel_rfl) (fun _ _ _ h => h) (Or.inl ⟨by rfl, ?yypz4⟩) hHeld ?rrpz4
          case yypz4 => (intro wq hSw; (try dsimp only at hSw); go_simp; first | done | with_reducible rfl)
          simp only [Act.put, List.setIfInBounds_toArray, List.set_cons_zero, List.set_cons_succ]
          refine wpAnyH_take (i := 4) (oi := ⟨some 70, _, _, _, _, _⟩) (v := ?vvpz5) rfl (by kernel_rfl) (by kernel_rfl) (by kernel_rfl) (fun _ _ _ h => h) (Or.inl ⟨by rfl, ?yypz5⟩) hHeld ?rrpz5
          case yypz5 => (intro wq hSw; (try dsimp only at hSw); go_simp; first | done | with_reducible rfl)
          simp only [Act.put, List.setIfInBounds_toArray, List.set_cons_zero, List.set_cons_succ]
          refine wpAnyH_take (i := 5) (oi := ⟨some 71, _, _, _, _, _⟩) (v := ?vvpz6) rfl (by kernel_rfl) (by kernel_rfl) (by kernel_rfl) (fun _ _ _ h => h) (Or.inl ⟨by rfl, ?yypz6⟩) hHeld ?rrpz6
          case yypz6 => (intro wq hSw; (try dsimp only at hSw); go_simp; first | done | with_reducible rfl)
          simp only [Act.put, List.setIfInBounds_toArray, List.set_cons_zero, List.set_cons_succ]
          refine wpAnyH_take (i := 6) (oi := ⟨some 72, _, _, _, _, _⟩) (v := ?vvpz7) rfl (by kernel_rfl) (by kernel_rfl) (by kernel_rfl) (fun _ _ _ h => h) (Or.inl ⟨by rfl, ?yypz7⟩) hHeld ?rrpz7
          case yypz7 => (intro wq hSw; (try dsimp only at hSw); go_simp; first | done | with_reducible rfl)
          simp only [Act.put, List.setIfInBounds_toArray, List.set_cons_zero, List.set_cons_succ]
          refine wpAnyH_ready (rs := [7]) (by kernel_rfl) (by simp) ?_
          refine AllReadyH.cons (o := ⟨some 73, _, _, _, _, _⟩) rfl (fun K hK => ?_) AllReadyH.nil
          go_simp
          refine (ownE_any v a c _ (HPA.out.below HXz.out) HPL.out).mono ?_
          rintro e oz ⟨a9, c9, rfl, ⟨p9, _⟩, b9⟩
          have HOz : Hid (Below u4.heap.size u4 oz) := Lib.hid (below_then HXz.out b9)
          have HPz := Lib.hid p9
          clear p9 b9
          try dsimp only
          refine hK.out _ _ ?sspz8 (fun hHeld => ?_)
          case sspz8 => (exact HV.out _ HOz.out)
          clear hK K
          try simp only [Act.put, List.setIfInBounds_toArray, List.set_cons_zero, List.set_cons_succ]
          refine wpAnyH_ready (rs := [8]) (by kernel_rfl) (by simp) ?_
          refine AllReadyH.cons (o := ⟨none, _, _, _, _, _⟩) rfl (fun K hK => ?_) AllReadyH.nil
          have HVT : Hid (∀ w' : World, oz.mapTurned w' eb → w'.cell? ⟨gb, 0, none⟩ = some (.map (some vb)) ∧ w'.cell? ⟨gb, 1, none⟩ = some (.map (some eb)) ∧ w'.cell? ⟨w.heap.size, 0, none⟩ = some (.int .i64 v.id) ∧ w'.cell? ⟨w.heap.size, 1, none⟩ = some (.string v.label) ∧ w'.cell? ⟨w.heap.size, 2, none⟩ = some (.int .i64 v.fr) ∧ w'.cell? ⟨w.heap.size, 3, none⟩ = some (.int .i64 v.to) ∧ w'.cell? ⟨w.heap.size, 4, none⟩ = some (.slice a v.ps.length c)) := Lib.hid (fun w' t => by simp only [turned_cell t]; exact HV.out _ HOz.out)
          obtain ⟨f9, m9, h9⟩ := (HG1.out.below HOz.out).em
          obtain ⟨t1, hrun, m2, t9⟩ := m9.store (val := v.val a9 c9) lawI Tryz.underlying78 HVL.out (keyI HID.out.1)
          have HGF := Lib.hid ((HG1.out.below HOz.out).putE HPz.out HCK.out (by simpa using HQHSe.out) (by rw [← HQHSf.out]) (by rw [← HQHSt.out]) h9 m2 t9)
          have HT9 := Lib.hid t9
          unfold Eg.val at hrun
          unfold Eg.val
          clear m9 h9 m2
          go_simp
          try dsimp only
          refine hK.out _ _ ?sspz9 (fun hHeld => ?_)
          case sspz9 => (exact HVT.out _ t9)
          clear hK K
          try simp only [Act.put, List.setIfInBounds_toArray, List.set_cons_zero, List.set_cons_succ]
          refine wpAnyH_done (by kernel_rfl) ?_ _
          clear hHeld
          go_wp2_with fail
          go_ret
          have e9 : addE V E v = (0, insB Eg.id v E) := adde_ok HCK.out HQHSe.out HQHSf.out HQHSt.out
          exact ⟨by rw [e9]; rfl, by rw [e9]; exact HGF.out, (Chg.of_below (HBW.out.trans (HOz.out.mono HBW.out.size)) _).turned HT9.out (fun _ => rfl)⟩
    · go_wp2_with fail
      go_ret
      have e9 := adde_twice (V := V) HCK.out HQHSe.out
      exact ⟨by rw [e9]; rfl, by rw [e9]; exact HG1.out, Chg.of_below HBW.out _⟩
  · obtain ⟨cr, hcr⟩ : ∃ cr, cr = checkR v.label v.ps [v.id, v.fr, v.to] := ⟨_, rfl⟩
    rw [← hcr] at hck ⊢
    have h1 : (cr == 0) = false := by simpa using hck
    have h2 : (cr != 0) = true := by simpa using hck
    have HCR := Lib.hid hcr
    have HCK := Lib.hid hck
    clear hcr hck
    go_wp2_with fail
    go_ret
    have e9 : addE V E v = (cr, E) := by unfold addE; rw [← HCR.out, if_neg HCK.out]
    exact ⟨by rw [e9]; rfl, by rw [e9]; exact HG1.out, Chg.of_below HBW.out _⟩
end Go.Proofs.YtkbmipmegljidaaGreat
namespace Go.Proofs.YtkbmipmegljidaaGreat
open Go.RowKit Go.Maps

def Eg.zero : Eg := ⟨0, ⟨#[]⟩, 0, 0, []⟩
def Vt.zero : Vt := ⟨0, ⟨#[]⟩, []⟩
end Go.Proofs.YtkbmipmegljidaaGreat
