/- graph.AddVertex, AddEdge. Conditions: each contract's own premises. -/
import Derived.Test.YtkbmipmegljidaaGreatGr2
import Derived.Deep.Cut
namespace Go.Proofs.YtkbmipmegljidaaGreat
open Go.RowKit Go.Maps

theorem ids_at {u : World} {n : Nat} {l : List Int} (hb : u.heap[n]? = some (.cells (l.map (Value.int .i64)).toArray 3 (0, 0))) (hi : ∀ x ∈ l, I64 x) : IsV u (some ⟨n, 0, none⟩) l :=
  fun _ => ⟨n, 0, rfl, ⟨hi, fun i x hx => by
    rw [cell_of_blk hb]
    simp [hx], (Array.getElem?_eq_some_iff.1 hb).1⟩⟩
def AvPost (w : World) (gb vb eb : Nat) (V : List Vt) (E : List Eg) (v : Vt) (e : Ending) (w' : World) : Prop := e = .returned (.int .i64 (addV V v).1) ∧ GrC w' gb vb eb (addV V v).2 E ∧ Chg w w' (fun i => i = vb)
def AePost (w : World) (gb vb eb : Nat) (V : List Vt) (E : List Eg) (v : Eg) (e : Ending) (w' : World) : Prop := e = .returned (.int .i64 (addE V E v).1) ∧ GrC w' gb vb eb V (addE V E v).2 ∧ Chg w w' (fun i => i = eb)
theorem addv_cells {u w' : World} {gb vb eb kb : Nat} {V : List Vt} {E : List Eg} {v : Vt} {a : Option Addr} {c : Nat} (hg : GrC u gb vb eb V E) (hb : u.heap[kb]? = some (.cells #[.int .i64 v.id, .string v.label, .slice a v.ps.length c] 30)) (h : Below u.heap.size u w') :
    w'.cell? ⟨gb, 0, none⟩ = some (.map (some vb)) ∧ w'.cell? ⟨kb, 0, none⟩ = some (.int .i64 v.id) ∧ w'.cell? ⟨kb, 1, none⟩ = some (.string v.label) ∧ w'.cell? ⟨kb, 2, none⟩ = some (.slice a v.ps.length c) := by
  have e1 := (h.block _ hg.lt).trans hg.blk
  have e2 := (h.block _ (Array.getElem?_eq_some_iff.1 hb).1).trans hb
  exact ⟨by rw [cell_of_blk e1]; rfl, by rw [cell_of_blk e2]; rfl, by rw [cell_of_blk e2]; rfl, by rw [cell_of_blk e2]; rfl⟩
theorem lookV {w : World} {gb vb eb : Nat} {V : List Vt} {E : List Eg} (h : GrC w gb vb eb V E) {n : Int} (hn : I64 n) :
    (findB Vt.id V n = none → (Instr.lookup 77 (.map (some vb)) (.int .i64 n) true).run Tryz.prog w = .ok (.tuple #[.agg #[.int .i64 0, .string ⟨#[]⟩, .slice none 0 0], .bool false]) w) ∧
    ∀ y, findB Vt.id V n = some y → ∃ a c, (Instr.lookup 77 (.map (some vb)) (.int .i64 n) true).run Tryz.prog w = .ok (.tuple #[.agg #[.int .i64 y.id, .string y.label, .slice a y.ps.length c], .bool true]) w ∧ PsA w a c y.ps := by
  obtain ⟨f, m, hf⟩ := h.vm
  have e := m.look_ok lawI Tryz.underlying77 (zeroV w) (keyI hn)
  refine ⟨fun hno => ?_, fun y hy => ?_⟩
  · rw [hf.no n hn hno] at e
    exact e
  · obtain ⟨h1, h2⟩ := findB_some hy
    obtain ⟨a, c, h3, h4⟩ := hf.yes y h1
    rw [h2] at h3
    rw [h3] at e
    exact ⟨a, c, e, h4⟩
theorem lookE {w : World} {gb vb eb : Nat} {V : List Vt} {E : List Eg} (h : GrC w gb vb eb V E) {n : Int} (hn : I64 n) :
    (findB Eg.id E n = none → (Instr.lookup 78 (.map (some eb)) (.int .i64 n) true).run Tryz.prog w = .ok (.tuple #[.agg #[.int .i64 0, .string ⟨#[]⟩, .int .i64 0, .int .i64 0, .slice none 0 0], .bool false]) w) ∧
    ∀ y, findB Eg.id E n = some y → ∃ a c, (Instr.lookup 78 (.map (some eb)) (.int .i64 n) true).run Tryz.prog w = .ok (.tuple #[.agg #[.int .i64 y.id, .string y.label, .int .i64 y.fr, .int .i64 y.to, .slice a y.ps.length c], .bool true]) w ∧ PsA w a c y.ps := by
  obtain ⟨f, m, hf⟩ := h.em
  have e := m.look_ok lawI Tryz.underlying78 (zeroE w) (keyI hn)
  refine ⟨fun hno => ?_, fun y hy => ?_⟩
  · rw [hf.no n hn hno] at e
    exact e
  · obtain ⟨h1, h2⟩ := findB_some hy
    obtain ⟨a, c, h3, h4⟩ := hf.yes y h1
    rw [h2] at h3
    rw [h3] at e
    exact ⟨a, c, e, h4⟩
/-- a look-up stays, for the map's block stays -/
theorem look_stay {w u : World} {b : Nat} {t k e : TypeId} {n : Nat} {f : Lit → Option Value} {z r : Value} {key : Value} {kl : Lit} (m : mapR w Tryz.prog k b n f) (K : Keyed Tryz.prog k) (ht : Tryz.prog.underlying t = some (.map k e)) (hz : ∀ w, (zeroValue e).run Tryz.prog w = .ok z w) (hk : keyOf Tryz.prog k key = some kl)
    (h : (Instr.lookup t (.map (some b)) key true).run Tryz.prog w = .ok r w) (hb : u.heap[b]? = w.heap[b]?) : (Instr.lookup t (.map (some b)) key true).run Tryz.prog u = .ok r u := by
  have e1 := m.look_ok K ht (hz w) hk
  rw [h] at e1
  have e2 := (m.of_block hb).look_ok K ht (hz u) hk
  rw [e2]
  have e3 : ∀ (x y : Value), (Result.ok x w : Result Value) = .ok y w → x = y := fun x y h => by injection h
  rw [e3 _ _ e1]
set_option maxRecDepth 100000 in
set_option maxHeartbeats 4000000 in
theorem gaddV_any (gb vb eb : Nat) (V : List Vt) (E : List Eg) (v : Vt) (a : Option Addr) (c : Nat) (w : World) (h : GrC w gb vb eb V E) (hp : PsA w a c v.ps) (hl : v.ps.length ≤ 100000) (hid : I64 v.id) (hlab : v.label.size ≤ maxLen) (hvl : V.length < maxLen) :
    Calls Tryz.prog 58 #[.pointer (some ⟨gb, 0, none⟩), v.val a c] w (AvPost w gb vb eb V E v) := by
  have HX0 := Lib.hid (heap_new w (.cells #[.int .i64 v.id, .string v.label, .slice a v.ps.length c] 30))
  have HW0 := Lib.hid ((below_box w (.cells #[.int .i64 v.id, .string v.label, .slice a v.ps.length c] 30)).alloc (by simp) (.cells #[.int .i64 v.id] 3))
  have HIDS : Hid (IsV ((w.alloc (.cells #[.int .i64 v.id, .string v.label, .slice a v.ps.length c] 30)).alloc (.cells #[.int .i64 v.id] 3)) (some ⟨w.heap.size + 1, 0, none⟩) [v.id]) := Lib.hid (ids_at (heap_new2 w _ _) (by simp [hid]))
  have HG := Lib.hid h
  have HPA := Lib.hid hp
  have HPL := Lib.hid hl
  have HID := Lib.hid hid
  have HVL := Lib.hid hvl
  have HLB := Lib.hid hlab
  clear h hp hl hid hvl hlab
  unfold Vt.val
  go_enter Tryz.func58, Tryz.ntmps58
  go_wp2_with fail
  refine (check_any v.label a _ c 1 v.ps [v.id] _ HLB.out (HPA.out.v.below HW0.out) HIDS.out HPL.out (by simp)).mono ?_
  rintro e w1 ⟨rfl, b1⟩
  have HB1 : Hid (w1.heap[w.heap.size]? = some (.cells #[.int .i64 v.id, .string v.label, .slice a v.ps.length c] 30)) := Lib.hid ((b1.block _ (by simp; omega)).trans ((Below.heap_alloc _ _ _ (by simp)).trans HX0.out))
  have HBW : Hid (Below w.heap.size w w1) := Lib.hid (HW0.out.trans (b1.mono (by simp; omega)))
  replace HPA : Hid (PsA w1 a c v.ps) := Lib.hid (HPA.out.below HBW.out)
  have HG1 : Hid (GrC w1 gb vb eb V E) := Lib.hid (HG.out.below HBW.out)
  clear b1 HG HIDS
  by_cases hck : checkR v.label v.ps [v.id] = 0
  · rw [hck]
    have HCK := Lib.hid hck
    clear hck
    cases hf : findB Vt.id V v.id with
    | none =>
      have HF := Lib.hid hf
      have HS : Hid (∀ w' : World, Below w1.heap.size w1 w' → w'.cell? ⟨gb, 0, none⟩ = some (.map (some vb)) ∧ w'.cell? ⟨w.heap.size, 0, none⟩ = some (.int .i64 v.id) ∧ w'.cell? ⟨w.heap.size, 1, none⟩ = some (.string v.label) ∧ w'.cell? ⟨w.heap.size, 2, none⟩ = some (.slice a v.ps.length c) ∧ (Instr.lookup 77 (.map (some vb)) (.int .i64 v.id) true).run Tryz.prog w' = .ok (.tuple #[.agg #[.int .i64 0, .string ⟨#[]⟩, .slice none 0 0], .bool false]) w') := Lib.hid (fun w' hb => by
        obtain ⟨x1, x2, x3, x4⟩ := addv_cells HG1.out HB1.out hb
        exact ⟨x1, x2, x3, x4, (lookV (HG1.out.below hb) HID.out).1 HF.out⟩)
      clear hf
      go_upto_region 4 with fail
      refine wp_region_held_drew (S := (fun w' : World => w'.cell? ⟨gb, 0, none⟩ = some (.map (some vb)) ∧ w'.cell? ⟨w.heap.size, 0, none⟩ = some (.int .i64 v.id) ∧ w'.cell? ⟨w.heap.size, 1, none⟩ = some (.string v.label) ∧ w'.cell? ⟨w.heap.size, 2, none⟩ = some (.slice a v.ps.length c) ∧ (Instr.lookup 77 (.map (some vb)) (.int .i64 v.id) true).run Tryz.prog w' = .ok (.tuple #[.agg #[.int .i64 0, .string ⟨#[]⟩, .slice none 0 0], .bool false]) w')) (by kernel_rfl) (HS.out _ (below_drewN (Below.refl _ _) 1)) (fun hHeld => ?_)
      obtain ⟨Xa, hGen⟩ : ∃ u, u = World.drew w1 := ⟨_, rfl⟩
      rw [← hGen] at hHeld ⊢
      have HXa : Hid (Below w1.heap.size w1 Xa) := Lib.hid (by rw [hGen]; exact below_drewN (Below.refl _ _) 1)
      clear hGen
      refine wpAnyH_take (i := 0) (oi := ⟨some 20, _, _, _, _, _⟩) (v := ?vvqa1) rfl (by kernel_rfl) (by kernel_rfl) (by kernel_rfl) (fun _ _ _ h => h) (Or.inl ⟨by rfl, ?yyqa1⟩) hHeld ?rrqa1
      case yyqa1 => (intro wq hSw; (try dsimp only at hSw); go_simp; first | done | with_reducible rfl)
      simp only [Act.put, List.setIfInBounds_toArray, List.set_cons_zero, List.set_cons_succ]
      refine wpAnyH_take (i := 1) (oi := ⟨some 21, _, _, _, _, _⟩) (v := ?vvqa2) rfl (by kernel_rfl) (by kernel_rfl) (by kernel_rfl) (fun _ _ _ h => h) (Or.inl ⟨by rfl, ?yyqa2⟩) hHeld ?rrqa2
      case yyqa2 => (intro wq hSw; (try dsimp only at hSw); go_simp; first | done | with_reducible rfl)
      simp only [Act.put, List.setIfInBounds_toArray, List.set_cons_zero, List.set_cons_succ]
      refine wpAnyH_take (i := 2) (oi := ⟨some 22, _, _, _, _, _⟩) (v := ?vvqa3) rfl (by kernel_rfl) (by kernel_rfl) (by kernel_rfl) (fun _ _ _ h => h) (Or.inl ⟨by rfl, ?yyqa3⟩) hHeld ?rrqa3
      case yyqa3 => (intro wq hSw; (try dsimp only at hSw); go_simp; first | done | with_reducible rfl)
      simp only [Act.put, List.setIfInBounds_toArray, List.set_cons_zero, List.set_cons_succ]
      refine wpAnyH_take (i := 3) (oi := ⟨some 23, _, _, _, _, _⟩) (v := ?vvqa4) rfl (by kernel_rfl) (by kernel_rfl) (by kernel_rfl) (fun _ _ _ h => h) (Or.inl ⟨by rfl, ?yyqa4⟩) hHeld ?rrqa4
      case yyqa4 => (intro wq hSw; (try dsimp only at hSw); go_simp; first | done | with_reducible rfl)
      simp only [Act.put, List.setIfInBounds_toArray, List.set_cons_zero, List.set_cons_succ]
      refine wpAnyH_take (i := 4) (oi := ⟨some 24, _, _, _, _, _⟩) (v := ?vvqa5) rfl (by kernel_rfl) (by kernel_rfl) (by kernel_rfl) (fun _ _ _ h => h) (Or.inl ⟨by rfl, ?yyqa5⟩) hHeld ?rrqa5
      case yyqa5 => (intro wq hSw; (try dsimp only at hSw); go_simp; first | done | with_reducible rfl)
      simp only [Act.put, List.setIfInBounds_toArray, List.set_cons_zero, List.set_cons_succ]
      refine wpAnyH_take (i := 5) (oi := ⟨some 25, _, _, _, _, _⟩) (v := ?vvqa6) rfl (by kernel_rfl) (by kernel_rfl) (by kernel_rfl) (fun _ _ _ h => h) (Or.inl ⟨by rfl, ?yyqa6⟩) hHeld ?rrqa6
      case yyqa6 => (intro wq hSw; (try dsimp only at hSw); go_simp; first | done | with_reducible rfl)
      simp only [Act.put, List.setIfInBounds_toArray, List.set_cons_zero, List.set_cons_succ]
      refine wpAnyH_take (i := 6) (oi := ⟨some 26, _, _, _, _, _⟩) (v := ?vvqa7) rfl (by kernel_rfl) (by kernel_rfl) (by kernel_rfl) (fun _ _ _ h => h) (Or.inl ⟨by rfl, ?yyqa7⟩) hHeld ?rrqa7
      case yyqa7 => (intro wq hSw; (try dsimp only at hSw); go_simp; first | done | with_reducible rfl)
      simp only [Act.put, List.setIfInBounds_toArray, List.set_cons_zero, List.set_cons_succ]
      refine wpAnyH_take (i := 7) (oi := ⟨some 19, _, _, _, _, _⟩) (v := ?vvqa8) rfl (by kernel_rfl) (by kernel_rfl) (by kernel_rfl) (fun _ _ _ h => h) (Or.inl ⟨by rfl, ?yyqa8⟩) hHeld ?rrqa8
      case yyqa8 => (intro wq hSw; (try dsimp only at hSw); go_simp; first | done | with_reducible rfl)
      simp only [Act.put, List.setIfInBounds_toArray, List.set_cons_zero, List.set_cons_succ]
      refine wpAnyH_take (i := 8) (oi := ⟨some 27, _, _, _, _, _⟩) (v := ?vvqa9) rfl (by kernel_rfl) (by kernel_rfl) (by kernel_rfl) (fun _ _ _ h => h) (Or.inl ⟨by rfl, ?yyqa9⟩) hHeld ?rrqa9
      case yyqa9 => (intro wq hSw; (try dsimp only at hSw); go_simp; first | done | with_reducible rfl)
      simp only [Act.put, List.setIfInBounds_toArray, List.set_cons_zero, List.set_cons_succ]
      refine wpAnyH_take (i := 9) (oi := ⟨some 28, _, _, _, _, _⟩) (v := ?vvqa10) rfl (by kernel_rfl) (by kernel_rfl) (by kernel_rfl) (fun _ _ _ h => h) (Or.inl ⟨by rfl, ?yyqa10⟩) hHeld ?rrqa10
      case yyqa10 => (intro wq hSw; (try dsimp only at hSw); go_simp; first | done | with_reducible rfl)
      simp only [Act.put, List.setIfInBounds_toArray, List.set_cons_zero, List.set_cons_succ]
      refine wpAnyH_ready (rs := [10]) (by kernel_rfl) (by simp) ?_
      refine AllReadyH.cons (o := ⟨some 6, _, _, _, _, _⟩) rfl (fun K hK => ?_) AllReadyH.nil
      go_simp
      obtain ⟨na, hn⟩ : ∃ u, u = Xa.alloc (.cells #[.int .i64 0, .string ⟨#[]⟩, .slice none 0 0] 30) := ⟨_, rfl⟩
      obtain ⟨ga, hg⟩ : ∃ g, g = Xa.heap.size := ⟨_, rfl⟩
      rw [← hn, ← hg]
      have HAa : Hid (Below w1.heap.size w1 na) := Lib.hid (by rw [hn]; exact below_then HXa.out (below_box _ _))
      have Ea : Hid (na.heap[ga]? = some (.cells #[.int .i64 0, .string ⟨#[]⟩, .slice none 0 0] 30)) := Lib.hid (by rw [hn, hg]; exact heap_new _ _)
      have La : Hid (w1.heap.size ≤ ga) := Lib.hid (by rw [hg]; exact HXa.out.size)
      clear hn hg
      try dsimp only
      refine hK.out _ _ ?ssqa11 (fun hHeld => ?_)
      case ssqa11 => (exact HS.out _ HAa.out)
      clear hK K
      try simp only [Act.put, List.setIfInBounds_toArray, List.set_cons_zero, List.set_cons_succ]
      refine wpAnyH_ready (rs := [11]) (by kernel_rfl) (by simp) ?_
      refine AllReadyH.cons (o := ⟨none, _, _, _, _, _⟩) rfl (fun K hK => ?_) AllReadyH.nil
      have z0 := cell_of_blk Ea.out 0
      have z1 := cell_of_blk Ea.out 1
      have z2 := cell_of_blk Ea.out 2
      have y0 := frozen_of_blk Ea.out 0
      have y1 := frozen_of_blk Ea.out 1
      have y2 := frozen_of_blk Ea.out 2
      simp at z0 z1 z2
      go_simp
      obtain ⟨ua, hU⟩ : ∃ u, u = (((na.setCell ⟨ga, 0, none⟩ (.int .i64 0)).setCell ⟨ga, 1, none⟩ (.string ⟨#[]⟩)).setCell ⟨ga, 2, none⟩ (.slice none 0 0)) := ⟨_, rfl⟩
      rw [← hU]
      have HCa : Hid (Below w1.heap.size w1 ua) := Lib.hid (by rw [hU]; exact (((HAa.out.setCell (p := ⟨ga, 0, none⟩) La.out _).setCell (p := ⟨ga, 1, none⟩) La.out _).setCell (p := ⟨ga, 2, none⟩) La.out _))
      clear hU z0 y0 z1 y1 z2 y2
      try dsimp only
      refine hK.out _ _ ?ssqa12 (fun hHeld => ?_)
      case ssqa12 => (exact HS.out _ HCa.out)
      clear hK K
      try simp only [Act.put, List.setIfInBounds_toArray, List.set_cons_zero, List.set_cons_succ]
      refine wpAnyH_take (i := 12) (oi := ⟨some 7, _, _, _, _, _⟩) (v := ?vvqa13) rfl (by kernel_rfl) (by kernel_rfl) (by kernel_rfl) (fun _ _ _ h => h) (Or.inl ⟨by rfl, ?yyqa13⟩) hHeld ?rrqa13
      case yyqa13 => (intro wq hSw; (try dsimp only at hSw); go_simp; first | done | with_reducible rfl)
      simp only [Act.put, List.setIfInBounds_toArray, List.set_cons_zero, List.set_cons_succ]
      refine wpAnyH_done (by kernel_rfl) ?_ _
      clear hHeld
      obtain ⟨u2, hu2⟩ : ∃ u, u = ua := ⟨_, rfl⟩
      rw [← hu2] at HCa ⊢
      clear hu2
      go_upto_region 7 with fail
      replace HG1 : Hid (GrC u2 gb vb eb V E) := Lib.hid (HG1.out.below HCa.out)
      replace HBW : Hid (Below w.heap.size w u2) := Lib.hid (HBW.out.trans (HCa.out.mono HBW.out.size))
      replace HPA : Hid (PsA u2 a c v.ps) := Lib.hid (HPA.out.below HCa.out)
      have HB2 : Hid (u2.heap[w.heap.size]? = some (.cells #[.int .i64 v.id, .string v.label, .slice a v.ps.length c] 30)) := Lib.hid ((HCa.out.block _ (Array.getElem?_eq_some_iff.1 HB1.out).1).trans HB1.out)
      have HV : Hid (∀ w' : World, Below u2.heap.size u2 w' → w'.cell? ⟨gb, 0, none⟩ = some (.map (some vb)) ∧ w'.cell? ⟨w.heap.size, 0, none⟩ = some (.int .i64 v.id) ∧ w'.cell? ⟨w.heap.size, 1, none⟩ = some (.string v.label) ∧ w'.cell? ⟨w.heap.size, 2, none⟩ = some (.slice a v.ps.length c)) := Lib.hid (fun w' hb => addv_cells HG1.out HB2.out hb)
      refine wp_region_held_drew (S := (fun w' : World => w'.cell? ⟨gb, 0, none⟩ = some (.map (some vb)) ∧ w'.cell? ⟨w.heap.size, 0, none⟩ = some (.int .i64 v.id) ∧ w'.cell? ⟨w.heap.size, 1, none⟩ = some (.string v.label) ∧ w'.cell? ⟨w.heap.size, 2, none⟩ = some (.slice a v.ps.length c))) (by kernel_rfl) (HV.out _ (below_drewN (Below.refl _ _) 1)) (fun hHeld => ?_)
      obtain ⟨Xb, hGen⟩ : ∃ u, u = World.drew u2 := ⟨_, rfl⟩
      rw [← hGen] at hHeld ⊢
      have HXb : Hid (Below u2.heap.size u2 Xb) := Lib.hid (by rw [hGen]; exact below_drewN (Below.refl _ _) 1)
      clear hGen
      refine wpAnyH_take (i := 0) (oi := ⟨some 30, _, _, _, _, _⟩) (v := ?vvpb1) rfl (by kernel_rfl) (by kernel_rfl) (by kernel_rfl) (fun _ _ _ h => h) (Or.inl ⟨by rfl, ?yypb1⟩) hHeld ?rrpb1
      case yypb1 => (intro wq hSw; (try dsimp only at hSw); go_simp; first | done | with_reducible rfl)
      simp only [Act.put, List.setIfInBounds_toArray, List.set_cons_zero, List.set_cons_succ]
      refine wpAnyH_take (i := 1) (oi := ⟨some 31, _, _, _, _, _⟩) (v := ?vvpb2) rfl (by kernel_rfl) (by kernel_rfl) (by kernel_rfl) (fun _ _ _ h => h) (Or.inl ⟨by rfl, ?yypb2⟩) hHeld ?rrpb2
      case yypb2 => (intro wq hSw; (try dsimp only at hSw); go_simp; first | done | with_reducible rfl)
      simp only [Act.put, List.setIfInBounds_toArray, List.set_cons_zero, List.set_cons_succ]
      refine wpAnyH_take (i := 2) (oi := ⟨some 32, _, _, _, _, _⟩) (v := ?vvpb3) rfl (by kernel_rfl) (by kernel_rfl) (by kernel_rfl) (fun _ _ _ h => h) (Or.inl ⟨by rfl, ?yypb3⟩) hHeld ?rrpb3
      case yypb3 => (intro wq hSw; (try dsimp only at hSw); go_simp; first | done | with_reducible rfl)
      simp only [Act.put, List.setIfInBounds_toArray, List.set_cons_zero, List.set_cons_succ]
      refine wpAnyH_take (i := 3) (oi := ⟨some 33, _, _, _, _, _⟩) (v := ?vvpb4) rfl (by kernel_rfl) (by kernel_rfl) (by kernel_rfl) (fun _ _ _ h => h) (Or.inl ⟨by rfl, ?yypb4⟩) hHeld ?rrpb4
      case yypb4 => (intro wq hSw; (try dsimp only at hSw); go_simp; first | done | with_reducible rfl)
      simp only [Act.put, List.setIfInBounds_toArray, List.set_cons_zero, List.set_cons_succ]
      refine wpAnyH_take (i := 4) (oi := ⟨some 34, _, _, _, _, _⟩) (v := ?vvpb5) rfl (by kernel_rfl) (by kernel_rfl) (by kernel_rfl) (fun _ _ _ h => h) (Or.inl ⟨by rfl, ?yypb5⟩) hHeld ?rrpb5
      case yypb5 => (intro wq hSw; (try dsimp only at hSw); go_simp; first | done | with_reducible rfl)
      simp only [Act.put, List.setIfInBounds_toArray, List.set_cons_zero, List.set_cons_succ]
      refine wpAnyH_take (i := 5) (oi := ⟨some 35, _, _, _, _, _⟩) (v := ?vvpb6) rfl (by kernel_rfl) (by kernel_rfl) (by kernel_rfl) (fun _ _ _ h => h) (Or.inl ⟨by rfl, ?yypb6⟩) hHeld ?rrpb6
      case yypb6 => (intro wq hSw; (try dsimp only at hSw); go_simp; first | done | with_reducible rfl)
      simp only [Act.put, List.setIfInBounds_toArray, List.set_cons_zero, List.set_cons_succ]
      refine wpAnyH_take (i := 6) (oi := ⟨some 36, _, _, _, _, _⟩) (v := ?vvpb7) rfl (by kernel_rfl) (by kernel_rfl) (by kernel_rfl) (fun _ _ _ h => h) (Or.inl ⟨by rfl, ?yypb7⟩) hHeld ?rrpb7
      case yypb7 => (intro wq hSw; (try dsimp only at hSw); go_simp; first | done | with_reducible rfl)
      simp only [Act.put, List.setIfInBounds_toArray, List.set_cons_zero, List.set_cons_succ]
      refine wpAnyH_ready (rs := [7]) (by kernel_rfl) (by simp) ?_
      refine AllReadyH.cons (o := ⟨some 37, _, _, _, _, _⟩) rfl (fun K hK => ?_) AllReadyH.nil
      go_simp
      refine (ownV_any v a c _ (HPA.out.below HXb.out) HPL.out).mono ?_
      rintro e ob ⟨a9, c9, rfl, ⟨p9, _⟩, b9⟩
      have HOb : Hid (Below u2.heap.size u2 ob) := Lib.hid (below_then HXb.out b9)
      have HPb := Lib.hid p9
      clear p9 b9
      try dsimp only
      refine hK.out _ _ ?sspb8 (fun hHeld => ?_)
      case sspb8 => (exact HV.out _ HOb.out)
      clear hK K
      try simp only [Act.put, List.setIfInBounds_toArray, List.set_cons_zero, List.set_cons_succ]
      refine wpAnyH_ready (rs := [8]) (by kernel_rfl) (by simp) ?_
      refine AllReadyH.cons (o := ⟨none, _, _, _, _, _⟩) rfl (fun K hK => ?_) AllReadyH.nil
      have HVT : Hid (∀ w' : World, ob.mapTurned w' vb → w'.cell? ⟨gb, 0, none⟩ = some (.map (some vb)) ∧ w'.cell? ⟨w.heap.size, 0, none⟩ = some (.int .i64 v.id) ∧ w'.cell? ⟨w.heap.size, 1, none⟩ = some (.string v.label) ∧ w'.cell? ⟨w.heap.size, 2, none⟩ = some (.slice a v.ps.length c)) := Lib.hid (fun w' t => by simp only [turned_cell t]; exact HV.out _ HOb.out)
      obtain ⟨f9, m9, h9⟩ := (HG1.out.below HOb.out).vm
      have hf9 : f9 (.int .i64 v.id) = none := h9.no v.id HID.out HF.out
      obtain ⟨t1, hrun, m2, t9⟩ := m9.store (val := v.val a9 c9) lawI Tryz.underlying77 HVL.out (keyI HID.out)
      have HGF := Lib.hid ((HG1.out.below HOb.out).putV HPb.out HCK.out HF.out h9 m2 t9)
      have HT9 := Lib.hid t9
      unfold Vt.val at hrun
      unfold Vt.val
      clear m9 h9 hf9 m2
      go_simp
      try dsimp only
      refine hK.out _ _ ?sspb9 (fun hHeld => ?_)
      case sspb9 => (exact HVT.out _ t9)
      clear hK K
      try simp only [Act.put, List.setIfInBounds_toArray, List.set_cons_zero, List.set_cons_succ]
      refine wpAnyH_done (by kernel_rfl) ?_ _
      clear hHeld
      go_wp2_with fail
      go_ret
      refine ⟨ret_int ?_, ?_, ?_⟩
      · unfold addV; rw [if_pos HCK.out, HF.out]; rfl
      · unfold addV; rw [if_pos HCK.out, HF.out]; exact HGF.out
      · exact (Chg.of_below (HBW.out.trans (HOb.out.mono HBW.out.size)) _).turned HT9.out (fun _ => rfl)
    | some y =>
      have HF := Lib.hid hf
      obtain ⟨ya, yc, hlk, _⟩ := (lookV HG1.out HID.out).2 y hf
      obtain ⟨fm, mm, _⟩ := HG1.out.vm
      have HS : Hid (∀ w' : World, Below w1.heap.size w1 w' → w'.cell? ⟨gb, 0, none⟩ = some (.map (some vb)) ∧ w'.cell? ⟨w.heap.size, 0, none⟩ = some (.int .i64 v.id) ∧ w'.cell? ⟨w.heap.size, 1, none⟩ = some (.string v.label) ∧ w'.cell? ⟨w.heap.size, 2, none⟩ = some (.slice a v.ps.length c) ∧ (Instr.lookup 77 (.map (some vb)) (.int .i64 v.id) true).run Tryz.prog w' = .ok (.tuple #[.agg #[.int .i64 y.id, .string y.label, .slice ya y.ps.length yc], .bool true]) w') := Lib.hid (fun w' hb => by
        obtain ⟨x1, x2, x3, x4⟩ := addv_cells HG1.out HB1.out hb
        exact ⟨x1, x2, x3, x4, look_stay mm lawI Tryz.underlying77 zeroV (keyI HID.out) hlk (hb.block _ mm.lt)⟩)
      clear hf hlk mm
      go_upto_region 4 with fail
      refine wp_region_held_drew (S := (fun w' : World => w'.cell? ⟨gb, 0, none⟩ = some (.map (some vb)) ∧ w'.cell? ⟨w.heap.size, 0, none⟩ = some (.int .i64 v.id) ∧ w'.cell? ⟨w.heap.size, 1, none⟩ = some (.string v.label) ∧ w'.cell? ⟨w.heap.size, 2, none⟩ = some (.slice a v.ps.length c) ∧ (Instr.lookup 77 (.map (some vb)) (.int .i64 v.id) true).run Tryz.prog w' = .ok (.tuple #[.agg #[.int .i64 y.id, .string y.label, .slice ya y.ps.length yc], .bool true]) w')) (by kernel_rfl) (HS.out _ (below_drewN (Below.refl _ _) 1)) (fun hHeld => ?_)
      obtain ⟨Xc, hGen⟩ : ∃ u, u = World.drew w1 := ⟨_, rfl⟩
      rw [← hGen] at hHeld ⊢
      have HXc : Hid (Below w1.heap.size w1 Xc) := Lib.hid (by rw [hGen]; exact below_drewN (Below.refl _ _) 1)
      clear hGen
      refine wpAnyH_take (i := 0) (oi := ⟨some 20, _, _, _, _, _⟩) (v := ?vvqc1) rfl (by kernel_rfl) (by kernel_rfl) (by kernel_rfl) (fun _ _ _ h => h) (Or.inl ⟨by rfl, ?yyqc1⟩) hHeld ?rrqc1
      case yyqc1 => (intro wq hSw; (try dsimp only at hSw); go_simp; first | done | with_reducible rfl)
      simp only [Act.put, List.setIfInBounds_toArray, List.set_cons_zero, List.set_cons_succ]
      refine wpAnyH_take (i := 1) (oi := ⟨some 21, _, _, _, _, _⟩) (v := ?vvqc2) rfl (by kernel_rfl) (by kernel_rfl) (by kernel_rfl) (fun _ _ _ h => h) (Or.inl ⟨by rfl, ?yyqc2⟩) hHeld ?rrqc2
      case yyqc2 => (intro wq hSw; (try dsimp only at hSw); go_simp; first | done | with_reducible rfl)
      simp only [Act.put, List.setIfInBounds_toArray, List.set_cons_zero, List.set_cons_succ]
      refine wpAnyH_take (i := 2) (oi := ⟨some 22, _, _, _, _, _⟩) (v := ?vvqc3) rfl (by kernel_rfl) (by kernel_rfl) (by kernel_rfl) (fun _ _ _ h => h) (Or.inl ⟨by rfl, ?yyqc3⟩) hHeld ?rrqc3
      case yyqc3 => (intro wq hSw; (try dsimp only at hSw); go_simp; first | done | with_reducible rfl)
      simp only [Act.put, List.setIfInBounds_toArray, List.set_cons_zero, List.set_cons_succ]
      refine wpAnyH_take (i := 3) (oi := ⟨some 23, _, _, _, _, _⟩) (v := ?vvqc4) rfl (by kernel_rfl) (by kernel_rfl) (by kernel_rfl) (fun _ _ _ h => h) (Or.inl ⟨by rfl, ?yyqc4⟩) hHeld ?rrqc4
      case yyqc4 => (intro wq hSw; (try dsimp only at hSw); go_simp; first | done | with_reducible rfl)
      simp only [Act.put, List.setIfInBounds_toArray, List.set_cons_zero, List.set_cons_succ]
      refine wpAnyH_take (i := 4) (oi := ⟨some 24, _, _, _, _, _⟩) (v := ?vvqc5) rfl (by kernel_rfl) (by kernel_rfl) (by kernel_rfl) (fun _ _ _ h => h) (Or.inl ⟨by rfl, ?yyqc5⟩) hHeld ?rrqc5
      case yyqc5 => (intro wq hSw; (try dsimp only at hSw); go_simp; first | done | with_reducible rfl)
      simp only [Act.put, List.setIfInBounds_toArray, List.set_cons_zero, List.set_cons_succ]
      refine wpAnyH_take (i := 5) (oi := ⟨some 25, _, _, _, _, _⟩) (v := ?vvqc6) rfl (by kernel_rfl) (by kernel_rfl) (by kernel_rfl) (fun _ _ _ h => h) (Or.inl ⟨by rfl, ?yyqc6⟩) hHeld ?rrqc6
      case yyqc6 => (intro wq hSw; (try dsimp only at hSw); go_simp; first | done | with_reducible rfl)
      simp only [Act.put, List.setIfInBounds_toArray, List.set_cons_zero, List.set_cons_succ]
      refine wpAnyH_take (i := 6) (oi := ⟨some 26, _, _, _, _, _⟩) (v := ?vvqc7) rfl (by kernel_rfl) (by kernel_rfl) (by kernel_rfl) (fun _ _ _ h => h) (Or.inl ⟨by rfl, ?yyqc7⟩) hHeld ?rrqc7
      case yyqc7 => (intro wq hSw; (try dsimp only at hSw); go_simp; first | done | with_reducible rfl)
      simp only [Act.put, List.setIfInBounds_toArray, List.set_cons_zero, List.set_cons_succ]
      refine wpAnyH_take (i := 7) (oi := ⟨some 19, _, _, _, _, _⟩) (v := ?vvqc8) rfl (by kernel_rfl) (by kernel_rfl) (by kernel_rfl) (fun _ _ _ h => h) (Or.inl ⟨by rfl, ?yyqc8⟩) hHeld ?rrqc8
      case yyqc8 => (intro wq hSw; (try dsimp only at hSw); go_simp; first | done | with_reducible rfl)
      simp only [Act.put, List.setIfInBounds_toArray, List.set_cons_zero, List.set_cons_succ]
      refine wpAnyH_take (i := 8) (oi := ⟨some 27, _, _, _, _, _⟩) (v := ?vvqc9) rfl (by kernel_rfl) (by kernel_rfl) (by kernel_rfl) (fun _ _ _ h => h) (Or.inl ⟨by rfl, ?yyqc9⟩) hHeld ?rrqc9
      case yyqc9 => (intro wq hSw; (try dsimp only at hSw); go_simp; first | done | with_reducible rfl)
      simp only [Act.put, List.setIfInBounds_toArray, List.set_cons_zero, List.set_cons_succ]
      refine wpAnyH_take (i := 9) (oi := ⟨some 28, _, _, _, _, _⟩) (v := ?vvqc10) rfl (by kernel_rfl) (by kernel_rfl) (by kernel_rfl) (fun _ _ _ h => h) (Or.inl ⟨by rfl, ?yyqc10⟩) hHeld ?rrqc10
      case yyqc10 => (intro wq hSw; (try dsimp only at hSw); go_simp; first | done | with_reducible rfl)
      simp only [Act.put, List.setIfInBounds_toArray, List.set_cons_zero, List.set_cons_succ]
      refine wpAnyH_ready (rs := [10]) (by kernel_rfl) (by simp) ?_
      refine AllReadyH.cons (o := ⟨some 6, _, _, _, _, _⟩) rfl (fun K hK => ?_) AllReadyH.nil
      go_simp
      obtain ⟨nc, hn⟩ : ∃ u, u = Xc.alloc (.cells #[.int .i64 0, .string ⟨#[]⟩, .slice none 0 0] 30) := ⟨_, rfl⟩
      obtain ⟨gc, hg⟩ : ∃ g, g = Xc.heap.size := ⟨_, rfl⟩
      rw [← hn, ← hg]
      have HAc : Hid (Below w1.heap.size w1 nc) := Lib.hid (by rw [hn]; exact below_then HXc.out (below_box _ _))
      have Ec : Hid (nc.heap[gc]? = some (.cells #[.int .i64 0, .string ⟨#[]⟩, .slice none 0 0] 30)) := Lib.hid (by rw [hn, hg]; exact heap_new _ _)
      have Lc : Hid (w1.heap.size ≤ gc) := Lib.hid (by rw [hg]; exact HXc.out.size)
      clear hn hg
      try dsimp only
      refine hK.out _ _ ?ssqc11 (fun hHeld => ?_)
      case ssqc11 => (exact HS.out _ HAc.out)
      clear hK K
      try simp only [Act.put, List.setIfInBounds_toArray, List.set_cons_zero, List.set_cons_succ]
      refine wpAnyH_ready (rs := [11]) (by kernel_rfl) (by simp) ?_
      refine AllReadyH.cons (o := ⟨none, _, _, _, _, _⟩) rfl (fun K hK => ?_) AllReadyH.nil
      have z0 := cell_of_blk Ec.out 0
      have z1 := cell_of_blk Ec.out 1
      have z2 := cell_of_blk Ec.out 2
      have y0 := frozen_of_blk Ec.out 0
      have y1 := frozen_of_blk Ec.out 1
      have y2 := frozen_of_blk Ec.out 2
      simp at z0 z1 z2
      go_simp
      obtain ⟨uc, hU⟩ : ∃ u, u = (((nc.setCell ⟨gc, 0, none⟩ (.int .i64 y.id)).setCell ⟨gc, 1, none⟩ (.string y.label)).setCell ⟨gc, 2, none⟩ (.slice ya y.ps.length yc)) := ⟨_, rfl⟩
      rw [← hU]
      have HCc : Hid (Below w1.heap.size w1 uc) := Lib.hid (by rw [hU]; exact (((HAc.out.setCell (p := ⟨gc, 0, none⟩) Lc.out _).setCell (p := ⟨gc, 1, none⟩) Lc.out _).setCell (p := ⟨gc, 2, none⟩) Lc.out _))
      clear hU z0 y0 z1 y1 z2 y2
      try dsimp only
      refine hK.out _ _ ?ssqc12 (fun hHeld => ?_)
      case ssqc12 => (exact HS.out _ HCc.out)
      clear hK K
      try simp only [Act.put, List.setIfInBounds_toArray, List.set_cons_zero, List.set_cons_succ]
      refine wpAnyH_take (i := 12) (oi := ⟨some 7, _, _, _, _, _⟩) (v := ?vvqc13) rfl (by kernel_rfl) (by kernel_rfl) (by kernel_rfl) (fun _ _ _ h => h) (Or.inl ⟨by rfl, ?yyqc13⟩) hHeld ?rrqc13
      case yyqc13 => (intro wq hSw; (try dsimp only at hSw); go_simp; first | done | with_reducible rfl)
      simp only [Act.put, List.setIfInBounds_toArray, List.set_cons_zero, List.set_cons_succ]
      refine wpAnyH_done (by kernel_rfl) ?_ _
      clear hHeld
      go_wp2_with fail
      go_ret
      refine ⟨ret_int ?_, ?_, ?_⟩
      · unfold addV; rw [if_pos HCK.out, HF.out]; rfl
      · unfold addV; rw [if_pos HCK.out, HF.out]; exact HG1.out.below HCc.out
      · exact Chg.of_below (HBW.out.trans (HCc.out.mono HBW.out.size)) _
  · obtain ⟨cr, hcr⟩ : ∃ cr, cr = checkR v.label v.ps [v.id] := ⟨_, rfl⟩
    rw [← hcr] at hck ⊢
    have h1 : (cr == 0) = false := by simpa using hck
    have h2 : (cr != 0) = true := by simpa using hck
    have HCR := Lib.hid hcr
    have HCK := Lib.hid hck
    clear hcr hck
    go_wp2_with fail
    go_ret
    have e9 : addV V v = (cr, V) := by unfold addV; rw [← HCR.out, if_neg HCK.out]
    exact ⟨by rw [e9]; rfl, by rw [e9]; exact HG1.out, Chg.of_below HBW.out _⟩
end Go.Proofs.YtkbmipmegljidaaGreat
