/- graph.Edge, graph.Vertex. Conditions: each contract's own premises. -/
import Derived.Test.YtonilojjahfboaaGreatGr4
namespace Go.Proofs.YtonilojjahfboaaGreat
open Go.RowKit Go.Maps

def Eg.zero : Eg := ⟨0, ⟨#[]⟩, 0, 0, []⟩
def Vt.zero : Vt := ⟨0, ⟨#[]⟩, []⟩
def getE (E : List Eg) (n : Int) : Eg := (findB Eg.id E n).getD Eg.zero
def getV (V : List Vt) (n : Int) : Vt := (findB Vt.id V n).getD Vt.zero
theorem psA_nil (w : World) : PsA w none 0 [] := ⟨fun h => absurd rfl h, fun _ => ⟨rfl, rfl⟩⟩
theorem look_e {w : World} {gb vb eb : Nat} {V : List Vt} {E : List Eg} (h : GrC w gb vb eb V E) {n : Int} (hn : I64 n) :
    ∃ a c, (Instr.lookup 164 (.map (some eb)) (.int .i64 n) true).run Tryz.prog w = .ok (.tuple #[(getE E n).val a c, .bool (findB Eg.id E n).isSome]) w ∧ PsA w a c (getE E n).ps ∧ (getE E n).ps.length ≤ 100000 := by
  unfold getE
  cases hf : findB Eg.id E n with
  | none => exact ⟨none, 0, (lookE h hn).1 hf, psA_nil w, by simp [Eg.zero]⟩
  | some y =>
    obtain ⟨a, c, h1, h2⟩ := (lookE h hn).2 y hf
    exact ⟨a, c, h1, h2, by have := checkR_ps (h.ok.e y (findB_some hf).1); simp; omega⟩
theorem look_v {w : World} {gb vb eb : Nat} {V : List Vt} {E : List Eg} (h : GrC w gb vb eb V E) {n : Int} (hn : I64 n) :
    ∃ a c, (Instr.lookup 163 (.map (some vb)) (.int .i64 n) true).run Tryz.prog w = .ok (.tuple #[(getV V n).val a c, .bool (findB Vt.id V n).isSome]) w ∧ PsA w a c (getV V n).ps ∧ (getV V n).ps.length ≤ 100000 := by
  unfold getV
  cases hf : findB Vt.id V n with
  | none => exact ⟨none, 0, (lookV h hn).1 hf, psA_nil w, by simp [Vt.zero]⟩
  | some y =>
    obtain ⟨a, c, h1, h2⟩ := (lookV h hn).2 y hf
    exact ⟨a, c, h1, h2, by have := checkR_ps (h.ok.v y (findB_some hf).1); simp; omega⟩
def EdPost (w : World) (E : List Eg) (n : Int) (e : Ending) (w' : World) : Prop := ∃ a c, e = .returned (.tuple #[(getE E n).val a c, .bool (findB Eg.id E n).isSome]) ∧ (PsA w' a c (getE E n).ps ∧ ∀ b off, a = some ⟨b, off, none⟩ → w.heap.size ≤ b) ∧ Below w.heap.size w w'
def VxPost (w : World) (V : List Vt) (n : Int) (e : Ending) (w' : World) : Prop := ∃ a c, e = .returned (.tuple #[(getV V n).val a c, .bool (findB Vt.id V n).isSome]) ∧ (PsA w' a c (getV V n).ps ∧ ∀ b off, a = some ⟨b, off, none⟩ → w.heap.size ≤ b) ∧ Below w.heap.size w w'
set_option maxRecDepth 100000 in
set_option maxHeartbeats 1000000 in
theorem gedge_any (gb vb eb : Nat) (V : List Vt) (E : List Eg) (n : Int) (w : World) (h : GrC w gb vb eb V E) (hn : I64 n) :
    Calls Tryz.prog 21 #[.pointer (some ⟨gb, 0, none⟩), .int .i64 n] w (EdPost w E n) := by
  have HB0 := Lib.hid (below_box w (.cells #[.int .i64 0, .string ⟨#[]⟩, .int .i64 0, .int .i64 0, .slice none 0 0] 30))
  have HR := Lib.hid (heap_new w (.cells #[.int .i64 0, .string ⟨#[]⟩, .int .i64 0, .int .i64 0, .slice none 0 0] 30))
  have h0 := h.below HB0.out
  obtain ⟨a, c, hlk, hp, hl⟩ := look_e h0 hn
  obtain ⟨y, hy⟩ : ∃ y, y = getE E n := ⟨_, rfl⟩
  obtain ⟨k, hk⟩ : ∃ k, k = (findB Eg.id E n).isSome := ⟨_, rfl⟩
  unfold EdPost
  rw [← hy] at hlk hp hl ⊢
  rw [← hk] at hlk ⊢
  clear hy hk
  have c1 : w.cell? ⟨gb, 1, none⟩ = some (.map (some eb)) := by rw [cell_of_blk h.blk]; rfl
  have hlg := h.lt
  have HP := Lib.hid hp
  have HL := Lib.hid hl
  clear h h0 hp hl hn
  unfold Eg.val at hlk ⊢
  go_enter Tryz.func21, Tryz.ntmps21
  go_wp2_with fail
  refine (ownE_any y a c _ (HP.out.below (below_box _ _)) HL.out).mono ?_
  rintro e w1 ⟨a1, c1', rfl, ⟨p1, n1⟩, b1⟩
  have x1 := (b1.block w.heap.size (by simp; omega)).trans ((Below.heap_alloc _ _ _ (by simp)).trans HR.out)
  have hz : w.heap.size < w1.heap.size := (Array.getElem?_eq_some_iff.1 x1).1
  have r0 := cell_of_blk x1 0
  have g0 := frozen_of_blk x1 0
  have r1 := cell_of_blk x1 1
  have g1 := frozen_of_blk x1 1
  have r2 := cell_of_blk x1 2
  have g2 := frozen_of_blk x1 2
  have r3 := cell_of_blk x1 3
  have g3 := frozen_of_blk x1 3
  have r4 := cell_of_blk x1 4
  have g4 := frozen_of_blk x1 4
  simp at r0 r1 r2 r3 r4
  have HP1 := Lib.hid p1
  have HN1 := Lib.hid n1
  have HB1 : Hid (Below w.heap.size w w1) := Lib.hid (HB0.out.trans (((below_box _ _).trans (b1.mono (by simp))).mono (by simp)))
  clear p1 n1 b1 x1
  unfold Eg.val
  go_wp2_with fail
  refine bodyPost_ret (v := .tuple #[.agg #[.int .i64 y.id, .string y.label, .int .i64 y.fr, .int .i64 y.to, .slice a1 y.ps.length c1'], .bool k]) (by simp [results, Tryz.results21, go_sem, r0, r1, r2, r3, r4]) rfl ⟨a1, c1', rfl, ⟨⟨fun hp => ?_, HP1.out.nil⟩, fun b off e => by have := HN1.out b off e; simp only [size_alloc] at this; omega⟩, ?_⟩
  · obtain ⟨b, off, e, hat⟩ := HP1.out.v hp
    have hlb := HN1.out b off e
    simp only [size_alloc] at hlb
    exact ⟨b, off, e, hat.of_block (by rw [set_ne _ _ _ _ (by omega), set_ne _ _ _ _ (by omega), set_ne _ _ _ _ (by omega), set_ne _ _ _ _ (by omega), set_ne _ _ _ _ (by omega)])⟩
  · exact ((((HB1.out.setCell (Nat.le_refl _) _).setCell (Nat.le_refl _) _).setCell (Nat.le_refl _) _).setCell (Nat.le_refl _) _).setCell (Nat.le_refl _) _
set_option maxRecDepth 100000 in
set_option maxHeartbeats 1000000 in
theorem gvertex_any (gb vb eb : Nat) (V : List Vt) (E : List Eg) (n : Int) (w : World) (h : GrC w gb vb eb V E) (hn : I64 n) :
    Calls Tryz.prog 65 #[.pointer (some ⟨gb, 0, none⟩), .int .i64 n] w (VxPost w V n) := by
  have HB0 := Lib.hid (below_box w (.cells #[.int .i64 0, .string ⟨#[]⟩, .slice none 0 0] 28))
  have HR := Lib.hid (heap_new w (.cells #[.int .i64 0, .string ⟨#[]⟩, .slice none 0 0] 28))
  have h0 := h.below HB0.out
  obtain ⟨a, c, hlk, hp, hl⟩ := look_v h0 hn
  obtain ⟨y, hy⟩ : ∃ y, y = getV V n := ⟨_, rfl⟩
  obtain ⟨k, hk⟩ : ∃ k, k = (findB Vt.id V n).isSome := ⟨_, rfl⟩
  unfold VxPost
  rw [← hy] at hlk hp hl ⊢
  rw [← hk] at hlk ⊢
  clear hy hk
  have c1 : w.cell? ⟨gb, 0, none⟩ = some (.map (some vb)) := by rw [cell_of_blk h.blk]; rfl
  have hlg := h.lt
  have HP := Lib.hid hp
  have HL := Lib.hid hl
  clear h h0 hp hl hn
  unfold Vt.val at hlk ⊢
  go_enter Tryz.func65, Tryz.ntmps65
  go_wp2_with fail
  refine (ownV_any y a c _ (HP.out.below (below_box _ _)) HL.out).mono ?_
  rintro e w1 ⟨a1, c1', rfl, ⟨p1, n1⟩, b1⟩
  have x1 := (b1.block w.heap.size (by simp; omega)).trans ((Below.heap_alloc _ _ _ (by simp)).trans HR.out)
  have hz : w.heap.size < w1.heap.size := (Array.getElem?_eq_some_iff.1 x1).1
  have r0 := cell_of_blk x1 0
  have g0 := frozen_of_blk x1 0
  have r1 := cell_of_blk x1 1
  have g1 := frozen_of_blk x1 1
  have r2 := cell_of_blk x1 2
  have g2 := frozen_of_blk x1 2
  simp at r0 r1 r2
  have HP1 := Lib.hid p1
  have HN1 := Lib.hid n1
  have HB1 : Hid (Below w.heap.size w w1) := Lib.hid (HB0.out.trans (((below_box _ _).trans (b1.mono (by simp))).mono (by simp)))
  clear p1 n1 b1 x1
  unfold Vt.val
  go_wp2_with fail
  refine bodyPost_ret (v := .tuple #[.agg #[.int .i64 y.id, .string y.label, .slice a1 y.ps.length c1'], .bool k]) (by simp [results, Tryz.results65, go_sem, r0, r1, r2]) rfl ⟨a1, c1', rfl, ⟨⟨fun hp => ?_, HP1.out.nil⟩, fun b off e => by have := HN1.out b off e; simp only [size_alloc] at this; omega⟩, ?_⟩
  · obtain ⟨b, off, e, hat⟩ := HP1.out.v hp
    have hlb := HN1.out b off e
    simp only [size_alloc] at hlb
    exact ⟨b, off, e, hat.of_block (by rw [set_ne _ _ _ _ (by omega), set_ne _ _ _ _ (by omega), set_ne _ _ _ _ (by omega)])⟩
  · exact ((HB1.out.setCell (Nat.le_refl _) _).setCell (Nat.le_refl _) _).setCell (Nat.le_refl _) _
end Go.Proofs.YtonilojjahfboaaGreat
