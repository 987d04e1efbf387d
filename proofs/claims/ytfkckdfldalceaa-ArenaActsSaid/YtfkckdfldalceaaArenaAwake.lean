/- awake (layer 5): it returns true. No condition. -/
import Derived.Test.YtfkckdfldalceaaArenaMore
import Derived.Deep.RegionHeld3
namespace Go.Proofs.Ytfkckdfldalceaa
open Go.RowKit Go.Maps

def Aw.s0 : Ar := Ar.made 2
def Aw.s1 : Ar := Aw.s0.take
def Aw.s2 : Ar := Aw.s1.take
def Aw.s3 : Ar := Aw.s2.take
def Aw.s4 : Ar := Aw.s3.drop1 0 0
def Aw.s5 : Ar := Aw.s4.take
theorem Aw.e0 : Aw.s0.takeRes = (0, 0, 0) := by decide
theorem Aw.e1 : Aw.s1.takeRes = (1, 0, 0) := by decide
theorem Aw.e2 : Aw.s2.takeRes = (0, 0, 50) := by decide
theorem Aw.e3 : Aw.s3.drop1Res 0 0 = 0 := by decide
theorem Aw.e4 : Aw.s4.takeRes = (0, 1, 0) := by decide
theorem Aw.e5 : Aw.s5.live 0 0 = false := by decide

set_option maxRecDepth 100000 in
set_option maxHeartbeats 1000000 in
theorem awake5_any (w : World) : Calls Try.prog 15 #[] w fun e w' => e = .returned (.bool true) ∧ Below w.heap.size w w' := by
  go_enter Try.func15, Try.ntmps15
  go_wp2_with fail
  refine (new_any 2 _ (by omega)).mono ?_
  rintro e w1 ⟨rfl, hA, hb1⟩
  have hS1 := ArS.made hA hb1
  clear hA hb1
  go_wp2_with fail
  refine (take_to _ _ _ _ _ _ _ _ _ _ hS1.ar Aw.e0).mono ?_
  rintro e w2 ⟨rfl, v2, hA2, hc2, ho2⟩
  have hS2 := (hS1.step hA2 hc2 ho2)
  have x2 := Boxed.new hA2 (.cells #[.int .i64 0, .int .i64 0] 30)
  clear hA2 hc2 ho2 hS1
  go_wp2_with fail
  refine (take_to _ _ _ _ _ _ _ _ _ _ (hS2.ar.alloc _) Aw.e1).mono ?_
  rintro e w3 ⟨rfl, v3, hA3, hc3, ho3⟩
  have hS3 := (hS2.alloc _).step hA3 hc3 ho3
  have x3 := (x2.step hc3 ho3).alloc (.cells #[.int .i64 1, .int .i64 0] 30)
  have y3 := Boxed.new hA3 (.cells #[.int .i64 1, .int .i64 0] 30)
  clear hA3 hc3 ho3 hS2 x2
  go_wp2_with fail
  refine (take_to _ _ _ _ _ _ _ _ _ _ (hS3.ar.alloc _) Aw.e2).mono ?_
  rintro e w4 ⟨rfl, v4, hA4, hc4, ho4⟩
  have hS4 := (hS3.alloc _).step hA4 hc4 ho4
  have x4 := (x3.step hc4 ho4).alloc (.cells #[.int .i64 0, .int .i64 0] 30)
  have y4 := (y3.step hc4 ho4).alloc (.cells #[.int .i64 0, .int .i64 0] 30)
  clear hA4 hc4 ho4 hS3 x3 y3
  have cx0 := x4.cell 0
  have cx1 := x4.cell 1
  simp at cx0 cx1
  go_wp2_with fail
  have h4 := (hS4.alloc (.cells #[.int .i64 0, .int .i64 0] 30)).alloc (.cells #[.int .i64 0, .int .i64 0] 30)
  have b4 := Boxed.new (hS4.alloc (.cells #[.int .i64 0, .int .i64 0] 30)).ar (.cells #[.int .i64 0, .int .i64 0] 30)
  rw [size_alloc] at b4
  refine (free_one _ _ _ _ 1 _ Aw.s3 _ 0 0 _ _ _ h4.ar b4.at' (by constructor <;> omega) (by constructor <;> omega) b4.out (by omega)).mono ?_
  rintro e w5 ⟨rfl, v5, hA5, hc5, ho5⟩
  rw [Aw.e3]
  have hS5 := h4.step hA5 hc5 ho5
  have x5 := (x4.alloc (.cells #[.int .i64 0, .int .i64 0] 30)).step hc5 ho5
  have y5 := (y4.alloc (.cells #[.int .i64 0, .int .i64 0] 30)).step hc5 ho5
  clear hA5 hc5 ho5 hS4 x4 y4 h4 b4 cx0 cx1
  go_wp2_with fail
  refine (take_to _ _ _ _ Aw.s4 _ _ _ _ _ hS5.ar Aw.e4).mono ?_
  rintro e w6 ⟨rfl, v6, hA6, hc6, ho6⟩
  have hS6 := (hS5.step hA6 hc6 ho6)
  have x6 := (x5.step hc6 ho6).alloc (.cells #[.int .i64 0, .int .i64 1] 30)
  have y6 := (y5.step hc6 ho6).alloc (.cells #[.int .i64 0, .int .i64 1] 30)
  have z6 := Boxed.new hA6 (.cells #[.int .i64 0, .int .i64 1] 30)
  clear hA6 hc6 ho6 hS5 x5 y5
  go_wp2_with fail
  obtain ⟨W, hW⟩ : ∃ W, W = w6.alloc (.cells #[.int .i64 0, .int .i64 1] 30) := ⟨_, rfl⟩
  have hSW := hS6.alloc (.cells #[.int .i64 0, .int .i64 1] 30)
  rw [← hW] at x6 y6 z6 hSW ⊢
  have lx := x6.lt
  have ly := y6.lt
  have lz := z6.lt
  have cx0 := x6.cell 0
  have cx1 := x6.cell 1
  have cy0 := y6.cell 0
  have cy1 := y6.cell 1
  have cz0 := z6.cell 0
  have cz1 := z6.cell 1
  simp at cx0 cx1 cy0 cy1 cz0 cz1
  clear hW hS6 x6 y6 z6
  have ks : ∀ w', Below W.heap.size W w' → Below W.heap.size W w' ∧ w'.cell? ⟨w2.heap.size, 0, none⟩ = some (.int .i64 0) ∧ w'.cell? ⟨w2.heap.size, 1, none⟩ = some (.int .i64 0) ∧ w'.cell? ⟨w3.heap.size, 0, none⟩ = some (.int .i64 1) ∧ w'.cell? ⟨w3.heap.size, 1, none⟩ = some (.int .i64 0) ∧ w'.cell? ⟨w6.heap.size, 0, none⟩ = some (.int .i64 0) ∧ w'.cell? ⟨w6.heap.size, 1, none⟩ = some (.int .i64 1) :=
    fun w' hb => ⟨hb, below_cell hb 0 lx cx0, below_cell hb 1 lx cx1, below_cell hb 0 ly cy0, below_cell hb 1 ly cy1, below_cell hb 0 lz cz0, below_cell hb 1 lz cz1⟩
  have KS := Lib.hid ks
  have i0 : I64 0 := by constructor <;> omega
  clear ks
  go_region_held3 (fun w' => Below W.heap.size W w' ∧ w'.cell? ⟨w2.heap.size, 0, none⟩ = some (.int .i64 0) ∧ w'.cell? ⟨w2.heap.size, 1, none⟩ = some (.int .i64 0) ∧ w'.cell? ⟨w3.heap.size, 0, none⟩ = some (.int .i64 1) ∧ w'.cell? ⟨w3.heap.size, 1, none⟩ = some (.int .i64 0) ∧ w'.cell? ⟨w6.heap.size, 0, none⟩ = some (.int .i64 0) ∧ w'.cell? ⟨w6.heap.size, 1, none⟩ = some (.int .i64 1))
    (first | exact KS.out _ (Below.refl _ _).drew | (go_split_ands; refine KS.out _ (below_then ?_ hbc); assumption))
    (first | (go_at_call 23; refine (handle_any _ _ _).mono ?_; rintro e wc ⟨rfl, hbc⟩) | (go_at_call 19; go_split_ands; refine (live_any _ _ _ _ Aw.s5 _ _ 0 0 i0 (ArS.ar (hSW.below ?hbw))).mono ?_; (case hbw => assumption); rintro e wc ⟨rfl, hbc⟩; rw [Aw.e5]))
  go_split_ands
  go_wp2
  go_ret
  exact ⟨rfl, hSW.bel.trans (Below.mono (by assumption) hSW.bel.size)⟩
end Go.Proofs.Ytfkckdfldalceaa
