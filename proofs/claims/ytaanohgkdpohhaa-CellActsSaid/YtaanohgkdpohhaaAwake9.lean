/- awake (layer 9): it returns true. No condition. -/
import Derived.Test.YtaanohgkdpohhaaCellG
namespace Go.Proofs.Ytaanohgkdpohhaa
open Go.RowKit Go.Maps

theorem key9_any (n : Int) (w : World) : Calls Try.prog 18 #[.int .i64 n] w fun e w' => e = .returned (.agg #[.int .i64 1, .int .i64 n, .int .i64 0, .string ⟨#[]⟩]) ∧ Below w.heap.size w w' := by
  go_enter Try.func18, Try.ntmps18
  go_wp2
  refine bodyPost_ret (v := .agg #[.int .i64 1, .int .i64 n, .int .i64 0, .string ⟨#[]⟩]) (by simp [results, Try.results18, go_sem]) rfl ⟨rfl, (Below.refl _ _).alloc (Nat.le_refl _) _⟩
theorem seen9_any (s : ByteArray) (w : World) : Calls Try.prog 20 #[.string s] w fun e w' => e = .returned (.agg #[.int .u64 0, .string s, .bool true]) ∧ Below w.heap.size w w' := by
  go_enter Try.func20, Try.ntmps20
  go_wp2
  refine bodyPost_ret (v := .agg #[.int .u64 0, .string s, .bool true]) (by simp [results, Try.results20, go_sem]) rfl ⟨rfl, (Below.refl _ _).alloc (Nat.le_refl _) _⟩
/-- the key of a number -/
def k9 (n : Int) : Ky := ⟨1, n, 0, ⟨#[]⟩⟩
theorem i64_lit {n : Int} (h : 0 ≤ n) (h2 : n ≤ 1000) : I64 n := by constructor <;> omega

theorem k9_ok {n : Int} (h : I64 n) : (k9 n).Ok := ⟨i64_lit (n := 1) (by omega) (by omega), h, i64_lit (n := 0) (by omega) (by omega), Nat.zero_le _⟩

set_option maxRecDepth 100000 in
set_option maxHeartbeats 2000000 in
theorem awake9_any (w : World) : Calls Try.prog 15 #[] w fun e w' => e = .returned (.bool true) ∧ Below w.heap.size w w' := by
  have K1 := k9_ok (n := 1) (i64_lit (by omega) (by omega))
  go_enter Try.func15, Try.ntmps15
  go_wp2_with fail
  refine (new_g 4 _ (by omega)).mono ?_
  rintro e w1 ⟨s1, rfl, hS1, g1, n1, c1, r1⟩
  obtain ⟨b, hb1⟩ : ∃ b, s1.sb = b := ⟨_, rfl⟩
  rw [hb1]
  have G1 := Lib.hid g1
  have N1 := Lib.hid n1
  have R1 := Lib.hid r1
  have B1 := Lib.hid hb1
  clear g1 n1 c1 r1 hb1
  go_wp2_with fail
  refine (key9_any _ _).mono ?_
  rintro e w2 ⟨rfl, hb2⟩
  have hS2 := hS1.below hb2
  clear hb2 hS1
  go_wp2_with fail
  refine (lock_new_g s1 b (k9 1) 7 _ hS2.st B1.out K1 (i64_lit (by omega) (by omega)) (by rw [G1.out]) (by rw [N1.out, R1.out]; omega)).mono ?_
  rintro e w3 ⟨rfl, s3, p3⟩
  have hS3 := hS2.gpost p3
  have G3 : Hid (s3.g (k9 1) = some ⟨0, true, true, ⟨#[]⟩, 7⟩) := Lib.hid (by rw [p3.g, setG_same])
  have B3 : Hid (s3.sb = b) := Lib.hid (p3.sb.trans B1.out)
  clear p3 hS2
  go_wp2_with fail
  refine (key9_any _ _).mono ?_
  rintro e w4 ⟨rfl, hb4⟩
  have hS4 := hS3.below hb4
  clear hb4 hS3
  go_wp2_with fail
  refine (seen9_any _ _).mono ?_
  rintro e w5 ⟨rfl, hb5⟩
  have hS5 := hS4.below hb5
  clear hb5 hS4
  go_wp2_with fail
  refine (install_g s3 b (k9 1) _ 7 5 0 ⟨#[120]⟩ true _ hS5.st B3.out K1 G3.out rfl rfl (by unfold Sm; decide) (by decide) (.inl rfl) (by decide)).mono ?_
  rintro e w6 ⟨rfl, s6, p6⟩
  have hS6 := hS5.gpost p6
  have G6 : Hid (s6.g (k9 1) = some ⟨5, false, false, ⟨#[120]⟩, 7⟩) := Lib.hid (by rw [p6.g, setG_same]; rfl)
  have B6 : Hid (s6.sb = b) := Lib.hid (p6.sb.trans B3.out)
  clear p6 hS5
  go_wp2_with fail
  refine (key9_any _ _).mono ?_
  rintro e w7 ⟨rfl, hb7⟩
  have hS7 := hS6.below hb7
  clear hb7 hS6
  go_wp2_with fail
  refine (read_g s6 b (k9 1) _ hS7.st B6.out K1).mono ?_
  rintro e w8 ⟨rfl, hb8⟩
  rw [G6.out]
  simp only [readV, Bool.false_eq_true, if_false, Bool.not_false]
  have hS8 := hS7.below hb8
  clear hb8 hS7
  go_wp2_with fail
  have hS9 := hS8.alloc (.cells #[.int .u64 5, .string ⟨#[120]⟩, .bool true] 36)
  have x9 := Bx.new hS8.st (.cells #[.int .u64 5, .string ⟨#[120]⟩, .bool true] 36)
  clear hS8
  refine (key9_any _ _).mono ?_
  rintro e w10 ⟨rfl, hb10⟩
  have hS10 := hS9.below hb10
  have x10 := x9.below hb10
  clear hb10 hS9 x9
  go_wp2_with fail
  refine (lock_free_g s6 b (k9 1) _ 1 _ hS10.st B6.out K1 (i64_lit (by omega) (by omega)) G6.out rfl).mono ?_
  rintro e w11 ⟨rfl, s11, p11⟩
  have hS11 := hS10.gpost p11
  have x11 := x10.gpost p11
  have G11 : Hid (s11.g (k9 1) = some ⟨5, true, false, ⟨#[120]⟩, 1⟩) := Lib.hid (by rw [p11.g, setG_same])
  have B11 : Hid (s11.sb = b) := Lib.hid (p11.sb.trans B6.out)
  clear p11 hS10 x10
  go_wp2_with fail
  refine (key9_any _ _).mono ?_
  rintro e w12 ⟨rfl, hb12⟩
  have hS12 := hS11.below hb12
  have x12 := x11.below hb12
  clear hb12 hS11 x11
  go_wp2_with fail
  refine (lock_busy_g s11 b (k9 1) _ 2 _ hS12.st B11.out K1 G11.out rfl).mono ?_
  rintro e w13 ⟨rfl, hb13⟩
  have hS13 := hS12.below hb13
  have x13 := x12.below hb13
  clear hb13 hS12 x12
  go_wp2_with fail
  refine (key9_any _ _).mono ?_
  rintro e w14 ⟨rfl, hb14⟩
  have hS14 := hS13.below hb14
  have x14 := x13.below hb14
  clear hb14 hS13 x13
  go_wp2_with fail
  refine (read_g s11 b (k9 1) _ hS14.st B11.out K1).mono ?_
  rintro e w15 ⟨rfl, hb15⟩
  rw [G11.out]
  simp only [readV, if_true]
  have hS15 := hS14.below hb15
  have x15 := x14.below hb15
  clear hb15 hS14 x14
  go_wp2_with fail
  obtain ⟨W, hW⟩ : ∃ W, W = w15.alloc (.cells #[.int .u64 0, .string ⟨#[]⟩, .bool false] 36) := ⟨_, rfl⟩
  have hSW := hS15.alloc (.cells #[.int .u64 0, .string ⟨#[]⟩, .bool false] 36)
  have xW := x15.alloc (.cells #[.int .u64 0, .string ⟨#[]⟩, .bool false] 36)
  rw [← hW] at hSW xW ⊢
  clear hW hS15 x15
  have lx := xW.lt
  have cx0 := xW.cell 0
  have cx1 := xW.cell 1
  have cx2 := xW.cell 2
  simp at cx0 cx1 cx2
  have ks : ∀ w', Below W.heap.size W w' → Below W.heap.size W w' ∧ w'.cell? ⟨w8.heap.size, 0, none⟩ = some (.int .u64 5) ∧ w'.cell? ⟨w8.heap.size, 1, none⟩ = some (.string ⟨#[120]⟩) ∧ w'.cell? ⟨w8.heap.size, 2, none⟩ = some (.bool true) :=
    fun w' hb => ⟨hb, below_cell hb 0 lx cx0, below_cell hb 1 lx cx1, below_cell hb 2 lx cx2⟩
  have KS := Lib.hid ks
  have E1 : Hid (stillV (s11.g (k9 1)) 1 5 true = true) := Lib.hid (by rw [G11.out]; decide)
  have E2 : Hid (stillV (s11.g (k9 1)) 2 5 true = false) := Lib.hid (by rw [G11.out]; decide)
  clear ks cx0 cx1 cx2
  go_region_held3 (fun w' => Below W.heap.size W w' ∧ w'.cell? ⟨w8.heap.size, 0, none⟩ = some (.int .u64 5) ∧ w'.cell? ⟨w8.heap.size, 1, none⟩ = some (.string ⟨#[120]⟩) ∧ w'.cell? ⟨w8.heap.size, 2, none⟩ = some (.bool true))
    (first | exact KS.out _ (Below.refl _ _).drew | (go_split_ands; refine KS.out _ (below_then ?_ hbc); assumption))
    (first | (go_at_call 18; refine (key9_any _ _).mono ?_; rintro e wc ⟨rfl, hbc⟩) | (go_at_call 75; go_split_ands; refine (still_g s11 b (k9 1) _ 5 ⟨#[120]⟩ true _ (StC.stay hSW.st ?hbw) B11.out K1).mono ?_; (case hbw => assumption); rintro e wc ⟨rfl, hbc⟩; first | rw [E1.out] | rw [E2.out]))
  go_split_ands
  go_wp2
  go_ret
  exact ⟨rfl, hSW.bel.trans (Below.mono (by assumption) hSW.bel.size)⟩
end Go.Proofs.Ytaanohgkdpohhaa
