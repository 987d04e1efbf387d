/- Package word: the greatest stamp of two words; the next stamp. Conditions: each contract's own premises. -/
import Derived.Test.YtkhkdedjffkhdaaGreatCell
import Derived.Deep.Cut
namespace Go.Proofs.YtkhkdedjffkhdaaGreat
open Go.RowKit Go.Maps

/-- a word's stamp -/
def mo (x : Nat) : Nat := x % 4611686018427387904
theorem mo_lt (x : Nat) : Sm (mo x) := Nat.mod_lt _ (by decide)
theorem mo_self {x : Nat} (h : Sm x) : mo x = x := Nat.mod_eq_of_lt h
theorem wd_of {x : Nat} (h : x < 18446744073709551616) : ∃ lk ab, x = wd (mo x) lk ab := by
  unfold mo
  have h1 : x / 4611686018427387904 < 4 := by omega
  have h2 := Nat.div_add_mod x 4611686018427387904
  have h3 : x / 4611686018427387904 = 0 ∨ x / 4611686018427387904 = 1 ∨ x / 4611686018427387904 = 2 ∨ x / 4611686018427387904 = 3 := by omega
  rcases h3 with e | e | e | e
  · exact ⟨false, false, by unfold wd; simp; omega⟩
  · exact ⟨false, true, by unfold wd; simp; omega⟩
  · exact ⟨true, false, by unfold wd; simp; omega⟩
  · exact ⟨true, true, by unfold wd; simp; omega⟩
theorem stamp_of (x : Nat) (w : World) (h : x < 18446744073709551616) : Calls Tryz.prog 80 #[.int .u64 x] w fun e w' => e = .returned (.int .u64 (mo x)) ∧ w = w' := by
  obtain ⟨lk, ab, e⟩ := wd_of h
  have := stamp_wd (mo x) lk ab w (mo_lt x)
  rw [← e] at this
  exact this
def mostP (x y k : Nat) : Nat := if k = 0 then 0 else if k = 1 then mo x else max (mo x) (mo y)
set_option maxRecDepth 100000 in
theorem most2_any (b cap x y : Nat) (w : World) (hx : x < 18446744073709551616) (hy : y < 18446744073709551616) (c0 : w.cell? ⟨b, 0, none⟩ = some (.int .u64 x)) (c1 : w.cell? ⟨b, 1, none⟩ = some (.int .u64 y)) :
    Calls Tryz.prog 39 #[.slice (some ⟨b, 0, none⟩) 2 cap] w fun e w' => e = .returned (.int .u64 (max (mo x) (mo y) : Nat)) ∧ w = w' := by
  have hl := block_lt_of_cell c0
  have HX := Lib.hid (stamp_of x w hx)
  have HY := Lib.hid (stamp_of y w hy)
  have HM : Hid (mostP x y 0 = 0 ∧ mostP x y 1 = mo x ∧ mostP x y 2 = max (mo x) (mo y)) := Lib.hid ⟨rfl, rfl, rfl⟩
  have HF : Hid (∀ w', w = w' → (fun e w' => e = Ending.returned (.int .u64 (max (mo x) (mo y) : Nat)) ∧ w = w') (.returned (.int .u64 (mostP x y 2))) w') := Lib.hid (fun w' h => ⟨by rw [HM.out.2.2], h⟩)
  have hmx : max (0 : Int) (mo x : Int) = (mo x : Int) := by omega
  obtain ⟨f, hf⟩ : ∃ f, f = mostP x y := ⟨_, rfl⟩
  obtain ⟨mx, hmx1⟩ : ∃ m, m = mo x := ⟨_, rfl⟩
  obtain ⟨my, hmy1⟩ : ∃ m, m = mo y := ⟨_, rfl⟩
  rw [← hf] at HF
  rw [← hf, ← hmx1, ← hmy1] at HM
  rw [← hmx1] at HX hmx
  rw [← hmy1] at HY
  have hmxy : max (mx : Int) (my : Int) = ((max mx my : Nat) : Int) := by omega
  clear hx hy hf hmx1 hmy1
  go_enter Tryz.func39, Tryz.ntmps39
  go_wp2_with fail
  go_loopw [3, 8] (fun m i wr => ∃ k : Nat, k ≤ 2 ∧ i = .int .i64 k ∧ (∃ n : Nat, m = .int .u64 n ∧ Hid (n = f k)) ∧ w = wr) (fun _ i _ => 2 - (intOf i).toNat)
  case atStart => exact ⟨0, by omega, rfl, ⟨0, rfl, Lib.hid HM.out.1.symm⟩, rfl⟩
  case round =>
    obtain ⟨k, hk, rfl, ⟨n, rfl, hn⟩, rfl⟩ := hrel
    have hk3 : k = 0 ∨ k = 1 ∨ k = 2 := by omega
    rcases hk3 with rfl | rfl | rfl
    · obtain rfl : n = 0 := hn.out.trans HM.out.1
      go_wp2_with (go_at_call 80; refine HX.out.mono ?_; rintro e w1 ⟨rfl, rfl⟩)
      exact ⟨⟨1, by omega, by go_num, ⟨mx, by first | rfl | (simp; omega), Lib.hid HM.out.2.1.symm⟩, by first | rfl | trivial⟩, by simp [intOf]⟩
    · obtain rfl : n = mx := hn.out.trans HM.out.2.1
      go_wp2_with (go_at_call 80; refine HY.out.mono ?_; rintro e w1 ⟨rfl, rfl⟩)
      exact ⟨⟨2, by omega, by go_num, ⟨max n my, by first | rfl | (simp; omega), Lib.hid HM.out.2.2.symm⟩, by first | rfl | trivial⟩, by simp [intOf]⟩
    · have HN := hn
      go_wp2_with fail
      go_ret
      have := HF.out w rfl
      rw [← HN.out] at this
      exact this
/-- the next stamp behind one, in an epoch: the stamp, the error -/
def nextW (last : Nat) (ep : Int) : Nat × Int :=
  if ep < 0 ∨ 2147483647 < ep then (0, 2)
  else if ep.toNat * 2147483648 + 1073741823 < max (ep.toNat * 2147483648 + 1) (last + 1) then (0, 40)
  else (max (ep.toNat * 2147483648 + 1) (last + 1), 0)
set_option maxRecDepth 100000 in
theorem next_any (x : Nat) (ep : Int) (w : World) (hx : x < 18446744073709551616) :
    Calls Tryz.prog 87 #[.int .u64 x, .int .i64 ep] w fun e w' => e = .returned (.tuple #[.int .u64 (nextW (mo x) ep).1, .int .i64 (nextW (mo x) ep).2]) ∧ w = w' := by
  by_cases h1 : ep < 0
  · have HP : Hid (nextW (mo x) ep = (0, 2)) := Lib.hid (by unfold nextW; rw [if_pos (.inl h1)])
    go_enter Tryz.func87, Tryz.ntmps87
    go_wp2
    go_ret2
    exact ⟨by rw [HP.out]; rfl, rfl⟩
  by_cases h2 : 2147483647 < ep
  · have HP : Hid (nextW (mo x) ep = (0, 2)) := Lib.hid (by unfold nextW; rw [if_pos (.inr h2)])
    go_enter Tryz.func87, Tryz.ntmps87
    go_wp2
    go_ret2
    exact ⟨by rw [HP.out]; rfl, rfl⟩
  obtain ⟨e, rfl⟩ : ∃ e : Nat, ep = e := ⟨ep.toNat, by omega⟩
  have hx1 := stamp_of x w hx
  obtain ⟨m, hm⟩ : ∃ m, m = mo x := ⟨_, rfl⟩
  have hm1 : m < 4611686018427387904 := by rw [hm]; exact mo_lt x
  rw [← hm] at hx1 ⊢
  obtain ⟨F, hF⟩ : ∃ F : Nat, (e : Int) * 2147483648 + 1 = (F : Int) := ⟨e * 2147483648 + 1, by simp⟩
  have hF1 : 1 ≤ F := by omega
  have hF2 : F ≤ 4611686018427387904 := by omega
  obtain ⟨R, hR⟩ : ∃ R, nextW m e = R := ⟨_, rfl⟩
  have hRR : R = if F + 1073741822 < max F (m + 1) then (0, 40) else (max F (m + 1), 0) := by
    rw [← hR]; unfold nextW
    rw [if_neg (by omega)]
    simp only [Int.toNat_natCast]
    rw [show e * 2147483648 + 1 = F by omega, show e * 2147483648 + 1073741823 = F + 1073741822 by omega]
  rw [hR]
  have HX := Lib.hid hx1
  have HRR := Lib.hid hRR
  clear hm hR hRR hx1 hx
  by_cases hlt : (F : Int) < (m : Int) + 1
  case neg =>
    have HP : Hid (R = (F, 0)) := Lib.hid (by rw [HRR.out, Nat.max_eq_left (by omega), if_neg (by omega)])
    go_enter Tryz.func87, Tryz.ntmps87
    go_wp2_with (go_at_call 80; refine HX.out.mono ?_; rintro e w1 ⟨rfl, rfl⟩)
    go_ret2
    exact ⟨by rw [HP.out]; rfl, rfl⟩
  by_cases hgt : (F : Int) - 1 + 1073741823 < (m : Int) + 1
  case pos =>
    have HP : Hid (R = (0, 40)) := Lib.hid (by rw [HRR.out, Nat.max_eq_right (by omega), if_pos (by omega)])
    go_enter Tryz.func87, Tryz.ntmps87
    go_wp2_with (go_at_call 80; refine HX.out.mono ?_; rintro e w1 ⟨rfl, rfl⟩)
    go_ret2
    exact ⟨by rw [HP.out]; rfl, rfl⟩
  case neg =>
    have HP : Hid (R = (m + 1, 0)) := Lib.hid (by rw [HRR.out, Nat.max_eq_right (by omega), if_neg (by omega)])
    go_enter Tryz.func87, Tryz.ntmps87
    go_wp2_with (go_at_call 80; refine HX.out.mono ?_; rintro e w1 ⟨rfl, rfl⟩)
    go_ret2
    exact ⟨by rw [HP.out]; rfl, rfl⟩
end Go.Proofs.YtkhkdedjffkhdaaGreat
