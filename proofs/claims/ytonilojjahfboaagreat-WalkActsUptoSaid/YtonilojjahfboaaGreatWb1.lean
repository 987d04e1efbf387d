/- Package letter: letters and names. Conditions: each contract's own premises. -/
import Derived.Test.YtonilojjahfboaaGreatWb0
namespace Go.Proofs.YtonilojjahfboaaGreat
open Go.RowKit Go.Maps

/-- is a rune a letter? -/
def letterB (r : Int) : Bool := decide (97 ≤ r ∧ r ≤ 122 ∨ 65 ≤ r ∧ r ≤ 90 ∨ r = 95 ∨ 192 ≤ r ∧ r ≤ 591 ∧ r ≠ 215 ∧ r ≠ 247)
theorem letter_ways (r : Int) : r < 65 ∨ 65 ≤ r ∧ r ≤ 90 ∨ 91 ≤ r ∧ r < 95 ∨ r = 95 ∨ r = 96 ∨ 97 ≤ r ∧ r ≤ 122 ∨ 123 ≤ r ∧ r < 192 ∨ 192 ≤ r ∧ r < 215 ∨ r = 215 ∨ 216 ≤ r ∧ r < 247 ∨ r = 247 ∨ 248 ≤ r ∧ r ≤ 591 ∨ 591 < r := by omega
set_option maxHeartbeats 2000000 in
theorem letter_any (r : Int) (w : World) : Calls Tryz.prog 314 #[.int .i32 r] w fun e w' => e = .returned (.bool (letterB r)) ∧ w = w' := by
  rcases letter_ways r with h | h | h | h | h | h | h | h | h | h | h | h | h
  all_goals
    have e1 : (r == 95) = decide (r = 95) := by rw [Bool.eq_iff_iff]; simp
    have e2 : (r != 215) = !decide (r = 215) := by rw [Bool.eq_iff_iff]; simp
    have e3 : (r != 247) = !decide (r = 247) := by rw [Bool.eq_iff_iff]; simp
    first | rw [decide_eq_true (show r = 95 by omega)] at e1 | rw [decide_eq_false (show ¬ r = 95 by omega)] at e1
    first | rw [decide_eq_true (show r = 215 by omega)] at e2 | rw [decide_eq_false (show ¬ r = 215 by omega)] at e2
    first | rw [decide_eq_true (show r = 247 by omega)] at e3 | rw [decide_eq_false (show ¬ r = 247 by omega)] at e3
    simp only [Bool.not_true, Bool.not_false] at e2 e3
    have HL := Lib.hid h
    try (obtain ⟨h1, h2⟩ := h)
    go_enter Tryz.func314, Tryz.ntmps314
    go_wp2
    go_ret
    exact ⟨ret_bool (by have h' := HL.out; unfold letterB; rw [Bool.eq_iff_iff]; simp only [Bool.or_eq_true, decide_eq_true_eq, Bool.false_eq_true, true_iff, false_iff]; first | omega | decide), rfl⟩

/-- the runes of a text from a place on -/
def runesAt (s : ByteArray) : Nat → Nat → List Int
  | 0, _ => []
  | f + 1, p => if p < s.size then ((Utf8.decode s p).1 : Int) :: runesAt s f (p + (Utf8.decode s p).2) else []
def runes (s : ByteArray) : List Int := runesAt s s.size 0
theorem decode_pos (s : ByteArray) (p : Nat) (h : p < s.size) : 1 ≤ (Utf8.decode s p).2 := by
  by_cases ha : (s[p]'h).toNat < 128
  · rw [decode_ascii s p h ha]; exact Nat.le_refl _
  · exact (decode_high s p h (by omega)).2
theorem runesAt_fuel (s : ByteArray) : ∀ (f f' p : Nat), s.size - p ≤ f → s.size - p ≤ f' → runesAt s f p = runesAt s f' p
  | 0, 0, _, _, _ => rfl
  | 0, f' + 1, p, h, _ => by unfold runesAt; rw [if_neg (by omega)]
  | f + 1, 0, p, _, h => by unfold runesAt; rw [if_neg (by omega)]
  | f + 1, f' + 1, p, h, h' => by
    unfold runesAt
    by_cases hp : p < s.size
    · have := decode_pos s p hp
      rw [if_pos hp, if_pos hp, runesAt_fuel s f f' _ (by omega) (by omega)]
    · rw [if_neg hp, if_neg hp]
/-- what is left of a text's runes at a place -/
def runesFrom (s : ByteArray) (p : Nat) : List Int := runesAt s (s.size - p) p
theorem runesFrom_end {s : ByteArray} {p : Nat} (h : ¬ p < s.size) : runesFrom s p = [] := by
  unfold runesFrom
  rw [show s.size - p = 0 by omega]; rfl
theorem runesFrom_step {s : ByteArray} {p : Nat} (h : p < s.size) : runesFrom s p = ((Utf8.decode s p).1 : Int) :: runesFrom s (p + (Utf8.decode s p).2) := by
  have := decode_pos s p h
  unfold runesFrom
  rw [show s.size - p = (s.size - p - 1) + 1 by omega]
  conv => lhs; unfold runesAt
  rw [if_pos h, runesAt_fuel s _ (s.size - (p + (Utf8.decode s p).2)) _ (by omega) (by omega)]
theorem runes_from (s : ByteArray) : runes s = runesFrom s 0 := by unfold runes runesFrom; rw [Nat.sub_zero]
theorem runesFrom_len (s : ByteArray) : ∀ (n p : Nat), s.size - p ≤ n → (runesFrom s p).length ≤ s.size - p
  | 0, p, h => by rw [runesFrom_end (by omega)]; simp
  | n + 1, p, h => by
    by_cases hp : p < s.size
    · have := decode_pos s p hp
      rw [runesFrom_step hp]
      have := runesFrom_len s n (p + (Utf8.decode s p).2) (by omega)
      simp; omega
    · rw [runesFrom_end hp]; simp

/-- a text isn't a name: n of its runes were good, these are left -/
def badFrom : Nat → List Int → Bool
  | n, [] => n == 0 || decide (32 < n)
  | n, r :: t => if (!letterB r && (n == 0 || decide (r < 48) || decide (57 < r))) = true then true else badFrom (n + 1) t

set_option maxHeartbeats 1000000 in
theorem wrong_any (s : ByteArray) (w : World) (hs : s.size ≤ maxLen) : Calls Tryz.prog 228 #[.string s] w fun e w' => e = .returned (.bool (badFrom 0 (runes s))) ∧ Below w.heap.size w w' := by
  unfold maxLen at hs
  have hnx := fun p (h : p < s.size) ty => run_next_any (P := Tryz.prog) w s p ty h
  have hne := fun p (h : ¬ p < s.size) ty => run_next_end (P := Tryz.prog) w s p ty h
  have HNX := Lib.hid hnx
  have HNE := Lib.hid hne
  clear hnx hne
  rw [runes_from]
  go_enter Tryz.func228, Tryz.ntmps228
  go_wp2_with fail
  go_loopw [3] (fun n wr => ∃ k p : Nat, k ≤ p ∧ n = .int .i64 k ∧ Hid (badFrom 0 (runesFrom s 0) = badFrom k (runesFrom s p)) ∧ wr = w.iter s p) (fun _ wr => s.size - wr.iterPos w.heap.size)
  case atStart => exact ⟨0, 0, Nat.le_refl _, rfl, Lib.hid rfl, rfl⟩
  case round =>
    obtain ⟨k, p, hk, rfl, HB, rfl⟩ := hrel
    by_cases hlt : p < s.size
    · have nx := HNX.out p hlt
      have hw1 := decode_pos s p hlt
      have hst := runesFrom_step hlt
      rw [hst] at HB
      clear hst
      obtain ⟨rw_, hrw⟩ : ∃ v, Utf8.decode s p = v := ⟨_, rfl⟩
      rw [hrw] at nx HB hw1
      obtain ⟨r, wd⟩ := rw_
      dsimp only at nx HB hw1
      clear hrw
      have go : ∀ c, (!letterB r && (k == 0 || decide ((r : Int) < 48) || decide (57 < (r : Int)))) = c → badFrom k ((r : Int) :: runesFrom s (p + wd)) = if c = true then true else badFrom (k + 1) (runesFrom s (p + wd)) := fun c hc => by rw [← hc]; rfl
      have GO := Lib.hid go
      clear go
      have fin : ∀ q, Below w.heap.size w (w.iter s q) := fun q => below_iter (Below.refl _ _) (Nat.le_refl _) s q
      have FIN := Lib.hid fin
      clear fin
      cases hl : letterB r
      · by_cases h0 : k = 0
        · subst h0
          have HL := Lib.hid (GO.out true (by simp [hl]))
          go_wp2_with (go_at_call 314; refine (letter_any _ _).mono ?_; rintro e w' ⟨rfl, rfl⟩)
          go_ret
          exact ⟨ret_bool (by rw [HB.out, HL.out]; rfl), FIN.out _⟩
        · have k0 : ((k : Int) == 0) = false := by simpa using h0
          by_cases h1 : r < 48
          · have HL := Lib.hid (GO.out true (by simp [hl]; omega))
            clear h0
            go_wp2_with (go_at_call 314; refine (letter_any _ _).mono ?_; rintro e w' ⟨rfl, rfl⟩)
            go_ret
            exact ⟨ret_bool (by rw [HB.out, HL.out]; rfl), FIN.out _⟩
          · by_cases h2 : 57 < r
            · have HL := Lib.hid (GO.out true (by simp [hl]; omega))
              clear h0
              go_wp2_with (go_at_call 314; refine (letter_any _ _).mono ?_; rintro e w' ⟨rfl, rfl⟩)
              go_ret
              exact ⟨ret_bool (by rw [HB.out, HL.out]; rfl), FIN.out _⟩
            · have HL := Lib.hid (GO.out false (by simp [h0]; omega))
              clear h0
              go_wp2_with (go_at_call 314; refine (letter_any _ _).mono ?_; rintro e w' ⟨rfl, rfl⟩)
              exact ⟨⟨k + 1, p + wd, by omega, by go_num, Lib.hid (by rw [HB.out, HL.out]; rfl), rfl⟩, by simp; omega⟩
      · have HL := Lib.hid (GO.out false (by simp [hl]))
        go_wp2_with (go_at_call 314; refine (letter_any _ _).mono ?_; rintro e w' ⟨rfl, rfl⟩)
        exact ⟨⟨k + 1, p + wd, by omega, by go_num, Lib.hid (by rw [HB.out, HL.out]; rfl), rfl⟩, by simp; omega⟩
    · have ne := HNE.out p hlt
      rw [runesFrom_end hlt] at HB
      have fin : ∀ q, Below w.heap.size w (w.iter s q) := fun q => below_iter (Below.refl _ _) (Nat.le_refl _) s q
      have FIN := Lib.hid fin
      clear fin
      by_cases h0 : k = 0
      · subst h0
        go_wp2_with fail
        go_ret
        exact ⟨ret_bool (by rw [HB.out]; rfl), FIN.out _⟩
      · have k0 : ((k : Int) == 0) = false := by simpa using h0
        go_wp2_with fail
        go_ret
        exact ⟨ret_bool (by rw [HB.out]; unfold badFrom; rw [Bool.eq_iff_iff]; simp; omega), FIN.out _⟩
end Go.Proofs.YtonilojjahfboaaGreat
