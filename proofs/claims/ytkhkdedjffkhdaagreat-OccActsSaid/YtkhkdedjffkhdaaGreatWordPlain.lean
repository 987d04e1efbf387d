/- The words of package word in plain numbers: what &, | and &^ with the two flags do. Conditions: each lemma's own premises. -/
import Derived.Laws.BitsAllLaws
namespace Go.Proofs.YtkhkdedjffkhdaaGreat
open Go

/-- a word: a stamp, is it locked, is it absent -/
def wd (st : Nat) (lk ab : Bool) : Nat := 4611686018427387904 * (ab.toNat + 2 * lk.toNat) + st

theorem wd_lt {st : Nat} {lk ab : Bool} (h : st < 4611686018427387904) : wd st lk ab < 18446744073709551616 := by
  unfold wd; cases lk <;> cases ab <;> simp <;> omega

theorem wd_or (st c : Nat) (h : st < 4611686018427387904) : 4611686018427387904 * c + st = 4611686018427387904 * c ||| st :=
  Nat.two_pow_add_eq_or_of_lt (i := 62) h c

theorem bits_stamp (n : Nat) (h : n < 18446744073709551616) : bits .andNot .u64 (n : Int) 13835058055282163712 = ((n % 4611686018427387904 : Nat) : Int) := by
  have := u64_andNot_nat n 13835058055282163712 h (by decide)
  rw [show ((13835058055282163712 : Nat) : Int) = 13835058055282163712 from rfl] at this
  rw [this, show (18446744073709551615 - 13835058055282163712 : Nat) = 2 ^ 62 - 1 from rfl, Nat.and_two_pow_sub_one_eq_mod]
theorem wd_unlock {st : Nat} {lk ab : Bool} (h : st < 4611686018427387904) : bits .andNot .u64 (wd st lk ab : Int) 9223372036854775808 = (wd st false ab : Int) := by
  have := u64_andNot_nat (wd st lk ab) 9223372036854775808 (wd_lt h) (by decide)
  rw [show ((9223372036854775808 : Nat) : Int) = 9223372036854775808 from rfl] at this
  rw [this, show (18446744073709551615 - 9223372036854775808 : Nat) = 2 ^ 63 - 1 from rfl, Nat.and_two_pow_sub_one_eq_mod]
  unfold wd; cases lk <;> cases ab <;> simp <;> omega
theorem wd_lock {st : Nat} {lk ab : Bool} (h : st < 4611686018427387904) : bits .or .u64 (wd st lk ab : Int) 9223372036854775808 = (wd st true ab : Int) := by
  have := u64_or_nat (wd st lk ab) 9223372036854775808 (wd_lt h) (by decide)
  rw [show ((9223372036854775808 : Nat) : Int) = 9223372036854775808 from rfl] at this
  rw [this]
  unfold wd
  rw [wd_or _ _ h, wd_or _ _ h, Nat.or_assoc, Nat.or_comm st, ← Nat.or_assoc]
  cases lk <;> cases ab <;> rfl
theorem wd_absent {st : Nat} {lk ab : Bool} (h : st < 4611686018427387904) : bits .or .u64 (wd st lk ab : Int) 4611686018427387904 = (wd st lk true : Int) := by
  have := u64_or_nat (wd st lk ab) 4611686018427387904 (wd_lt h) (by decide)
  rw [show ((4611686018427387904 : Nat) : Int) = 4611686018427387904 from rfl] at this
  rw [this]
  unfold wd
  rw [wd_or _ _ h, wd_or _ _ h, Nat.or_assoc, Nat.or_comm st, ← Nat.or_assoc]
  cases lk <;> cases ab <;> rfl
theorem and_63 {st : Nat} (h : st < 4611686018427387904) : st &&& 9223372036854775808 = 0 := by
  apply Nat.eq_of_testBit_eq
  intro i
  rw [Nat.testBit_and, show (9223372036854775808 : Nat) = 2 ^ 63 from rfl, Nat.testBit_two_pow]
  by_cases e : 63 = i
  · subst e; rw [Nat.testBit_lt_two_pow (by omega)]; simp
  · simp [e]
theorem wd_present {st : Nat} {lk ab : Bool} (h : st < 4611686018427387904) : bits .andNot .u64 (wd st lk ab : Int) 4611686018427387904 = (wd st lk false : Int) := by
  have := u64_andNot_nat (wd st lk ab) 4611686018427387904 (wd_lt h) (by decide)
  rw [show ((4611686018427387904 : Nat) : Int) = 4611686018427387904 from rfl] at this
  rw [this]
  unfold wd
  rw [wd_or _ _ h, wd_or _ _ h, Nat.and_or_distrib_right]
  have e1 : st &&& (18446744073709551615 - 4611686018427387904) = st := by
    rw [show (18446744073709551615 - 4611686018427387904 : Nat) = 9223372036854775808 ||| (2 ^ 62 - 1) from rfl, Nat.and_or_distrib_left, Nat.and_two_pow_sub_one_eq_mod, Nat.mod_eq_of_lt h]
    rw [and_63 h]
    simp
  rw [e1]
  cases lk <;> cases ab <;> rfl
theorem wd_locked {st : Nat} {lk ab : Bool} (h : st < 4611686018427387904) : bits .and .u64 (wd st lk ab : Int) 9223372036854775808 = if lk then 9223372036854775808 else 0 := by
  have := u64_and_nat (wd st lk ab) 9223372036854775808 (wd_lt h) (by decide)
  rw [show ((9223372036854775808 : Nat) : Int) = 9223372036854775808 from rfl] at this
  rw [this]
  unfold wd
  rw [wd_or _ _ h, Nat.and_or_distrib_right, and_63 h]
  cases lk <;> cases ab <;> rfl
theorem wd_inj {st st' : Nat} {lk lk' ab ab' : Bool} (h : st < 4611686018427387904) (h' : st' < 4611686018427387904) (e : wd st lk ab = wd st' lk' ab') : st = st' ∧ lk = lk' ∧ ab = ab' := by
  unfold wd at e
  cases lk <;> cases lk' <;> cases ab <;> cases ab' <;> simp at e ⊢ <;> omega
end Go.Proofs.YtkhkdedjffkhdaaGreat
