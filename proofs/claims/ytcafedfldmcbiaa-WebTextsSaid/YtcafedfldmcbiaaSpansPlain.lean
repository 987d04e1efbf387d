/- The bytes of values are ordered as the values are: plain facts. No program here beyond plain values. -/
import Derived.Test.YtcafedfldmcbiaaWb9
namespace Go.Proofs.Ytcafedfldmcbiaa
open Go.RowKit Go.Maps

theorem cmpB_cons_same (b : UInt8) (x y : List UInt8) : Lib.compareBytes (b :: x) (b :: y) = Lib.compareBytes x y := by
  conv => lhs; unfold Lib.compareBytes
  have : ¬ b < b := by rw [UInt8.lt_iff_toNat_lt]; omega
  rw [if_neg this, if_neg this]
theorem cmpB_app_same : ∀ (p x y : List UInt8), Lib.compareBytes (p ++ x) (p ++ y) = Lib.compareBytes x y
  | [], _, _ => rfl
  | b :: p, x, y => by rw [List.cons_append, List.cons_append, cmpB_cons_same, cmpB_app_same p]
theorem cmpB_lt {b c : UInt8} (h : b < c) (x y : List UInt8) : Lib.compareBytes (b :: x) (c :: y) = -1 := by
  unfold Lib.compareBytes; rw [if_pos h]
theorem cmpB_gt {b c : UInt8} (h : c < b) (x y : List UInt8) : Lib.compareBytes (b :: x) (c :: y) = 1 := by
  unfold Lib.compareBytes
  have : ¬ b < c := by rw [UInt8.lt_iff_toNat_lt] at *; omega
  rw [if_neg this, if_pos h]
theorem u8_ways (b c : UInt8) : b < c ∨ b = c ∨ c < b := by
  rcases Nat.lt_trichotomy b.toNat c.toNat with h | h | h
  · exact .inl (UInt8.lt_iff_toNat_lt.2 h)
  · exact .inr (.inl (UInt8.toNat_inj.1 h))
  · exact .inr (.inr (UInt8.lt_iff_toNat_lt.2 h))
theorem numL_acc : ∀ (l : List UInt8) (n : Nat), l.foldl (fun n b => n * 256 + b.toNat) n = n * 256 ^ l.length + numL l
  | [], n => by simp [numL]
  | b :: l, n => by
    unfold numL
    simp only [List.foldl_cons, List.length_cons]
    rw [numL_acc l, numL_acc l (0 * 256 + b.toNat), Nat.pow_succ]
    simp only [Nat.zero_mul, Nat.zero_add, Nat.add_mul]
    rw [Nat.mul_assoc, Nat.mul_comm 256, Nat.add_assoc]
theorem numL_cons (b : UInt8) (l : List UInt8) : numL (b :: l) = b.toNat * 256 ^ l.length + numL l := by
  have := numL_acc l b.toNat
  unfold numL
  simp only [List.foldl_cons, Nat.zero_mul, Nat.zero_add]
  exact this
theorem numL_bound : ∀ (l : List UInt8), numL l < 256 ^ l.length
  | [] => by simp [numL]
  | b :: l => by
    have ih := numL_bound l
    have hb := b.toNat_lt
    rw [numL_cons, List.length_cons, Nat.pow_succ]
    have : b.toNat * 256 ^ l.length ≤ 255 * 256 ^ l.length := Nat.mul_le_mul_right _ (by omega)
    omega
theorem mul_step {a b P : Nat} (h : a < b) : a * P + P ≤ b * P := by
  have : (a + 1) * P ≤ b * P := Nat.mul_le_mul_right _ h
  rw [Nat.add_mul] at this
  omega
/-- digits of one length are ordered as their numbers -/
theorem cmpB_num : ∀ (l m x y : List UInt8), l.length = m.length → numL l ≠ numL m → Lib.compareBytes (l ++ x) (m ++ y) = if numL l < numL m then -1 else 1
  | [], [], _, _, _, h => absurd rfl h
  | [], _ :: _, _, _, h, _ => by simp at h
  | _ :: _, [], _, _, h, _ => by simp at h
  | b :: l, c :: m, x, y, hl, hn => by
    have hl' : l.length = m.length := by simpa using hl
    have h1 := numL_bound l
    have h2 := numL_bound m
    rw [numL_cons, numL_cons, hl'] at hn ⊢
    rw [hl'] at h1
    rw [List.cons_append, List.cons_append]
    rcases u8_ways b c with h | h | h
    · rw [cmpB_lt h]
      have := mul_step (P := 256 ^ m.length) (UInt8.lt_iff_toNat_lt.1 h)
      rw [if_pos (by omega)]
    · subst h
      rw [cmpB_cons_same, cmpB_num l m x y hl' (by omega)]
      by_cases e : numL l < numL m
      · rw [if_pos e, if_pos (by omega)]
      · rw [if_neg e, if_neg (by omega)]
    · rw [cmpB_gt h]
      have := mul_step (P := 256 ^ m.length) (UInt8.lt_iff_toNat_lt.1 h)
      rw [if_neg (by omega)]
theorem numL_eight {u : Nat} (h : u < 18446744073709551616) : numL (eight u) = u := by
  simp [numL, eight]
  omega
theorem numL_five {n : Nat} (h : n < 1099511627776) : numL (fiveL n) = n := by
  simp [numL, fiveL]
  omega
theorem escL_cons (b : UInt8) (s : List UInt8) : escL (b :: s) = if b = 0 then 0 :: 255 :: escL s else b :: escL s := rfl
theorem zero_lt_u8 (d : UInt8) (hd : d ≠ 0) : (0 : UInt8) < d := by
  rw [UInt8.lt_iff_toNat_lt]
  have : d.toNat ≠ 0 := fun e => hd (UInt8.toNat_inj.1 e)
  show 0 < d.toNat
  omega
/-- escaped texts are ordered as the texts -/
theorem cmpB_esc : ∀ (s t x y : List UInt8), s ≠ t → Lib.compareBytes (escL s ++ ([0, 0] ++ x)) (escL t ++ ([0, 0] ++ y)) = Lib.compareBytes s t
  | [], [], _, _, h => absurd rfl h
  | [], c :: t, x, y, _ => by
    show Lib.compareBytes (0 :: 0 :: x) (escL (c :: t) ++ ([0, 0] ++ y)) = -1
    rw [escL_cons]
    by_cases hc : c = 0
    · rw [if_pos hc, List.cons_append, List.cons_append, cmpB_cons_same, cmpB_lt (zero_lt_u8 255 (by decide))]
    · rw [if_neg hc, List.cons_append, cmpB_lt (zero_lt_u8 c hc)]
  | b :: s, [], x, y, _ => by
    show Lib.compareBytes (escL (b :: s) ++ ([0, 0] ++ x)) (0 :: 0 :: y) = 1
    rw [escL_cons]
    by_cases hb : b = 0
    · rw [if_pos hb, List.cons_append, List.cons_append, cmpB_cons_same, cmpB_gt (zero_lt_u8 255 (by decide))]
    · rw [if_neg hb, List.cons_append, cmpB_gt (zero_lt_u8 b hb)]
  | b :: s, c :: t, x, y, hne => by
    rw [escL_cons, escL_cons]
    by_cases e : b = c
    · subst e
      have ih := cmpB_esc s t x y (fun e => hne (by rw [e]))
      by_cases hb : b = 0
      · rw [if_pos hb, if_pos hb]
        show Lib.compareBytes (0 :: 255 :: (escL s ++ ([0, 0] ++ x))) (0 :: 255 :: (escL t ++ ([0, 0] ++ y))) = _
        rw [cmpB_cons_same 0, cmpB_cons_same 255, cmpB_cons_same b s t, ih]
      · rw [if_neg hb, if_neg hb]
        show Lib.compareBytes (b :: (escL s ++ ([0, 0] ++ x))) (b :: (escL t ++ ([0, 0] ++ y))) = _
        rw [cmpB_cons_same b (escL s ++ ([0, 0] ++ x)), cmpB_cons_same b s t, ih]
    · by_cases hb : b = 0
      · subst hb
        rw [if_pos rfl, if_neg (Ne.symm e)]
        show Lib.compareBytes (0 :: (255 :: (escL s ++ ([0, 0] ++ x)))) (c :: (escL t ++ ([0, 0] ++ y))) = _
        rw [cmpB_lt (zero_lt_u8 c (Ne.symm e)), cmpB_lt (zero_lt_u8 c (Ne.symm e))]
      · by_cases hc : c = 0
        · subst hc
          rw [if_neg hb, if_pos rfl]
          show Lib.compareBytes (b :: (escL s ++ ([0, 0] ++ x))) (0 :: (255 :: (escL t ++ ([0, 0] ++ y)))) = _
          rw [cmpB_gt (zero_lt_u8 b hb), cmpB_gt (zero_lt_u8 b hb)]
        · rw [if_neg hb, if_neg hc]
          show Lib.compareBytes (b :: (escL s ++ ([0, 0] ++ x))) (c :: (escL t ++ ([0, 0] ++ y))) = _
          rcases u8_ways b c with h | h | h
          · rw [cmpB_lt h, cmpB_lt h]
          · exact absurd h e
          · rw [cmpB_gt h, cmpB_gt h]
theorem cmpB_zero : ∀ {a b : List UInt8}, Lib.compareBytes a b = 0 → a = b
  | [], [], _ => rfl
  | [], _ :: _, h => by simp [Lib.compareBytes] at h
  | _ :: _, [], h => by simp [Lib.compareBytes] at h
  | x :: a, y :: b, h => by
    rcases u8_ways x y with e | e | e
    · rw [cmpB_lt e] at h; cases h
    · subst e; rw [cmpB_cons_same] at h; rw [cmpB_zero h]
    · rw [cmpB_gt e] at h; cases h
theorem cmpB_neg : ∀ (a b : List UInt8), Lib.compareBytes b a = - Lib.compareBytes a b
  | [], [] => rfl
  | [], _ :: _ => rfl
  | _ :: _, [] => rfl
  | x :: a, y :: b => by
    rcases u8_ways x y with e | e | e
    · rw [cmpB_lt e, cmpB_gt e]; rfl
    · subst e; rw [cmpB_cons_same, cmpB_cons_same, cmpB_neg a b]
    · rw [cmpB_gt e, cmpB_lt e]
theorem cmpB_self (a : List UInt8) : Lib.compareBytes a a = 0 := by
  have := cmpB_app_same a [] []
  rw [List.append_nil] at this
  exact this
theorem Vl.cmp_neg (a b : Vl) : b.cmp a = - a.cmp b := by
  unfold Vl.cmp
  by_cases h1 : a.kind = b.kind
  · rw [if_pos h1, if_pos h1.symm]
    by_cases h2 : a.n = b.n
    · rw [if_pos h2, if_pos h2.symm]; exact cmpB_neg _ _
    · rw [if_neg h2, if_neg (Ne.symm h2)]
      by_cases h3 : a.n < b.n
      · rw [if_pos h3, if_neg (by omega)]; rfl
      · rw [if_neg h3, if_pos (by omega)]
  · rw [if_neg h1, if_neg (Ne.symm h1)]
    by_cases h3 : a.kind < b.kind
    · rw [if_pos h3, if_neg (by omega)]; rfl
    · rw [if_neg h3, if_pos (by omega)]
theorem Vl.cmp_zero {a b : Vl} (h : a.cmp b = 0) : a = b := by
  unfold Vl.cmp at h
  by_cases h1 : a.kind = b.kind
  · rw [if_pos h1] at h
    by_cases h2 : a.n = b.n
    · rw [if_pos h2] at h
      have := cmpB_zero h
      cases a; cases b
      simp only at h1 h2 this
      subst h1 h2
      congr 1
      apply ByteArray.ext
      apply Array.ext'
      exact this
    · rw [if_neg h2] at h
      split at h <;> cases h
  · rw [if_neg h1] at h
    split at h <;> cases h
theorem Vl.cmp_self (a : Vl) : a.cmp a = 0 := by unfold Vl.cmp; rw [if_pos rfl, if_pos rfl, cmpB_self]
theorem isN_kind {v : Vl} (h : v.isN = true) : v.kind = 1 ∧ v.s = ⟨#[]⟩ := by
  unfold Vl.isN at h
  simp at h
  refine ⟨h.1, ?_⟩
  have := h.2
  apply ByteArray.ext
  apply Array.ext'
  rw [ByteArray.toList_eq] at this
  simpa using this
theorem isT_kind {v : Vl} (h : v.isT = true) : v.kind = 2 ∧ v.n = 0 := by
  unfold Vl.isT at h
  simp at h
  exact h.1
/-- unlike right values: their bytes are ordered as they are, whatever follows -/
theorem bytes_order (a b : Vl) (ha : a.Ok) (hb : b.Ok) (ra : a.right = true) (rb : b.right = true) (hne : a ≠ b) (x y : List UInt8) : Lib.compareBytes (a.bytes ++ x) (b.bytes ++ y) = a.cmp b := by
  have h12 : (1 : UInt8) < 2 := by decide
  unfold Vl.bytes Vl.cmp
  cases na : a.isN
  · have ta : a.isT = true := by unfold Vl.right at ra; rw [na] at ra; simpa using ra
    obtain ⟨ka, n0⟩ := isT_kind ta
    cases nb : b.isN
    · have tb : b.isT = true := by unfold Vl.right at rb; rw [nb] at rb; simpa using rb
      obtain ⟨kb, m0⟩ := isT_kind tb
      simp only [Bool.false_eq_true, if_false, List.cons_append, List.append_assoc]
      rw [if_pos (by rw [ka, kb]), if_pos (by rw [n0, m0]), cmpB_cons_same]
      refine cmpB_esc _ _ x y (fun e => hne ?_)
      cases a; cases b
      simp only at ka kb n0 m0 e
      subst ka kb n0 m0
      congr 1
      apply ByteArray.ext
      apply Array.ext'
      exact e
    · obtain ⟨kb, _⟩ := isN_kind nb
      simp only [Bool.false_eq_true, if_false, if_true, List.cons_append]
      rw [if_neg (by omega), if_neg (by omega), cmpB_gt h12]
  · obtain ⟨ka, s0⟩ := isN_kind na
    cases nb : b.isN
    · have tb : b.isT = true := by unfold Vl.right at rb; rw [nb] at rb; simpa using rb
      obtain ⟨kb, m0⟩ := isT_kind tb
      simp only [Bool.false_eq_true, if_false, if_true, List.cons_append]
      rw [if_neg (by omega), if_pos (by omega), cmpB_lt h12]
    · obtain ⟨kb, t0⟩ := isN_kind nb
      have hn : a.n ≠ b.n := fun e => hne (by cases a; cases b; simp only at ka kb s0 t0 e; subst ka kb s0 t0 e; rfl)
      simp only [if_true, List.cons_append]
      rw [if_pos (by rw [ka, kb]), if_neg hn, cmpB_cons_same]
      have i1 := ha.n
      have i2 := hb.n
      unfold I64 at i1 i2
      unfold numBytes
      have e1 := numL_eight (u := (a.n + 9223372036854775808).toNat) (by omega)
      have e2 := numL_eight (u := (b.n + 9223372036854775808).toNat) (by omega)
      rw [cmpB_num (eight (a.n + 9223372036854775808).toNat) (eight (b.n + 9223372036854775808).toNat) x y rfl (by rw [e1, e2]; omega), e1, e2]
      by_cases h : a.n < b.n
      · rw [if_pos h, if_pos (by omega)]
      · rw [if_neg h, if_neg (by omega)]
/-- an entry lies in a span just if its value does -/
theorem span_law (v lo hi : Vl) (n : Nat) (hv : v.Ok) (hl : lo.Ok) (hh : hi.Ok) (rv : v.right = true) (rl : lo.right = true) (rh : hi.right = true) (hn : n < 1099511627776) :
    (Lib.compareBytes lo.bytes (v.bytes ++ fiveL n) ≤ 0 ↔ 0 ≤ v.cmp lo) ∧ (Lib.compareBytes (v.bytes ++ fiveL n) (hi.bytes ++ [255, 255, 255, 255, 255, 0]) < 0 ↔ v.cmp hi ≤ 0) := by
  constructor
  · by_cases e : lo = v
    · subst e
      rw [Vl.cmp_self]
      have := cmpB_app_same lo.bytes [] (fiveL n)
      rw [List.append_nil] at this
      rw [this]
      simp [Lib.compareBytes, fiveL]
    · have h := bytes_order lo v hl hv rl rv e [] (fiveL n)
      rw [List.append_nil] at h
      rw [h, Vl.cmp_neg lo v]
      omega
  · by_cases e : v = hi
    · subst e
      rw [cmpB_app_same, Vl.cmp_self]
      have : Lib.compareBytes (fiveL n) [255, 255, 255, 255, 255, 0] = -1 := by
        have e1 := numL_five hn
        by_cases hc : n = 1099511627775
        · subst hc; decide
        · have h := cmpB_num (fiveL n) [255, 255, 255, 255, 255] [] [0] rfl (by rw [e1]; intro h; exact hc (h.trans (by decide)))
          rw [List.append_nil] at h
          refine h.trans ?_
          rw [e1, if_pos (by show n < 1099511627775; omega)]
      rw [this]
      simp
    · rw [bytes_order v hi hv hh rv rh e]
      have hz : v.cmp hi ≠ 0 := fun h => e (Vl.cmp_zero h)
      omega
end Go.Proofs.Ytcafedfldmcbiaa
