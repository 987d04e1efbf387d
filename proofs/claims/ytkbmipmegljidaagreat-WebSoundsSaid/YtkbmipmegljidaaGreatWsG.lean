/- Sorting, in plain words: orders of places, rotations, merges. Conditions: each lemma's own premises. Sorting stably, leaving some out, one of each key: in plain words. Conditions: each lemma's own premises. -/
namespace Go.Proofs.YtkbmipmegljidaaGreat.Srt

/-- by key, equals by place -/
def lx (key : Nat → Nat) (i j : Nat) : Prop := key i < key j ∨ (key i = key j ∧ i < j)
theorem lx.trans {key : Nat → Nat} {i j k : Nat} (h : lx key i j) (h2 : lx key j k) : lx key i k := by unfold lx at *; omega
theorem lx.irrefl {key : Nat → Nat} {i : Nat} : ¬ lx key i i := by unfold lx; omega
theorem lx.of_le {key : Nat → Nat} {i j : Nat} (h : key i ≤ key j) (h2 : i < j) : lx key i j := by unfold lx; omega
theorem lx.of_lt {key : Nat → Nat} {i j : Nat} (h : key i < key j) : lx key i j := by unfold lx; omega

variable {key : Nat → Nat}
/-- from a up to b, rising -/
def Srt (key : Nat → Nat) (s : Nat → Nat) (a b : Nat) : Prop := ∀ i j, a ≤ i → i < j → j < b → lx key (s i) (s j)
/-- what was from a up to b is there still, in another order; nothing else has moved -/
def Into (t s : Nat → Nat) (a b : Nat) : Prop := (∀ i, a ≤ i → i < b → ∃ j, a ≤ j ∧ j < b ∧ t i = s j) ∧ (∀ i, (i < a ∨ b ≤ i) → t i = s i)
theorem Into.refl (s : Nat → Nat) (a b : Nat) : Into s s a b := ⟨fun i h1 h2 => ⟨i, h1, h2, rfl⟩, fun _ _ => rfl⟩
theorem Into.trans {r t s : Nat → Nat} {a b : Nat} (h : Into r t a b) (h2 : Into t s a b) : Into r s a b :=
  ⟨fun i h3 h4 => by
    obtain ⟨j, h5, h6, e⟩ := h.1 i h3 h4
    obtain ⟨k, h7, h8, e2⟩ := h2.1 j h5 h6
    exact ⟨k, h7, h8, e.trans e2⟩, fun i hi => (h.2 i hi).trans (h2.2 i hi)⟩
theorem Into.mono {t s : Nat → Nat} {a b a' b' : Nat} (h : Into t s a b) (h1 : a' ≤ a) (h2 : b ≤ b') : Into t s a' b' :=
  ⟨fun i h3 h4 => by
    by_cases hi : a ≤ i ∧ i < b
    · obtain ⟨j, h5, h6, e⟩ := h.1 i hi.1 hi.2
      exact ⟨j, by omega, by omega, e⟩
    · exact ⟨i, h3, h4, h.2 i (by omega)⟩, fun i hi => h.2 i (by omega)⟩

def swap2 (s : Nat → Nat) (x y : Nat) : Nat → Nat := fun k => if k = x then s y else if k = y then s x else s k
theorem swap2_x (s : Nat → Nat) (x y : Nat) : swap2 s x y x = s y := by simp [swap2]
theorem swap2_y (s : Nat → Nat) (x y : Nat) : swap2 s x y y = s x := by unfold swap2; split <;> simp_all
theorem swap2_o (s : Nat → Nat) (x y : Nat) {k : Nat} (h1 : k ≠ x) (h2 : k ≠ y) : swap2 s x y k = s k := by simp [swap2, h1, h2]
theorem swap2_into (s : Nat → Nat) {x y a b : Nat} (h1 : a ≤ x) (h2 : x < b) (h3 : a ≤ y) (h4 : y < b) : Into (swap2 s x y) s a b :=
  ⟨fun i h5 h6 => by
    by_cases hx : i = x
    · subst hx; exact ⟨y, h3, h4, swap2_x s i y⟩
    · by_cases hy : i = y
      · subst hy; exact ⟨x, h1, h2, swap2_y s x i⟩
      · exact ⟨i, h5, h6, swap2_o s x y hx hy⟩, fun i hi => swap2_o s x y (by omega) (by omega)⟩

/-- blocks of n at x and at y change places -/
def swI (x y n k : Nat) : Nat := if x ≤ k ∧ k < x + n then k - x + y else if y ≤ k ∧ k < y + n then k - y + x else k
/-- the parts from a up to m and from m up to b change places -/
def rotI (a m b k : Nat) : Nat := if k < a ∨ b ≤ k then k else if k < a + (b - m) then k + (m - a) else k - (b - m)

theorem swI_zero (x y k : Nat) : swI x y 0 k = k := by unfold swI; split <;> (try split) <;> omega
theorem swI_succ (s : Nat → Nat) (x y n : Nat) (hxy : x + n < y) : swap2 (fun k => s (swI x y n k)) (x + n) (y + n) = fun k => s (swI x y (n + 1) k) := by
  funext k
  by_cases h1 : k = x + n
  · subst h1
    rw [swap2_x]
    show s (swI x y n (y + n)) = s (swI x y (n + 1) (x + n))
    congr 1; unfold swI; (repeat' split) <;> omega
  · by_cases h2 : k = y + n
    · subst h2
      rw [swap2_y]
      show s (swI x y n (x + n)) = s (swI x y (n + 1) (y + n))
      congr 1; unfold swI; (repeat' split) <;> omega
    · rw [swap2_o _ _ _ h1 h2]
      show s (swI x y n k) = s (swI x y (n + 1) k)
      congr 1; unfold swI; (repeat' split) <;> omega
theorem rot_more (i j m k : Nat) (hi : i ≤ m) (hj : j < i) : swI (m - i) m j (rotI (m - (i - j)) m (m + j) k) = rotI (m - i) m (m + j) k := by
  unfold rotI swI; (repeat' split) <;> omega
theorem rot_less (i j m k : Nat) (hi : i ≤ m) (hj : i < j) : swI (m - i) (m + j - i) i (rotI (m - i) m (m + (j - i)) k) = rotI (m - i) m (m + j) k := by
  unfold rotI swI; (repeat' split) <;> omega
theorem rot_last (i m k : Nat) (hi : i ≤ m) : swI (m - i) m i k = rotI (m - i) m (m + i) k := by
  unfold rotI swI; (repeat' split) <;> omega
theorem rot_into (s : Nat → Nat) {a m b : Nat} (h1 : a ≤ m) (h2 : m ≤ b) : Into (fun k => s (rotI a m b k)) s a b :=
  ⟨fun i h3 h4 => by
    refine ⟨rotI a m b i, ?_, ?_, rfl⟩ <;> (unfold rotI; rw [if_neg (by omega)]; split <;> omega),
   fun i hi => by show s (rotI a m b i) = s i; unfold rotI; rw [if_pos (by omega)]⟩
theorem rotI_left {a m b k : Nat} (h1 : a ≤ k) (h2 : k < a + (b - m)) (h3 : a ≤ m) (h4 : m ≤ b) : rotI a m b k = k + (m - a) := by
  unfold rotI; rw [if_neg (by omega), if_pos h2]
theorem rotI_right {a m b k : Nat} (h1 : a + (b - m) ≤ k) (h2 : k < b) : rotI a m b k = k - (b - m) := by
  unfold rotI; rw [if_neg (by omega), if_neg (by omega)]
theorem rotI_out {a m b k : Nat} (h : k < a ∨ b ≤ k) : rotI a m b k = k := by unfold rotI; rw [if_pos h]
theorem rotI_none {a b k : Nat} : rotI a a b k = k := by unfold rotI; split <;> (try split) <;> omega
theorem rotI_none' {a m k : Nat} (h : a ≤ m) : rotI a m m k = k := by unfold rotI; split <;> (try split) <;> omega
/-- the first one moves right, one place at a time -/
theorem rot_right (s : Nat → Nat) (a k : Nat) (h : a ≤ k) : swap2 (fun x => s (rotI a (a + 1) (k + 1) x)) k (k + 1) = fun x => s (rotI a (a + 1) (k + 2) x) := by
  funext x
  by_cases h1 : x = k
  · subst h1
    rw [swap2_x]
    show s (rotI a (a + 1) (x + 1) (x + 1)) = s (rotI a (a + 1) (x + 2) x)
    congr 1; unfold rotI; (repeat' split) <;> omega
  · by_cases h2 : x = k + 1
    · subst h2
      rw [swap2_y]
      show s (rotI a (a + 1) (k + 1) k) = s (rotI a (a + 1) (k + 2) (k + 1))
      congr 1; unfold rotI; (repeat' split) <;> omega
    · rw [swap2_o _ _ _ h1 h2]
      show s (rotI a (a + 1) (k + 1) x) = s (rotI a (a + 1) (k + 2) x)
      congr 1; unfold rotI; (repeat' split) <;> omega
/-- the last one moves left, one place at a time -/
theorem rot_left (s : Nat → Nat) (m k : Nat) (h : k + 1 ≤ m) : swap2 (fun x => s (rotI (k + 1) m (m + 1) x)) (k + 1) k = fun x => s (rotI k m (m + 1) x) := by
  funext x
  by_cases h1 : x = k + 1
  · subst h1
    rw [swap2_x]
    show s (rotI (k + 1) m (m + 1) k) = s (rotI k m (m + 1) (k + 1))
    congr 1; unfold rotI; (repeat' split) <;> omega
  · by_cases h2 : x = k
    · subst h2
      rw [swap2_y]
      show s (rotI (x + 1) m (m + 1) (x + 1)) = s (rotI x m (m + 1) x)
      congr 1; unfold rotI; (repeat' split) <;> omega
    · rw [swap2_o _ _ _ h1 h2]
      show s (rotI (k + 1) m (m + 1) x) = s (rotI k m (m + 1) x)
      congr 1; unfold rotI; (repeat' split) <;> omega

theorem Srt.mono {s : Nat → Nat} {a b a' b' : Nat} (h : Srt key s a b) (h1 : a ≤ a') (h2 : b' ≤ b) : Srt key s a' b' := fun i j h3 h4 h5 => h i j (by omega) h4 (by omega)
theorem Srt.congr {s t : Nat → Nat} {a b : Nat} (h : Srt key s a b) (h1 : ∀ i, a ≤ i → i < b → t i = s i) : Srt key t a b := fun i j h3 h4 h5 => by
  rw [h1 i h3 (by omega), h1 j (by omega) h5]; exact h i j h3 h4 h5
theorem Srt.key_le {s : Nat → Nat} {a b i j : Nat} (h : Srt key s a b) (h1 : a ≤ i) (h2 : i ≤ j) (h3 : j < b) : key (s i) ≤ key (s j) := by
  by_cases e : i = j
  · subst e; exact Nat.le_refl _
  · have := h i j h1 (by omega) h3; unfold lx at this; omega
theorem Srt.short {s : Nat → Nat} {a b : Nat} (h : b ≤ a + 1) : Srt key s a b := fun i j h1 h2 h3 => absurd h2 (by omega)

/-- the insertion sort, in its rounds -/
structure InsI (key : Nat → Nat) (t s : Nat → Nat) (a i j : Nat) : Prop where
  lo : a ≤ j
  hi : j ≤ i
  into : Into t s a (i + 1)
  rest : ∀ p q, a ≤ p → p < q → q ≤ i → p ≠ j → q ≠ j → lx key (t p) (t q)
  up : ∀ q, j < q → q ≤ i → lx key (t j) (t q)
  idx : ∀ p, a ≤ p → p ≤ i → p ≠ j → t p < t j
def InsO (key : Nat → Nat) (t s : Nat → Nat) (a i : Nat) : Prop := Into t s a i ∧ Srt key t a i
theorem InsO.start (s : Nat → Nat) (a : Nat) : InsO key s s a (a + 1) := ⟨Into.refl _ _ _, Srt.short (Nat.le_refl _)⟩
theorem InsO.first {t s : Nat → Nat} {a b i : Nat} (h : InsO key t s a i) (ha : a ≤ i) (hi : i < b) (hs : ∀ p q, a ≤ p → p < q → q < b → s p < s q) : InsI key t s a i i :=
  ⟨ha, Nat.le_refl _, h.1.mono (Nat.le_refl _) (by omega), fun p q h1 h2 h3 _ h4 => h.2 p q h1 h2 (by omega), fun q h1 h2 => absurd h1 (by omega), fun p h1 h2 h3 => by
    obtain ⟨p', h4, h5, e⟩ := h.1.1 p h1 (by omega)
    rw [e, h.1.2 i (by omega)]
    exact hs p' i h4 h5 hi⟩
theorem InsI.step {t s : Nat → Nat} {a i k : Nat} (h : InsI key t s a i (k + 1)) (hk : a ≤ k) (hlt : key (t (k + 1)) < key (t k)) : InsI key (swap2 t (k + 1) k) s a i k := by
  have hi := h.hi
  refine ⟨hk, by omega, (swap2_into t (by omega) (by omega) hk (by omega)).trans h.into, fun p q h1 h2 h3 h4 h5 => ?_, fun q h1 h2 => ?_, fun p h1 h2 h3 => ?_⟩
  · by_cases e : q = k + 1
    · subst e
      rw [swap2_x, swap2_o t _ _ (by omega) h4]
      exact h.rest p k h1 (by omega) (by omega) (by omega) (by omega)
    · by_cases e2 : p = k + 1
      · subst e2
        rw [swap2_x, swap2_o t _ _ e h5]
        exact h.rest k q hk (by omega) h3 (by omega) e
      · rw [swap2_o t _ _ e2 h4, swap2_o t _ _ e h5]
        exact h.rest p q h1 h2 h3 e2 e
  · rw [swap2_y]
    by_cases e : q = k + 1
    · subst e; rw [swap2_x]; exact .of_lt hlt
    · rw [swap2_o t _ _ e (by omega)]; exact h.up q (by omega) h2
  · rw [swap2_y]
    by_cases e : p = k + 1
    · subst e; rw [swap2_x]; exact h.idx k hk (by omega) (by omega)
    · rw [swap2_o t _ _ e h3]; exact h.idx p h1 h2 e
theorem InsI.done {t s : Nat → Nat} {a i j : Nat} (h : InsI key t s a i j) (hst : j = a ∨ ¬ key (t j) < key (t (j - 1))) : InsO key t s a (i + 1) :=
  ⟨h.into, fun p q h1 h2 h3 => by
    have hlo := h.lo
    have hhi := h.hi
    by_cases e : p = j
    · subst e; exact h.up q h2 (by omega)
    · by_cases e2 : q = j
      · subst e2
        have hq : lx key (t (q - 1)) (t q) := .of_le (by omega) (h.idx (q - 1) (by omega) (by omega) (by omega))
        by_cases e3 : p = q - 1
        · subst e3; exact hq
        · exact (h.rest p (q - 1) h1 (by omega) (by omega) e (by omega)).trans hq
      · exact h.rest p q h1 h2 (by omega) e e2⟩
theorem InsO.done {t s : Nat → Nat} {a b i : Nat} (h : InsO key t s a i) (hab : a ≤ b) (h1 : b ≤ i) (h2 : i ≤ a + 1 ∨ i ≤ b) (h3 : i ≤ a + 1 → t = s) : Into t s a b ∧ Srt key t a b := by
  refine ⟨?_, h.2.mono (Nat.le_refl _) h1⟩
  rcases h2 with h2 | h2
  · rw [h3 h2]; exact Into.refl _ _ _
  · obtain rfl : i = b := by omega
    exact h.1

/-- the left part is one -/
theorem merge_first {s : Nat → Nat} {a b i : Nat} (hs : Srt key s (a + 1) b) (hx : ∀ j, a + 1 ≤ j → j < b → s a < s j) (h1 : a + 1 ≤ i) (h2 : i ≤ b) (hl : ∀ h, a + 1 ≤ h → h < i → key (s h) < key (s a)) (hr : ∀ h, i ≤ h → h < b → ¬ key (s h) < key (s a)) :
    Srt key (fun k => s (rotI a (a + 1) i k)) a b := fun p q h3 h4 h5 => by
  show lx key (s (rotI a (a + 1) i p)) (s (rotI a (a + 1) i q))
  by_cases c1 : q < i - 1
  · rw [rotI_left (by omega) (by omega) (by omega) h1, rotI_left (by omega) (by omega) (by omega) h1]
    exact hs _ _ (by omega) (by omega) (by omega)
  · by_cases c2 : q < i
    · rw [rotI_left (k := p) (by omega) (by omega) (by omega) h1, rotI_right (by omega) c2, show q - (i - (a + 1)) = a by omega]
      exact .of_lt (hl _ (by omega) (by omega))
    · rw [rotI_out (k := q) (by omega)]
      by_cases c3 : p < i - 1
      · rw [rotI_left (by omega) (by omega) (by omega) h1]
        exact hs _ _ (by omega) (by omega) (by omega)
      · by_cases c4 : p < i
        · rw [rotI_right (by omega) c4, show p - (i - (a + 1)) = a by omega]
          exact .of_le (by have := hr q (by omega) h5; omega) (hx q (by omega) h5)
        · rw [rotI_out (by omega)]
          exact hs _ _ (by omega) (by omega) (by omega)
/-- the right part is one -/
theorem merge_last {s : Nat → Nat} {a m i : Nat} (hs : Srt key s a m) (hx : ∀ j, a ≤ j → j < m → s j < s m) (h1 : a ≤ i) (h2 : i ≤ m) (hl : ∀ h, a ≤ h → h < i → ¬ key (s m) < key (s h)) (hr : ∀ h, i ≤ h → h < m → key (s m) < key (s h)) :
    Srt key (fun k => s (rotI i m (m + 1) k)) a (m + 1) := fun p q h3 h4 h5 => by
  show lx key (s (rotI i m (m + 1) p)) (s (rotI i m (m + 1) q))
  by_cases c1 : q < i
  · rw [rotI_out (by omega), rotI_out (by omega)]
    exact hs _ _ (by omega) (by omega) (by omega)
  · by_cases c2 : q = i
    · rw [rotI_out (k := p) (by omega), rotI_left (k := q) (by omega) (by omega) (by omega) (by omega), show q + (m - i) = m by omega]
      exact .of_le (by have := hl p (by omega) (by omega); omega) (hx p (by omega) (by omega))
    · rw [rotI_right (k := q) (by omega) (by omega)]
      by_cases c3 : p < i
      · rw [rotI_out (k := p) (by omega)]
        exact hs _ _ (by omega) (by omega) (by omega)
      · by_cases c4 : p = i
        · rw [rotI_left (k := p) (by omega) (by omega) (by omega) (by omega), show p + (m - i) = m by omega]
          exact .of_lt (hr _ (by omega) (by omega))
        · rw [rotI_right (k := p) (by omega) (by omega)]
          exact hs _ _ (by omega) (by omega) (by omega)

/-- what a merge wants -/
structure Pre (key : Nat → Nat) (s : Nat → Nat) (a m b : Nat) : Prop where
  am : a < m
  mb : m < b
  left : Srt key s a m
  right : Srt key s m b
  cross : ∀ i j, a ≤ i → i < m → m ≤ j → j < b → s i < s j
/-- the search for where to turn: n = mid + m -/
structure Sea (key : Nat → Nat) (s : Nat → Nat) (n lo hi start r : Nat) : Prop where
  h1 : lo ≤ start
  h2 : start ≤ r
  h3 : r ≤ hi
  below : ∀ c, lo ≤ c → c < start → ¬ key (s (n - 1 - c)) < key (s c)
  above : ∀ c, r ≤ c → c < hi → key (s (n - 1 - c)) < key (s c)
theorem Sea.step_up {s : Nat → Nat} {a m b n lo hi start r c : Nat} (h : Sea key s n lo hi start r) (P : Pre key s a m b) (ha : a ≤ lo) (hm : hi ≤ m) (hn : n ≤ lo + b) (hn2 : m + hi ≤ n) (c1 : start ≤ c) (c2 : c < r) (hc : ¬ key (s (n - 1 - c)) < key (s c)) : Sea key s n lo hi (c + 1) r := by
  have g1 := h.h1
  have g3 := h.h3
  refine ⟨by omega, by omega, h.h3, fun x x1 x2 => ?_, h.above⟩
  have k1 := P.left.key_le (i := x) (j := c) (by omega) (by omega) (by omega)
  have k2 := P.right.key_le (i := n - 1 - c) (j := n - 1 - x) (by omega) (by omega) (by omega)
  omega
theorem Sea.step_down {s : Nat → Nat} {a m b n lo hi start r c : Nat} (h : Sea key s n lo hi start r) (P : Pre key s a m b) (ha : a ≤ lo) (hm : hi ≤ m) (hn : n ≤ lo + b) (hn2 : m + hi ≤ n) (c1 : start ≤ c) (c2 : c < r) (hc : key (s (n - 1 - c)) < key (s c)) : Sea key s n lo hi start c := by
  have g1 := h.h1
  have g3 := h.h3
  refine ⟨h.h1, c1, by omega, h.below, fun x x1 x2 => ?_⟩
  have k1 := P.left.key_le (i := c) (j := x) (by omega) (by omega) (by omega)
  have k2 := P.right.key_le (i := n - 1 - x) (j := n - 1 - c) (by omega) (by omega) (by omega)
  omega
/-- behind the turn: two merges, each for itself -/
structure Halves (key : Nat → Nat) (t s : Nat → Nat) (a start mid en b : Nat) : Prop where
  into : Into t s a b
  cross : ∀ i j, a ≤ i → i < mid → mid ≤ j → j < b → lx key (t i) (t j)
  l1 : a < start → start < mid → Pre key t a start mid
  l0 : ¬ (a < start ∧ start < mid) → Srt key t a mid
  r1 : mid < en → en < b → Pre key t mid en b
  r0 : ¬ (mid < en ∧ en < b) → Srt key t mid b
theorem Sea.halves {s : Nat → Nat} {a m b mid lo hi x en : Nat} (h : Sea key s (mid + m) lo hi x x) (P : Pre key s a m b) (ha : a ≤ lo) (hmid : a < mid) (hmid2 : mid < b) (hm : hi ≤ m) (hmi : hi ≤ mid)
    (hlo : lo = a ∨ mid + m = lo + b) (hlb : mid + m ≤ lo + b) (hhi : hi = mid ∨ hi = m) (he : en + x = mid + m) : Halves key (fun k => s (rotI x m en k)) s a x mid en b := by
  have g1 := h.h1
  have g3 := h.h3
  have v1 : ∀ k, k < x → rotI x m en k = k := fun k hk => rotI_out (.inl hk)
  have v2 : ∀ k, x ≤ k → k < mid → rotI x m en k = k + (m - x) := fun k h1 h2 => rotI_left h1 (by omega) (by omega) (by omega)
  have v3 : ∀ k, mid ≤ k → k < en → rotI x m en k = k - (en - m) := fun k h1 h2 => rotI_right (by omega) h2
  have v4 : ∀ k, en ≤ k → rotI x m en k = k := fun k hk => rotI_out (.inr hk)
  have S1 : Srt key (fun k => s (rotI x m en k)) a x := fun i j h1 h2 h3 => by
    show lx key (s (rotI x m en i)) (s (rotI x m en j)); rw [v1 i (by omega), v1 j h3]; exact P.left _ _ h1 h2 (by omega)
  have S2 : Srt key (fun k => s (rotI x m en k)) x mid := fun i j h1 h2 h3 => by
    show lx key (s (rotI x m en i)) (s (rotI x m en j)); rw [v2 i h1 (by omega), v2 j (by omega) h3]; exact P.right _ _ (by omega) (by omega) (by omega)
  have S3 : Srt key (fun k => s (rotI x m en k)) mid en := fun i j h1 h2 h3 => by
    show lx key (s (rotI x m en i)) (s (rotI x m en j)); rw [v3 i h1 (by omega), v3 j (by omega) h3]; exact P.left _ _ (by omega) (by omega) (by omega)
  have S4 : Srt key (fun k => s (rotI x m en k)) en b := fun i j h1 h2 h3 => by
    show lx key (s (rotI x m en i)) (s (rotI x m en j)); rw [v4 i h1, v4 j (by omega)]; exact P.right _ _ (by omega) (by omega) (by omega)
  have am := P.am
  have mb := P.mb
  refine ⟨(rot_into s (by omega) (by omega)).mono (by omega) (by omega), fun i j h1 h2 h3 h4 => ?_, fun h1 h2 => ⟨h1, h2, S1, S2, fun i j h3 h4 h5 h6 => ?_⟩, fun hn => ?_, fun h1 h2 => ⟨h1, h2, S3, S4, fun i j h3 h4 h5 h6 => ?_⟩, fun hn => ?_⟩
  · show lx key (s (rotI x m en i)) (s (rotI x m en j))
    by_cases ci : i < x
    · rw [v1 i ci]
      by_cases cj : j < en
      · rw [v3 j h3 cj]; exact P.left _ _ h1 (by omega) (by omega)
      · rw [v4 j (by omega)]
        -- the last of the first part, against the first that has stayed
        have hb := h.below (x - 1) (by omega) (by omega)
        rw [show mid + m - 1 - (x - 1) = en by omega] at hb
        have k1 := P.left.key_le (i := i) (j := x - 1) h1 (by omega) (by omega)
        have k2 := P.right.key_le (i := en) (j := j) (by omega) (by omega) h4
        exact .of_le (by omega) (P.cross _ _ h1 (by omega) (by omega) h4)
    · rw [v2 i (by omega) h2]
      by_cases cj : j < en
      · rw [v3 j h3 cj]
        have hb := h.above x (by omega) (by omega)
        have k1 := P.right.key_le (i := i + (m - x)) (j := mid + m - 1 - x) (by omega) (by omega) (by omega)
        have k2 := P.left.key_le (i := x) (j := j - (en - m)) (by omega) (by omega) (by omega)
        exact .of_lt (by omega)
      · rw [v4 j (by omega)]; exact P.right _ _ (by omega) (by omega) h4
  · show s (rotI x m en i) < s (rotI x m en j)
    rw [v1 i h4, v2 j h5 h6]; exact P.cross _ _ h3 (by omega) (by omega) (by omega)
  · by_cases hx : x ≤ a
    · exact S2.mono hx (Nat.le_refl _)
    · exact S1.mono (Nat.le_refl _) (by omega)
  · show s (rotI x m en i) < s (rotI x m en j)
    rw [v3 i h3 h4, v4 j h5]; exact P.cross _ _ (by omega) (by omega) (by omega) h6
  · by_cases hx : b ≤ en
    · exact S3.mono (Nat.le_refl _) hx
    · exact S4.mono (by omega) (Nat.le_refl _)
/-- both merged: one -/
theorem Halves.join {t s u v : Nat → Nat} {a start mid en b : Nat} (h : Halves key t s a start mid en b) (ha : a ≤ mid) (hb : mid ≤ b) (h1 : Into u t a mid) (s1 : Srt key u a mid) (h2 : Into v u mid b) (s2 : Srt key v mid b) : Into v s a b ∧ Srt key v a b := by
  refine ⟨(h2.mono ha (Nat.le_refl _)).trans ((h1.mono (Nat.le_refl _) hb).trans h.into), fun i j g1 g2 g3 => ?_⟩
  by_cases ci : i < mid
  · by_cases cj : j < mid
    · rw [h2.2 i (.inl ci), h2.2 j (.inl cj)]; exact s1 i j g1 g2 cj
    · obtain ⟨i', q1, q2, e1⟩ := h1.1 i g1 ci
      obtain ⟨j', q3, q4, e2⟩ := h2.1 j (by omega) g3
      rw [h2.2 i (.inl ci), e1, e2, h1.2 j' (.inr q3)]
      exact h.cross _ _ q1 q2 q3 q4
  · exact s2 i j (by omega) g2 g3
theorem Halves.r1' {t s u : Nat → Nat} {a start mid en b : Nat} (h : Halves key t s a start mid en b) (h1 : Into u t a mid) : (mid < en → en < b → Pre key u mid en b) ∧ (¬ (mid < en ∧ en < b) → Srt key u mid b) := by
  refine ⟨fun g1 g2 => ?_, fun g => (h.r0 g).congr fun i q1 q2 => h1.2 i (.inr q1)⟩
  have P := h.r1 g1 g2
  exact ⟨P.am, P.mb, P.left.congr fun i q1 q2 => h1.2 i (.inr q1), P.right.congr fun i q1 q2 => h1.2 i (.inr (by omega)), fun i j q1 q2 q3 q4 => by rw [h1.2 i (.inr q1), h1.2 j (.inr (by omega))]; exact P.cross i j q1 q2 q3 q4⟩

/-- blocks of d from lo up to hi, each sorted -/
def Blocks (key : Nat → Nat) (s : Nat → Nat) (d lo hi : Nat) : Prop := ∀ c, d ∣ c → lo ≤ c → c < hi → Srt key s c (min (c + d) hi)
/-- nothing has come over a bound of blocks of d, from lo on -/
def CutP (s : Nat → Nat) (d lo : Nat) : Prop := ∀ c i, d ∣ c → lo ≤ c → (i < c → s i < c) ∧ (c ≤ i → c ≤ s i)
theorem dvd_next {d a c : Nat} (ha : d ∣ a) (hc : d ∣ c) (h : a < c) : a + d ≤ c := by
  obtain ⟨x, rfl⟩ := ha
  obtain ⟨y, rfl⟩ := hc
  have h1 : x < y := Nat.lt_of_mul_lt_mul_left h
  have : d * (x + 1) ≤ d * y := Nat.mul_le_mul_left d h1
  rw [Nat.mul_add, Nat.mul_one] at this
  exact this
theorem CutP.into {t s : Nat → Nat} {d lo a b : Nat} (h : CutP s d lo) (hI : Into t s a b) (hab : ∀ c, d ∣ c → lo ≤ c → c ≤ a ∨ b ≤ c) : CutP t d lo := fun c i hc hl => by
  by_cases hi : a ≤ i ∧ i < b
  · obtain ⟨j, j1, j2, e⟩ := hI.1 i hi.1 hi.2
    rw [e]
    have h1 := hab c hc hl
    exact ⟨fun g => (h c j hc hl).1 (by omega), fun g => (h c j hc hl).2 (by omega)⟩
  · rw [hI.2 i (by omega)]; exact h c i hc hl
theorem CutP.mono {s : Nat → Nat} {d lo lo' : Nat} (h : CutP s d lo) (h1 : lo ≤ lo') : CutP s d lo' := fun c i hc hl => h c i hc (by omega)
theorem CutP.twice {s : Nat → Nat} {d lo : Nat} (h : CutP s d lo) : CutP s (2 * d) lo := fun c i hc hl => h c i (Nat.dvd_trans ⟨2, Nat.mul_comm 2 d⟩ hc) hl
theorem CutP.id (d : Nat) : CutP (fun i => i) d 0 := fun _ _ _ _ => ⟨fun h => h, fun h => h⟩

/-- the first loop: single blocks -/
structure Lev0 (key : Nat → Nat) (s : Nat → Nat) (d a n : Nat) : Prop where
  dv : d ∣ a
  le : a ≤ n
  done : Blocks key s d 0 a
  rest : ∀ i, a ≤ i → s i = i
  cut : CutP s d 0
  all : Into s (fun i => i) 0 n
theorem Lev0.start (key : Nat → Nat) (d n : Nat) : Lev0 key (fun i => i) d 0 n := ⟨⟨0, by simp⟩, by omega, fun c _ _ h => absurd h (by omega), fun _ _ => rfl, CutP.id d, Into.refl _ _ _⟩
theorem Lev0.next {s t : Nat → Nat} {d a n : Nat} (h : Lev0 key s d a n) (hd : 0 < d) (hn : a + d ≤ n) (hI : Into t s a (a + d)) (hS : Srt key t a (a + d)) : Lev0 key t d (a + d) n :=
  ⟨Nat.dvd_add h.dv ⟨1, by simp⟩, hn, fun c h1 h2 h3 => by
    by_cases hc : c < a
    · have := dvd_next h1 h.dv hc
      refine ((h.done c h1 h2 hc).mono (Nat.le_refl _) (by omega)).congr fun i q1 q2 => hI.2 i (by omega)
    · by_cases e : c = a
      · subst e; exact hS.mono (Nat.le_refl _) (by omega)
      · have := dvd_next h.dv h1 (by omega); omega,
   fun i hi => (hI.2 i (.inr hi)).trans (h.rest i (by omega)),
   h.cut.into hI fun c hc _ => by
     by_cases g : c ≤ a
     · exact .inl g
     · exact .inr (dvd_next h.dv hc (by omega)),
   (hI.mono (Nat.zero_le _) hn).trans h.all⟩
/-- a level's whole -/
structure Lev (key : Nat → Nat) (s : Nat → Nat) (d n : Nat) : Prop where
  done : Blocks key s d 0 n
  cut : CutP s d 0
  all : Into s (fun i => i) 0 n
theorem Lev0.last {s t : Nat → Nat} {d a n : Nat} (h : Lev0 key s d a n) (hn : n < a + d) (hI : Into t s a n) (hS : Srt key t a n) : Lev key t d n :=
  ⟨fun c h1 h2 h3 => by
    by_cases hc : c < a
    · have := dvd_next h1 h.dv hc
      have hl := h.le
      refine ((h.done c h1 h2 hc).mono (Nat.le_refl _) (by omega)).congr fun i q1 q2 => hI.2 i (by omega)
    · by_cases e : c = a
      · subst e; exact hS.mono (Nat.le_refl _) (by omega)
      · have := dvd_next h.dv h1 (by omega); omega,
   h.cut.into hI fun c hc _ => by
     by_cases g : c ≤ a
     · exact .inl g
     · have := dvd_next h.dv hc (by omega); exact .inr (by omega),
   (hI.mono (Nat.zero_le _) (Nat.le_refl _)).trans h.all⟩
/-- between two levels: below a it is done -/
structure LevI (key : Nat → Nat) (s : Nat → Nat) (d a n : Nat) : Prop where
  dv : 2 * d ∣ a
  le : a ≤ n
  done : Blocks key s (2 * d) 0 a
  rest : Blocks key s d a n
  cut : CutP s d a
  cut2 : CutP s (2 * d) 0
  all : Into s (fun i => i) 0 n
theorem Lev.start {s : Nat → Nat} {d n : Nat} (h : Lev key s d n) : LevI key s d 0 n :=
  ⟨⟨0, by simp⟩, Nat.zero_le _, fun c _ _ h => absurd h (by omega), h.done, h.cut, h.cut.twice, h.all⟩
theorem LevI.pre {s : Nat → Nat} {d a n b : Nat} (h : LevI key s d a n) (_ : 0 < d) (hb : a + d < b) (hb2 : b ≤ a + 2 * d) (hbn : b ≤ n) : Pre key s a (a + d) b := by
  have da : d ∣ a := Nat.dvd_trans ⟨2, Nat.mul_comm 2 d⟩ h.dv
  have da2 : d ∣ a + d := Nat.dvd_add da ⟨1, by simp⟩
  refine ⟨by omega, hb, (h.rest a da (Nat.le_refl _) (by omega)).mono (Nat.le_refl _) (by omega), (h.rest (a + d) da2 (by omega) (by omega)).mono (Nat.le_refl _) (by omega), fun i j h1 h2 h3 h4 => ?_⟩
  have g1 := (h.cut (a + d) i da2 (by omega)).1 h2
  have g2 := (h.cut (a + d) j da2 (by omega)).2 h3
  omega
theorem LevI.next {s t : Nat → Nat} {d a n : Nat} (h : LevI key s d a n) (hn : a + 2 * d ≤ n) (hI : Into t s a (a + 2 * d)) (hS : Srt key t a (a + 2 * d)) : LevI key t d (a + 2 * d) n := by
  have da : d ∣ a := Nat.dvd_trans ⟨2, Nat.mul_comm 2 d⟩ h.dv
  refine ⟨Nat.dvd_add h.dv ⟨1, by simp⟩, hn, fun c h1 h2 h3 => ?_, fun c h1 h2 h3 => ?_, ?_, ?_, (hI.mono (Nat.zero_le _) hn).trans h.all⟩
  · by_cases hc : c < a
    · have := dvd_next h1 h.dv hc
      exact ((h.done c h1 h2 hc).mono (Nat.le_refl _) (by omega)).congr fun i q1 q2 => hI.2 i (by omega)
    · by_cases e : c = a
      · subst e; exact hS.mono (Nat.le_refl _) (by omega)
      · have := dvd_next h.dv h1 (by omega); omega
  · exact (h.rest c h1 (by omega) h3).congr fun i q1 q2 => hI.2 i (by omega)
  · exact (h.cut.mono (by omega)).into hI fun c hc g => .inr g
  · exact h.cut2.into hI fun c hc _ => by
      by_cases g : c ≤ a
      · exact .inl g
      · exact .inr (dvd_next h.dv hc (by omega))
theorem LevI.last {s t : Nat → Nat} {d a n : Nat} (h : LevI key s d a n) (hn : n < a + 2 * d) (hI : Into t s a n) (hS : Srt key t a n) : Lev key t (2 * d) n :=
  ⟨fun c h1 h2 h3 => by
    by_cases hc : c < a
    · have := dvd_next h1 h.dv hc
      have hl := h.le
      exact ((h.done c h1 h2 hc).mono (Nat.le_refl _) (by omega)).congr fun i q1 q2 => hI.2 i (by omega)
    · by_cases e : c = a
      · subst e; exact hS.mono (Nat.le_refl _) (by omega)
      · have := dvd_next h.dv h1 (by omega); omega,
   h.cut2.into hI fun c hc _ => by
     by_cases g : c ≤ a
     · exact .inl g
     · have := dvd_next h.dv hc (by omega); exact .inr (by omega),
   (hI.mono (Nat.zero_le _) (Nat.le_refl _)).trans h.all⟩
theorem LevI.single {s : Nat → Nat} {d a n : Nat} (h : LevI key s d a n) (hn : n ≤ a + d) : Srt key s a n := by
  by_cases e : a < n
  · exact (h.rest a (Nat.dvd_trans ⟨2, Nat.mul_comm 2 d⟩ h.dv) (Nat.le_refl _) e).mono (Nat.le_refl _) (by omega)
  · exact Srt.short (by omega)
theorem Lev.sorted {s : Nat → Nat} {d n : Nat} (h : Lev key s d n) (hn : n ≤ d) : Srt key s 0 n := by
  by_cases e : 0 < n
  · exact (h.done 0 ⟨0, by simp⟩ (Nat.le_refl _) e).mono (Nat.le_refl _) (by omega)
  · exact Srt.short (by omega)

/-! The list that comes of it. -/
theorem sorted_eq {r : Nat → Nat → Prop} (ht : ∀ a b c, r a b → r b c → r a c) (hi : ∀ a, ¬ r a a) : ∀ (T S : List Nat), S.Pairwise r → T.Pairwise r → (∀ x ∈ S, x ∈ T) → S.length ≤ T.length ∧ (T.length ≤ S.length → S = T)
  | [], S, _, _, h => by
    cases S with
    | nil => simp
    | cons x S => exact absurd (h x (by simp)) (by simp)
  | t :: T, [], _, _, _ => by simp
  | t :: T, x :: S, hS, hT, h => by
    rw [List.pairwise_cons] at hS hT
    by_cases e : x = t
    · subst e
      have h2 : ∀ y ∈ S, y ∈ T := fun y hy => by
        rcases List.mem_cons.1 (h y (by simp [hy])) with e | e
        · subst e; exact absurd (hS.1 y hy) (hi _)
        · exact e
      have := sorted_eq ht hi T S hS.2 hT.2 h2
      simp only [List.length_cons]
      exact ⟨by omega, fun g => by rw [this.2 (by omega)]⟩
    · have hx : x ∈ T := by
        rcases List.mem_cons.1 (h x (by simp)) with e' | e'
        · exact absurd e' e
        · exact e'
      have h2 : ∀ y ∈ x :: S, y ∈ T := fun y hy => by
        rcases List.mem_cons.1 hy with rfl | hy'
        · exact hx
        · rcases List.mem_cons.1 (h y hy) with e' | e'
          · subst e'; exact absurd (ht _ _ _ (hT.1 x hx) (hS.1 y hy')) (hi _)
          · exact e'
      have := sorted_eq ht hi T (x :: S) (List.pairwise_cons.2 hS) hT.2 h2
      simp only [List.length_cons] at this ⊢
      exact ⟨by omega, fun g => by omega⟩
/-- into a list by rising keys, behind its equals -/
def putK {α : Type} (key : α → Nat) (l : List α) (x : α) : List α := l.takeWhile (fun y => decide (key y ≤ key x)) ++ x :: l.dropWhile (fun y => decide (key y ≤ key x))
def sortK {α : Type} (key : α → Nat) (l : List α) : List α := l.foldl (putK key) []
theorem putK_map {α β : Type} (f : α → β) (key : β → Nat) (l : List α) (x : α) : putK key (l.map f) (f x) = (putK (fun a => key (f a)) l x).map f := by
  unfold putK
  rw [List.map_append, List.map_cons, List.takeWhile_map, List.dropWhile_map]
  rfl
theorem sortK_map {α β : Type} (f : α → β) (key : β → Nat) (l : List α) : sortK key (l.map f) = (sortK (fun a => key (f a)) l).map f := by
  unfold sortK
  have : ∀ (l : List α) (m : List α), (l.map f).foldl (putK key) (m.map f) = (l.foldl (putK (fun a => key (f a))) m).map f := by
    intro l
    induction l with
    | nil => intro m; rfl
    | cons x l ih => intro m; rw [List.map_cons, List.foldl_cons, List.foldl_cons, putK_map, ih]
  exact this l []
theorem putK_perm {α : Type} (key : α → Nat) (l : List α) (x : α) : (putK key l x).Perm (x :: l) := by
  unfold putK
  have h : (l.takeWhile (fun y => decide (key y ≤ key x)) ++ l.dropWhile (fun y => decide (key y ≤ key x))) = l := List.takeWhile_append_dropWhile
  refine List.perm_middle.trans ?_
  rw [h]
theorem putK_sorted {key : Nat → Nat} {l : List Nat} {x : Nat} (h : l.Pairwise (lx key)) (hx : ∀ y ∈ l, y < x) : (putK key l x).Pairwise (lx key) := by
  have hs := h
  rw [← List.takeWhile_append_dropWhile (p := fun y => decide (key y ≤ key x)) (l := l), List.pairwise_append] at hs
  obtain ⟨h1, h2, h3⟩ := hs
  have hT : ∀ y ∈ l.takeWhile (fun y => decide (key y ≤ key x)), lx key y x := fun y hy => by
    have hp := List.all_takeWhile (p := fun y => decide (key y ≤ key x)) (l := l)
    rw [List.all_eq_true] at hp
    exact .of_le (by simpa using hp y hy) (hx y ((List.takeWhile_sublist _).subset hy))
  have hD : ∀ y ∈ l.dropWhile (fun y => decide (key y ≤ key x)), lx key x y := by
    cases hd : l.dropWhile (fun y => decide (key y ≤ key x)) with
    | nil => intro y hy; simp at hy
    | cons z D =>
      have hz : ¬ key z ≤ key x := by
        have := List.head?_dropWhile_not (p := fun y => decide (key y ≤ key x)) (l := l)
        rw [hd] at this
        simpa using this
      have hzx : lx key x z := .of_lt (by omega)
      rw [hd, List.pairwise_cons] at h2
      intro y hy
      rcases List.mem_cons.1 hy with rfl | hy
      · exact hzx
      · exact hzx.trans (h2.1 y hy)
  unfold putK
  rw [List.pairwise_append]
  refine ⟨h1, List.pairwise_cons.2 ⟨hD, h2⟩, fun a ha b hb => ?_⟩
  rcases List.mem_cons.1 hb with rfl | hb
  · exact hT a ha
  · exact h3 a ha b hb
theorem sortK_range (key : Nat → Nat) (n : Nat) : (sortK key (List.range n)).Pairwise (lx key) ∧ (sortK key (List.range n)).Perm (List.range n) := by
  induction n with
  | zero => simp [sortK]
  | succ n ih =>
    obtain ⟨h1, h2⟩ := ih
    unfold sortK at *
    rw [List.range_succ, List.foldl_append, List.foldl_cons, List.foldl_nil]
    refine ⟨putK_sorted h1 fun y hy => ?_, (putK_perm _ _ _).trans ((h2.cons n).trans ?_)⟩
    · simpa using h2.subset hy
    · exact (List.perm_append_comm (l₁ := [n]) (l₂ := List.range n))
theorem srt_list {key s : Nat → Nat} {n : Nat} (h : Srt key s 0 n) (hI : Into s (fun i => i) 0 n) : (List.range n).map s = sortK key (List.range n) := by
  obtain ⟨h1, h2⟩ := sortK_range key n
  refine (sorted_eq (r := lx key) (fun _ _ _ => lx.trans) (fun _ => lx.irrefl) _ _ ?_ h1 fun x hx => ?_).2 ?_
  · rw [List.pairwise_map]
    refine List.Pairwise.imp_of_mem (fun {i j} hi hj hij => h i j (Nat.zero_le _) hij (by simpa using hj)) List.pairwise_lt_range
  · obtain ⟨i, hi, rfl⟩ := List.mem_map.1 hx
    obtain ⟨j, _, hj, e⟩ := hI.1 i (Nat.zero_le _) (by simpa using hi)
    rw [e]
    exact h2.symm.subset (by simpa using hj)
  · rw [h2.length_eq]; simp
/-- what lies there at last is what is put, one by one -/
theorem srt_sortK {α : Type} [Inhabited α] (kf : α → Nat) (L : List α) {s : Nat → Nat} (h : Srt (fun i => kf L[i]!) s 0 L.length) (hI : Into s (fun i => i) 0 L.length) : (List.range L.length).map (fun i => L[s i]!) = sortK kf L := by
  have e : (List.range L.length).map (fun i => L[i]!) = L := by
    refine List.ext_getElem (by simp) fun i h1 h2 => ?_
    simp [h2]
  have := congrArg (List.map fun i => L[i]!) (srt_list h hI)
  rw [List.map_map] at this
  refine this.trans ?_
  rw [← sortK_map (fun i => L[i]!) kf, e]
end Go.Proofs.YtkbmipmegljidaaGreat.Srt
namespace Go.Proofs.YtkbmipmegljidaaGreat.Srt
variable {α : Type} (key : α → Nat)

/-- by rising keys -/
def Asc (l : List α) : Prop := l.Pairwise (fun a b => key a ≤ key b)
theorem putK_asc {l : List α} (h : Asc key l) (x : α) : Asc key (putK key l x) := by
  have hs := h
  unfold Asc at hs
  rw [← List.takeWhile_append_dropWhile (p := fun y => decide (key y ≤ key x)) (l := l), List.pairwise_append] at hs
  obtain ⟨h1, h2, h3⟩ := hs
  have hT : ∀ y ∈ l.takeWhile (fun y => decide (key y ≤ key x)), key y ≤ key x := fun y hy => by
    have hp := List.all_takeWhile (p := fun y => decide (key y ≤ key x)) (l := l)
    rw [List.all_eq_true] at hp
    simpa using hp y hy
  have hD : ∀ y ∈ l.dropWhile (fun y => decide (key y ≤ key x)), key x ≤ key y := by
    cases hd : l.dropWhile (fun y => decide (key y ≤ key x)) with
    | nil => intro y hy; simp at hy
    | cons z D =>
      have hz : ¬ key z ≤ key x := by
        have := List.head?_dropWhile_not (p := fun y => decide (key y ≤ key x)) (l := l)
        rw [hd] at this
        simpa using this
      rw [hd, List.pairwise_cons] at h2
      intro y hy
      rcases List.mem_cons.1 hy with rfl | hy
      · omega
      · have := h2.1 y hy; omega
  unfold Asc putK
  rw [List.pairwise_append]
  refine ⟨h1, List.pairwise_cons.2 ⟨hD, h2⟩, fun a ha b hb => ?_⟩
  rcases List.mem_cons.1 hb with rfl | hb
  · exact hT a ha
  · exact h3 a ha b hb
theorem Asc.filter {l : List α} (h : Asc key l) (p : α → Bool) : Asc key (l.filter p) := List.Pairwise.filter p h
theorem sortK_asc (l : List α) : Asc key (sortK key l) := by
  unfold sortK
  have : ∀ (l m : List α), Asc key m → Asc key (l.foldl (putK key) m) := by
    intro l
    induction l with
    | nil => intro m h; exact h
    | cons x l ih => intro m h; exact ih _ (putK_asc key h x)
  exact this l [] List.Pairwise.nil
end Go.Proofs.YtkbmipmegljidaaGreat.Srt
