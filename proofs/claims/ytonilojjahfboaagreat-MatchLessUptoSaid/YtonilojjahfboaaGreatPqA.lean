/- Properties laid and taken out, in plain words: by rising keys; what is right. Conditions: each lemma's own premises. slices.IndexFunc, slices.DeleteFunc of properties, whatever the closure; props.Get, props.Drop. Conditions: each contract's own premises. slices.Contains of texts; props.Get, props.Drop. Conditions: each contract's own premises. slices.BinarySearchFunc and slices.Insert of properties. Conditions: each contract's own premises. slices.Insert of properties ahead of the end. Conditions: each contract's own premises. props.Set. Conditions: the contract's own premises. -/
import Derived.Test.YtonilojjahfboaaGreatWbA
import Derived.Test.YtonilojjahfboaaGreatGr1
import Derived.Test.YtonilojjahfboaaGreatRnA
import Derived.Shelf.Abstract
import Derived.Deep.Cut
import Derived.Test.YtonilojjahfboaaGreatRgA
import Derived.Lib.Overlaps
namespace Go.Proofs.YtonilojjahfboaaGreat
open Go.RowKit Go.Maps

theorem cmpI_self (x : Int) : cmpI x x = 0 := by unfold cmpI; split <;> omega
theorem cmpL_self : ∀ a : List Int, cmpL a a = 0
  | [] => rfl
  | x :: a => by unfold cmpL; rw [if_pos (cmpI_self x)]; exact cmpL_self a
theorem cmpL_neg : ∀ a b : List Int, cmpL b a = - cmpL a b
  | [], [] => rfl
  | [], _ :: _ => rfl
  | _ :: _, [] => rfl
  | x :: a, y :: b => by
    unfold cmpL
    have e : cmpI y x = - cmpI x y := by unfold cmpI; repeat' split
                                         all_goals omega
    by_cases h : cmpI x y = 0
    · rw [if_pos h, if_pos (by omega)]; exact cmpL_neg a b
    · rw [if_neg h, if_neg (by omega), e]
theorem cmpL_eq : ∀ {a b : List Int}, cmpL a b = 0 → a = b
  | [], [], _ => rfl
  | [], _ :: _, h => by simp [cmpL] at h
  | _ :: _, [], h => by simp [cmpL] at h
  | x :: a, y :: b, h => by
    unfold cmpL at h
    split at h
    · rename_i e
      have : x = y := by unfold cmpI at e; repeat' split at e
                         all_goals omega
      rw [this, cmpL_eq h]
    · exact absurd h ‹_›
theorem cmpL_trans : ∀ {a b c : List Int}, cmpL a b < 0 → cmpL b c < 0 → cmpL a c < 0
  | [], _, [], h1, h2 => by
    rename_i b
    cases b with
    | nil => simp [cmpL] at h1
    | cons => simp [cmpL] at h2
  | [], _, _ :: _, _, _ => by simp [cmpL]
  | _ :: _, [], _, h1, _ => by simp [cmpL] at h1
  | _ :: _, _ :: _, [], _, h2 => by simp [cmpL] at h2
  | x :: a, y :: b, z :: c, h1, h2 => by
    have r : ∀ p q : Int, cmpI p q = if p < q then -1 else if q < p then 1 else 0 := fun _ _ => rfl
    have k : ∀ (p q : Int) (l m : List Int), cmpL (p :: l) (q :: m) < 0 ↔ p < q ∨ (p = q ∧ cmpL l m < 0) := by
      intro p q l m
      show (if cmpI p q = 0 then cmpL l m else cmpI p q) < 0 ↔ _
      rw [r]
      by_cases h1 : p < q
      · simp [h1]
      · by_cases h2 : q < p
        · simp [h1, h2]; omega
        · have : p = q := by omega
          simp [this]
    rw [k] at h1 h2 ⊢
    rcases h1 with h1 | ⟨h1, h1'⟩ <;> rcases h2 with h2 | ⟨h2, h2'⟩
    · exact .inl (by omega)
    · exact .inl (by omega)
    · exact .inl (by omega)
    · exact .inr ⟨by omega, cmpL_trans h1' h2'⟩
/-- one key against another -/
def kcmp (a b : ByteArray) : Int := cmpL (runes a) (runes b)
theorem kcmp_self (a : ByteArray) : kcmp a a = 0 := cmpL_self _
theorem kcmp_neg (a b : ByteArray) : kcmp b a = - kcmp a b := cmpL_neg _ _
theorem kcmp_trans {a b c : ByteArray} (h1 : kcmp a b < 0) (h2 : kcmp b c < 0) : kcmp a c < 0 := cmpL_trans h1 h2
theorem kcmp_eq_left {a b c : ByteArray} (h : kcmp a b = 0) : kcmp a c = kcmp b c := by
  unfold kcmp at *; rw [cmpL_eq h]
theorem kcmp_eq_right {a b c : ByteArray} (h : kcmp a b = 0) : kcmp c a = kcmp c b := by
  unfold kcmp at *; rw [cmpL_eq h]
/-- by rising keys -/
def UpP (ps : List Pr) : Prop := ps.Pairwise (fun a b => kcmp a.key b.key < 0)
/-- how many stand ahead of a key -/
def cntP (ps : List Pr) (k : ByteArray) : Nat := ps.countP (fun x => decide (kcmp x.key k < 0))
/-- one property into a list in order -/
def putP (ps : List Pr) (p : Pr) : List Pr := ps.filter (fun x => decide (kcmp x.key p.key < 0)) ++ p :: ps.filter (fun x => decide (0 < kcmp x.key p.key))
theorem UpP.put {ps : List Pr} (h : UpP ps) (p : Pr) : UpP (putP ps p) := by
  unfold putP UpP
  rw [List.pairwise_append]
  refine ⟨h.filter _, List.pairwise_cons.2 ⟨fun b hb => ?_, h.filter _⟩, fun a ha b hb => ?_⟩
  · have := (List.mem_filter.1 hb).2
    simp only [decide_eq_true_eq] at this
    rw [kcmp_neg]; omega
  · have ha' := (List.mem_filter.1 ha).2
    simp only [decide_eq_true_eq] at ha'
    rcases List.mem_cons.1 hb with rfl | hb
    · exact ha'
    · have hb' := (List.mem_filter.1 hb).2
      simp only [decide_eq_true_eq] at hb'
      exact kcmp_trans ha' (by rw [kcmp_neg]; omega)
theorem mem_putP {ps : List Pr} {p x : Pr} (h : x ∈ putP ps p) : x = p ∨ x ∈ ps := by
  unfold putP at h
  rcases List.mem_append.1 h with h | h
  · exact .inr (List.mem_filter.1 h).1
  · rcases List.mem_cons.1 h with h | h
    · exact .inl h
    · exact .inr (List.mem_filter.1 h).1
theorem len_putP (ps : List Pr) (p : Pr) : (putP ps p).length ≤ ps.length + 1 := by
  unfold putP
  rw [List.length_append, List.length_cons]
  have : (ps.filter (fun x => decide (kcmp x.key p.key < 0))).length + (ps.filter (fun x => decide (0 < kcmp x.key p.key))).length ≤ ps.length := by
    induction ps with
    | nil => simp
    | cons a t ih =>
      simp only [List.filter_cons]
      by_cases h1 : kcmp a.key p.key < 0
      · rw [if_pos (by simpa using h1), if_neg (by simp; omega)]
        simp; omega
      · rw [if_neg (by simpa using h1)]
        split
        · simp; omega
        · simp; omega
  omega
/-- what stands at a place, in a list by rising keys -/
theorem UpP.lt {ps : List Pr} (h : UpP ps) {i j : Nat} {p q : Pr} (hi : ps[i]? = some p) (hj : ps[j]? = some q) (hij : i < j) : kcmp p.key q.key < 0 := by
  obtain ⟨h1, rfl⟩ := List.getElem?_eq_some_iff.1 hi
  obtain ⟨h2, rfl⟩ := List.getElem?_eq_some_iff.1 hj
  exact List.pairwise_iff_getElem.1 h i j h1 h2 hij
/-- the place of a key: those ahead are less, those from there on are not -/
def AtP (ps : List Pr) (k : ByteArray) (n : Nat) : Prop := n ≤ ps.length ∧ (∀ i p, i < n → ps[i]? = some p → kcmp p.key k < 0) ∧ ∀ i p, n ≤ i → ps[i]? = some p → 0 ≤ kcmp p.key k
theorem filter_lt {ps : List Pr} {k : ByteArray} : ∀ {n : Nat}, AtP ps k n → ps.filter (fun x => decide (kcmp x.key k < 0)) = ps.take n := by
  induction ps with
  | nil => intro n _; simp
  | cons a t ih =>
    intro n h
    cases n with
    | zero =>
      rw [List.take_zero, List.filter_eq_nil_iff]
      intro x hx
      obtain ⟨i, hi⟩ := List.getElem?_of_mem hx
      have := h.2.2 i x (Nat.zero_le _) hi
      simp; omega
    | succ n =>
      have h1 := h.2.1 0 a (by omega) rfl
      rw [List.filter_cons, if_pos (by simpa using h1), List.take_succ_cons, ih ⟨by have := h.1; simp at this; omega, fun i p hi hp => h.2.1 (i + 1) p (by omega) hp, fun i p hi hp => h.2.2 (i + 1) p (by omega) hp⟩]
theorem filter_gt {ps : List Pr} (hu : UpP ps) {k : ByteArray} {n : Nat} (h : AtP ps k n) (p : Pr) (hp : ps[n]? = some p) (h0 : kcmp p.key k = 0) : ps.filter (fun x => decide (0 < kcmp x.key k)) = ps.drop (n + 1) := by
  have e : ps = ps.take n ++ p :: ps.drop (n + 1) := by
    obtain ⟨h1, rfl⟩ := List.getElem?_eq_some_iff.1 hp
    rw [← List.drop_eq_getElem_cons h1, List.take_append_drop]
  have e2 := congrArg (List.filter (fun x => decide (0 < kcmp x.key k))) e
  rw [e2, List.filter_append, List.filter_cons, if_neg (by simp; omega)]
  have a1 : (ps.take n).filter (fun x => decide (0 < kcmp x.key k)) = [] := by
    rw [List.filter_eq_nil_iff]
    intro x hx
    obtain ⟨i, hi, rfl⟩ := List.getElem_of_mem hx
    rw [List.length_take] at hi
    have := h.2.1 i ps[i] (by omega) (List.getElem?_eq_getElem _)
    rw [List.getElem_take]; simp; omega
  have a2 : (ps.drop (n + 1)).filter (fun x => decide (0 < kcmp x.key k)) = ps.drop (n + 1) := by
    rw [List.filter_eq_self]
    intro x hx
    obtain ⟨i, hi, rfl⟩ := List.getElem_of_mem hx
    rw [List.length_drop] at hi
    have := hu.lt hp (List.getElem?_eq_getElem (show n + 1 + i < ps.length by omega)) (by omega)
    rw [List.getElem_drop]
    simp only [decide_eq_true_eq]
    have e3 := kcmp_eq_left h0 (c := ps[n + 1 + i].key)
    rw [kcmp_neg]
    omega
  rw [a1, a2]; rfl
theorem filter_gt' {ps : List Pr} {k : ByteArray} {n : Nat} (h : AtP ps k n) (hu : UpP ps) (h0 : ∀ p, ps[n]? = some p → kcmp p.key k ≠ 0) : ps.filter (fun x => decide (0 < kcmp x.key k)) = ps.drop n := by
  have e : ps = ps.take n ++ ps.drop n := (List.take_append_drop _ _).symm
  have e2 := congrArg (List.filter (fun x => decide (0 < kcmp x.key k))) e
  rw [e2, List.filter_append]
  have a1 : (ps.take n).filter (fun x => decide (0 < kcmp x.key k)) = [] := by
    rw [List.filter_eq_nil_iff]
    intro x hx
    obtain ⟨i, hi, rfl⟩ := List.getElem_of_mem hx
    rw [List.length_take] at hi
    have := h.2.1 i ps[i] (by omega) (List.getElem?_eq_getElem _)
    rw [List.getElem_take]; simp; omega
  have a2 : (ps.drop n).filter (fun x => decide (0 < kcmp x.key k)) = ps.drop n := by
    rw [List.filter_eq_self]
    intro x hx
    obtain ⟨i, hi, rfl⟩ := List.getElem_of_mem hx
    rw [List.length_drop] at hi
    have h1 := h.2.2 (n + i) ps[n + i] (by omega) (List.getElem?_eq_getElem _)
    rw [List.getElem_drop]
    simp only [decide_eq_true_eq]
    cases i with
    | zero => have := h0 ps[n] (List.getElem?_eq_getElem (by omega)); simp at *; omega
    | succ i =>
      have h3 := hu.lt (List.getElem?_eq_getElem (show n < ps.length by omega)) (List.getElem?_eq_getElem (show n + (i + 1) < ps.length by omega)) (by omega)
      have h4 := h.2.2 n ps[n] (Nat.le_refl _) (List.getElem?_eq_getElem _)
      have h5 := h0 ps[n] (List.getElem?_eq_getElem (by omega))
      have h6 : kcmp k ps[n].key < 0 := by rw [kcmp_neg]; omega
      have := kcmp_trans h6 h3
      rw [kcmp_neg]; omega
  rw [a1, a2]; rfl
theorem put_there {ps : List Pr} (hu : UpP ps) {p q : Pr} {n : Nat} (h : AtP ps p.key n) (hq : ps[n]? = some q) (h0 : kcmp q.key p.key = 0) : putP ps p = ps.set n p := by
  unfold putP
  rw [filter_lt h, filter_gt hu h q hq h0, List.set_eq_take_append_cons_drop, if_pos (List.getElem?_eq_some_iff.1 hq).1]
theorem put_not {ps : List Pr} (hu : UpP ps) {p : Pr} {n : Nat} (h : AtP ps p.key n) (h0 : ∀ q, ps[n]? = some q → kcmp q.key p.key ≠ 0) : putP ps p = ps.take n ++ p :: ps.drop n := by
  unfold putP
  rw [filter_lt h, filter_gt' h hu h0]
/-- what is left without some keys -/
def dropP (ps : List Pr) (ks : List ByteArray) : List Pr := ps.filter (fun p => !ks.any (fun k => decide (k = p.key)))
/-- the first one with a key -/
def getP (ps : List Pr) (k : ByteArray) : Option Pr := ps.find? (fun p => decide (p.key = k))
/-- news laid, one by one -/
def setGo : List Pr → List Pr → Except Int (List Pr)
  | out, [] => if 16 < out.length then .error 32 else .ok out
  | out, p :: t => if badS p.key = true then .error 30 else if p.v.right = false then .error 22 else setGo (putP out p) t
/-- the reference's laying of one property, half-way -/
def PutI (ps : List Pr) (p : Pr) (i : Nat) (out : List Pr) (done : Bool) : Prop :=
  if done = true then out = (ps.take i).filter (fun x => decide (kcmp x.key p.key < 0)) ++ p :: (ps.take i).filter (fun x => decide (0 < kcmp x.key p.key)) ∧ ∃ j q, j < i ∧ ps[j]? = some q ∧ 0 ≤ kcmp q.key p.key
  else out = ps.take i ∧ ∀ j q, j < i → ps[j]? = some q → kcmp q.key p.key < 0
theorem PutI.start (ps : List Pr) (p : Pr) : PutI ps p 0 [] false := by
  unfold PutI
  exact ⟨rfl, fun j q h => absurd h (Nat.not_lt_zero _)⟩
theorem take_snoc {ps : List Pr} {i : Nat} {x : Pr} (hx : ps[i]? = some x) : ps.take (i + 1) = ps.take i ++ [x] := by
  rw [List.take_add_one, hx]; rfl
theorem PutI.low {ps : List Pr} (hu : UpP ps) {p x : Pr} {i : Nat} {out : List Pr} {done : Bool} (h : PutI ps p i out done) (hx : ps[i]? = some x) (hc : kcmp x.key p.key < 0) : done = false ∧ PutI ps p (i + 1) (out ++ [x]) false := by
  cases done
  · refine ⟨rfl, ?_⟩
    unfold PutI at *
    simp only [Bool.false_eq_true, if_false] at *
    refine ⟨by rw [h.1, take_snoc hx], fun j q hj hq => ?_⟩
    rcases Nat.lt_succ_iff_lt_or_eq.1 hj with hj | rfl
    · exact h.2 j q hj hq
    · rw [hx] at hq; cases hq; exact hc
  · unfold PutI at h
    simp only [if_true] at h
    obtain ⟨_, j, q, hj, hq, h0⟩ := h
    have := hu.lt hq hx hj
    have := kcmp_trans this hc
    omega
theorem PutI.same {ps : List Pr} (hu : UpP ps) {p x : Pr} {i : Nat} {out : List Pr} {done : Bool} (h : PutI ps p i out done) (hx : ps[i]? = some x) (hc : kcmp x.key p.key = 0) : done = false ∧ PutI ps p (i + 1) (out ++ [p]) true := by
  cases done
  · refine ⟨rfl, ?_⟩
    unfold PutI at *
    simp only [Bool.false_eq_true, if_false] at h
    simp only [if_true]
    refine ⟨?_, i, x, by omega, hx, by omega⟩
    rw [take_snoc hx, List.filter_append, List.filter_append, h.1]
    have a1 : (ps.take i).filter (fun x => decide (kcmp x.key p.key < 0)) = ps.take i := by
      rw [List.filter_eq_self]
      intro y hy
      obtain ⟨j, hj, rfl⟩ := List.getElem_of_mem hy
      rw [List.length_take] at hj
      rw [List.getElem_take]
      exact decide_eq_true (h.2 j _ (by omega) (List.getElem?_eq_getElem _))
    have a2 : (ps.take i).filter (fun x => decide (0 < kcmp x.key p.key)) = [] := by
      rw [List.filter_eq_nil_iff]
      intro y hy
      obtain ⟨j, hj, rfl⟩ := List.getElem_of_mem hy
      rw [List.length_take] at hj
      rw [List.getElem_take]
      have := h.2 j _ (by omega) (List.getElem?_eq_getElem (show j < ps.length by omega))
      simp; omega
    rw [a1, a2]
    simp [hc]
  · unfold PutI at h
    simp only [if_true] at h
    obtain ⟨_, j, q, hj, hq, h0⟩ := h
    have h1 := hu.lt hq hx hj
    rw [kcmp_eq_right hc] at h1
    omega
theorem PutI.high {ps : List Pr} {p x : Pr} {i : Nat} {out : List Pr} {done : Bool} (h : PutI ps p i out done) (hx : ps[i]? = some x) (hc : 0 < kcmp x.key p.key) : PutI ps p (i + 1) (if done = true then out ++ [x] else out ++ [p] ++ [x]) true := by
  cases done
  · unfold PutI at *
    simp only [Bool.false_eq_true, if_false] at h
    simp only [if_true, Bool.false_eq_true, if_false]
    refine ⟨?_, i, x, by omega, hx, by omega⟩
    rw [take_snoc hx, List.filter_append, List.filter_append, h.1]
    have a1 : (ps.take i).filter (fun x => decide (kcmp x.key p.key < 0)) = ps.take i := by
      rw [List.filter_eq_self]
      intro y hy
      obtain ⟨j, hj, rfl⟩ := List.getElem_of_mem hy
      rw [List.length_take] at hj
      rw [List.getElem_take]
      exact decide_eq_true (h.2 j _ (by omega) (List.getElem?_eq_getElem _))
    have a2 : (ps.take i).filter (fun x => decide (0 < kcmp x.key p.key)) = [] := by
      rw [List.filter_eq_nil_iff]
      intro y hy
      obtain ⟨j, hj, rfl⟩ := List.getElem_of_mem hy
      rw [List.length_take] at hj
      rw [List.getElem_take]
      have := h.2 j _ (by omega) (List.getElem?_eq_getElem (show j < ps.length by omega))
      simp; omega
    rw [a1, a2]
    have n1 : ¬ kcmp x.key p.key < 0 := by omega
    simp [hc, n1]
  · unfold PutI at *
    simp only [if_true] at h ⊢
    obtain ⟨h1, j, q, hj, hq, h0⟩ := h
    refine ⟨?_, j, q, by omega, hq, h0⟩
    rw [take_snoc hx, List.filter_append, List.filter_append, h1]
    have n1 : ¬ kcmp x.key p.key < 0 := by omega
    simp [hc, n1]
theorem PutI.end {ps : List Pr} {p : Pr} {out : List Pr} {done : Bool} (h : PutI ps p ps.length out done) : (if done = true then out else out ++ [p]) = putP ps p := by
  unfold PutI at h
  cases done
  · simp only [Bool.false_eq_true, if_false] at h ⊢
    have a1 : ps.filter (fun x => decide (kcmp x.key p.key < 0)) = ps := by
      rw [List.filter_eq_self]
      intro y hy
      obtain ⟨j, hj⟩ := List.getElem?_of_mem hy
      exact decide_eq_true (h.2 j y (List.getElem?_eq_some_iff.1 hj).1 hj)
    have a2 : ps.filter (fun x => decide (0 < kcmp x.key p.key)) = [] := by
      rw [List.filter_eq_nil_iff]
      intro y hy
      obtain ⟨j, hj⟩ := List.getElem?_of_mem hy
      have := h.2 j y (List.getElem?_eq_some_iff.1 hj).1 hj
      simp; omega
    unfold putP
    rw [a1, a2, h.1, List.take_length]
  · simp only [if_true] at h ⊢
    rw [List.take_length] at h
    exact h.1
theorem PutI.len {ps : List Pr} {p : Pr} {i : Nat} {out : List Pr} {done : Bool} (h : PutI ps p i out done) (hi : i ≤ ps.length) : out.length ≤ ps.length + 1 := by
  unfold PutI at h
  split at h
  · rw [h.1]
    have h1 := len_putP (ps.take i) p
    unfold putP at h1
    rw [List.length_take] at h1
    omega
  · rw [h.1, List.length_take]; omega
/-- properties that are right by themselves, by rising keys -/
structure RtP (ps : List Pr) : Prop where
  each : ∀ p ∈ ps, badS p.key = false ∧ p.v.right = true
  up : UpP ps
theorem RtP.put {ps : List Pr} (h : RtP ps) {p : Pr} (h1 : badS p.key = false) (h2 : p.v.right = true) : RtP (putP ps p) :=
  ⟨fun x hx => by
    rcases mem_putP hx with rfl | hx
    · exact ⟨h1, h2⟩
    · exact h.each x hx, h.up.put p⟩
theorem RtP.filter {ps : List Pr} (h : RtP ps) (f : Pr → Bool) : RtP (ps.filter f) := ⟨fun x hx => h.each x (List.mem_filter.1 hx).1, h.up.filter f⟩
theorem RtP.news {news : List Pr} : ∀ {ps out : List Pr}, RtP ps → setGo ps news = .ok out → RtP out ∧ out.length ≤ 16 := by
  induction news with
  | nil =>
    intro ps out h e
    unfold setGo at e
    split at e
    · cases e
    · cases e; exact ⟨h, by omega⟩
  | cons p t ih =>
    intro ps out h e
    unfold setGo at e
    split at e
    · cases e
    · rename_i h1
      split at e
      · cases e
      · rename_i h2
        exact ih (h.put (by simpa using h1) (by simpa using h2)) e
open Classical in
theorem rightPs_iff {ps : List Pr} : rightPs ps = true ↔ RtP ps ∧ ps.length ≤ 16 := by
  unfold rightPs
  rw [decide_eq_true_iff]
  constructor
  · rintro ⟨h, hl⟩
    refine ⟨⟨fun p hp => ?_, ?_⟩, hl⟩
    · obtain ⟨i, hi⟩ := List.getElem?_of_mem hp
      have := h i (List.getElem?_eq_some_iff.1 hi).1 p hi
      exact ⟨this.1, this.2.1⟩
    · have key : ∀ d i (p q : Pr), ps[i]? = some p → ps[i + 1 + d]? = some q → kcmp p.key q.key < 0 := by
        intro d
        induction d with
        | zero =>
          intro i p q hp hq
          exact (h (i + 1) (List.getElem?_eq_some_iff.1 hq).1 q hq).2.2 p (by omega) (by simpa using hp)
        | succ d ih =>
          intro i p q hp hq
          have hlt := (List.getElem?_eq_some_iff.1 hq).1
          obtain ⟨m, hm⟩ : ∃ m, ps[i + 1 + d]? = some m := ⟨_, List.getElem?_eq_getElem (by omega)⟩
          have h1 := ih i p m hp hm
          have h2 := (h (i + 1 + (d + 1)) hlt q hq).2.2 m (by omega) (by rw [show i + 1 + (d + 1) - 1 = i + 1 + d by omega]; exact hm)
          exact kcmp_trans h1 h2
      unfold UpP
      rw [List.pairwise_iff_getElem]
      intro i j hi hj hij
      exact key (j - i - 1) i ps[i] ps[j] (List.getElem?_eq_getElem hi) (by rw [show i + 1 + (j - i - 1) = j by omega]; exact List.getElem?_eq_getElem hj)
  · rintro ⟨h, hl⟩
    refine ⟨fun i hi p hp => ?_, hl⟩
    obtain ⟨h1, h2⟩ := h.each p (List.mem_of_getElem? hp)
    exact ⟨h1, h2, fun q h0 hq => h.up.lt hq hp (by omega)⟩
/-- a key stands once in a right list -/
theorem RtP.get {ps : List Pr} (h : RtP ps) {p : Pr} (hp : p ∈ ps) : getP ps p.key = some p := by
  unfold getP
  obtain ⟨i, hi⟩ := List.getElem?_of_mem hp
  obtain ⟨hl, rfl⟩ := List.getElem?_eq_some_iff.1 hi
  rw [List.find?_eq_some_iff_getElem]
  refine ⟨decide_eq_true rfl, i, hl, rfl, fun j hj => ?_⟩
  have h1 := h.up.lt (List.getElem?_eq_getElem (show j < ps.length by omega)) hi hj
  have : ps[j].key ≠ ps[i].key := fun e => by rw [e, kcmp_self] at h1; omega
  rw [Bool.not_eq_true']
  exact decide_eq_false this
end Go.Proofs.YtonilojjahfboaaGreat
namespace Go.Proofs.YtonilojjahfboaaGreat
open Go.RowKit Go.Maps

theorem kP_cells {w : World} {b off : Nat} {l : List Pr} (h : kP.At w b off l) {i : Nat} {p : Pr} (hp : l[i]? = some p) :
    w.cell? ⟨b, off + i * 4, none⟩ = some (.string p.key) ∧ w.cell? ⟨b, off + i * 4 + 1, none⟩ = some (.int .i64 p.v.kind) ∧ w.cell? ⟨b, off + i * 4 + 2, none⟩ = some (.int .i64 p.v.n) ∧ w.cell? ⟨b, off + i * 4 + 3, none⟩ = some (.string p.v.s) :=
  ⟨h.cells i p hp 0 _ rfl, h.cells i p hp 1 _ rfl, h.cells i p hp 2 _ rfl, h.cells i p hp 3 _ rfl⟩
/-- a property as a value -/
def Pr.agg (p : Pr) : Value := .agg #[.string p.key, .int .i64 p.v.kind, .int .i64 p.v.n, .string p.v.s]
set_option maxRecDepth 100000 in
set_option maxHeartbeats 2000000 in
theorem idxPr_by (g : Nat) (cb : Array Value) (p : Pr → Bool) (a : Option Addr) (cap : Nat) (l : List Pr) (w : World) (eg : ∀ args w, (callFunc g args).run Tryz.prog w = .ok (.enter g args) w) (hv : kP.V w a l) (hl : l.length ≤ 1000000)
    (hp : ∀ (W : World) (x : Pr), x ∈ l → Below w.heap.size w W → Calls Tryz.prog g (#[.agg #[.string x.key, .int .i64 x.v.kind, .int .i64 x.v.n, .string x.v.s]] ++ cb) W fun e w' => e = .returned (.bool (p x)) ∧ Below W.heap.size W w') :
    Calls Tryz.prog 231 #[.slice a l.length cap, .func (.func g) #[] cb] w fun e w' => e = .returned (.int .i64 (idxG p l 0)) ∧ Below w.heap.size w w' := by
  have HR := Lib.hid hv
  have HP := Lib.hid hp
  clear hv hp
  go_enter Tryz.func231, Tryz.ntmps231
  go_wp2_with fail
  go_loopw [8] (fun i wr => ∃ k : Nat, k ≤ l.length ∧ i = .int .i64 k ∧ Hid (idxG p l 0 = idxG p (l.drop k) k) ∧ Below w.heap.size w wr) (fun i _ => l.length - (intOf i).toNat)
  case atStart => exact ⟨0, by omega, rfl, Lib.hid rfl, Below.refl _ _⟩
  case round =>
    obtain ⟨k, hk, rfl, HI, hbr⟩ := hrel
    by_cases hlt : k < l.length
    · obtain ⟨x, hx⟩ : ∃ x, l[k]? = some x := ⟨_, List.getElem?_eq_getElem hlt⟩
      obtain ⟨b, off, rfl, hat⟩ := HR.out (fun e => by rw [e] at hlt; simp at hlt)
      obtain ⟨c0, c1, c2, c3⟩ := kP_cells (hat.below hbr) hx
      have hc := HP.out wr x (List.mem_of_getElem? hx) hbr
      have hD := Lib.hid (idxG_drop (p := p) hx)
      obtain ⟨q, hq⟩ : ∃ q, p x = q := ⟨_, rfl⟩
      have HQ := Lib.hid hq
      rw [hq] at hc
      have HC := Lib.hid hc
      clear hx hat hq hc
      cases q
      · have HN : Hid (idxG p l 0 = idxG p (l.drop (k + 1)) ((k + 1 : Nat) : Int)) := Lib.hid (by rw [HI.out, hD.out, HQ.out, if_neg (by decide)]; rfl)
        go_wp2_with (go_at_fn g; refine HC.out.mono ?_; rintro e w1 ⟨rfl, b1⟩; have HB1 := Lib.hid (below_then hbr b1); clear b1)
        exact ⟨⟨k + 1, by omega, by go_num, HN, HB1.out⟩, by simp [intOf]; omega⟩
      · have HN : Hid (idxG p l 0 = k) := Lib.hid (by rw [HI.out, hD.out, HQ.out, if_pos rfl])
        go_wp2_with (go_at_fn g; refine HC.out.mono ?_; rintro e w1 ⟨rfl, b1⟩; have HB1 := Lib.hid (below_then hbr b1); clear b1)
        go_ret
        exact ⟨by rw [HN.out]; rfl, HB1.out⟩
    · obtain rfl : k = l.length := by omega
      have HN : Hid (idxG p l 0 = -1) := Lib.hid (by rw [HI.out, List.drop_length]; rfl)
      go_wp2_with fail
      go_ret
      exact ⟨by rw [HN.out]; rfl, hbr⟩
/-- what leaves some out, leaves -/
def DelPost (w : World) (B b cap : Nat) (l : List Pr) (p : Pr → Bool) (e : Ending) (w' : World) : Prop :=
  e = .returned (.slice (some ⟨b, 0, none⟩) (l.filter (fun x => !p x)).length cap) ∧ kP.Own w' B (.slice (some ⟨b, 0, none⟩) (l.filter (fun x => !p x)).length cap) (l.filter (fun x => !p x)) ∧ Chg w w' (fun j => j = b)
theorem ownP_cells {w : World} {B b n cap : Nat} {l : List Pr} (h : kP.Own w B (.slice (some ⟨b, 0, none⟩) n cap) l) {i : Nat} {p : Pr} (hp : l[i]? = some p) :
    w.cell? ⟨b, i * 4, none⟩ = some (.string p.key) ∧ w.cell? ⟨b, i * 4 + 1, none⟩ = some (.int .i64 p.v.kind) ∧ w.cell? ⟨b, i * 4 + 2, none⟩ = some (.int .i64 p.v.n) ∧ w.cell? ⟨b, i * 4 + 3, none⟩ = some (.string p.v.s) := by
  obtain ⟨b', c', e, _, _, hat⟩ := h.at' (fun e => by rw [e] at hp; simp at hp)
  injection e with e1
  injection e1 with e1
  injection e1 with e1
  subst e1
  have := kP_cells hat hp
  simpa using this
theorem ownP_frozen {w : World} {B b n cap : Nat} {l : List Pr} (h : kP.Own w B (.slice (some ⟨b, 0, none⟩) n cap) l) (i : Nat) : w.frozen? ⟨b, i, none⟩ = false := by
  obtain ⟨cur, hg, _⟩ := h.blk
  exact frozen_of_blk hg i
theorem ownP_set {w : World} {B b n cap : Nat} {l : List Pr} (h : kP.Own w B (.slice (some ⟨b, 0, none⟩) n cap) l) {i : Nat} (hi : i < l.length) (x : Pr) :
    kP.Own ((((w.setCell ⟨b, i * 4, none⟩ (.string x.key)).setCell ⟨b, i * 4 + 1, none⟩ (.int .i64 x.v.kind)).setCell ⟨b, i * 4 + 2, none⟩ (.int .i64 x.v.n)).setCell ⟨b, i * 4 + 3, none⟩ (.string x.v.s)) B (.slice (some ⟨b, 0, none⟩) n cap) (l.set i x) := by
  have := h.upd (i := i) (r := 0) (x := l[i]) (x' := x) (List.getElem?_eq_getElem hi) (Pr.enc x) (by show 0 + 4 ≤ 4; omega) (fun j => by
    by_cases hj : j < 4
    · rw [if_pos ⟨Nat.zero_le _, by show j < 0 + 4; omega⟩]; rfl
    · rw [if_neg (fun h => hj (by have := h.2; simpa [Pr.enc] using this)), List.getElem?_eq_none (by show 4 ≤ j; omega), List.getElem?_eq_none (by show 4 ≤ j; omega)])
  exact this
set_option maxRecDepth 100000 in
set_option maxHeartbeats 4000000 in
theorem delPr_by (g : Nat) (cb : Array Value) (p : Pr → Bool) (b cap : Nat) (l : List Pr) (w : World) (B : Nat) (eg : ∀ args w, (callFunc g args).run Tryz.prog w = .ok (.enter g args) w) (h : kP.Own w B (.slice (some ⟨b, 0, none⟩) l.length cap) l) (hl : l.length ≤ 1000000)
    (hp : ∀ (W : World) (x : Pr), x ∈ l → Chg w W (fun j => j = b) → Calls Tryz.prog g (#[.agg #[.string x.key, .int .i64 x.v.kind, .int .i64 x.v.n, .string x.v.s]] ++ cb) W fun e w' => e = .returned (.bool (p x)) ∧ Below W.heap.size W w') :
    Calls Tryz.prog 272 #[.slice (some ⟨b, 0, none⟩) l.length cap, .func (.func g) #[] cb] w (DelPost w B b cap l p) := by
  have HS0 := Lib.hid h
  have HP := Lib.hid hp
  have hidx := idxPr_by g cb p (some ⟨b, 0, none⟩) cap l w eg h.toV hl (fun W x hx hb => hp W x hx (Chg.of_below hb _))
  have HIX := Lib.hid hidx
  have HBL : Hid (b < w.heap.size) := Lib.hid (by obtain ⟨_, hg, _⟩ := h.blk; exact (Array.getElem?_eq_some_iff.1 hg).1)
  clear h hp hidx
  go_enter Tryz.func272, Tryz.ntmps272
  go_wp2_with fail
  refine HIX.out.mono ?_
  rintro e w1 ⟨rfl, hb1⟩
  have HB1 := Lib.hid hb1
  clear hb1 HIX
  rcases idxG_cases p l 0 with ⟨h1, h2⟩ | ⟨k, x, h1, h2, h3, h4⟩
  · have HE : Hid (l.filter (fun x => !p x) = l) := Lib.hid (List.filter_eq_self.2 (fun x hx => by rw [h2 x hx]; rfl))
    clear h2
    have h1' : idxG p l 0 = -1 := h1
    rw [h1']
    clear h1 h1'
    go_wp2_with fail
    go_ret
    unfold DelPost
    rw [HE.out]
    exact ⟨rfl, HS0.out.below HB1.out, Chg.of_below HB1.out _⟩
  · have h1' : idxG p l 0 = ((0 + k : Nat) : Int) := h1
    rw [Nat.zero_add] at h1'
    rw [h1']
    have HM0 := Lib.hid (DelM.start h2 h3 h4)
    have hkl := (List.getElem?_eq_some_iff.1 h2).1
    clear h1 h1' h2 h3 h4
    have HO1 : Hid (kP.Own w1 B (.slice (some ⟨b, 0, none⟩) l.length cap) l ∧ Chg w w1 (fun j => j = b)) := Lib.hid ⟨HS0.out.below HB1.out, Chg.of_below HB1.out _⟩
    have n1 : ((k : Int) == -1) = false := by simp
    go_wp2_with fail
    go_loopw [5, 6, 7] (fun a c _ wr => ∃ i j : Nat, ∃ M : List Pr, a = .int .i64 i ∧ c = .int .i64 j ∧ j ≤ l.length ∧ Hid (DelM p l M i j ∧ kP.Own wr B (.slice (some ⟨b, 0, none⟩) l.length cap) M ∧ Chg w wr (fun j => j = b))) (fun _ c _ _ => l.length - (intOf c).toNat)
    case atStart => exact ⟨k, k + 1, l, rfl, by go_num, by omega, Lib.hid ⟨HM0.out, HO1.out.1, HO1.out.2⟩⟩
    case round =>
      clear HM0 HO1
      obtain ⟨i, j, M, rfl, rfl, hj, HR⟩ := hrel
      by_cases hlt : j < l.length
      · obtain ⟨x, hx⟩ : ∃ x, l[j]? = some x := ⟨_, List.getElem?_eq_getElem hlt⟩
        have hMx := HR.out.1.get.trans hx
        obtain ⟨c0, c1, c2, c3⟩ := ownP_cells HR.out.2.1 hMx
        have HX := Lib.hid hx
        have HXM := Lib.hid (List.mem_of_getElem? hx)
        clear hx hMx
        obtain ⟨bx, hbx⟩ : ∃ bx, bx = wr.heap.size := ⟨_, rfl⟩
        obtain ⟨W, hW⟩ : ∃ W, W = wr.alloc (.cells #[.string x.key, .int .i64 x.v.kind, .int .i64 x.v.n, .string x.v.s] 137) := ⟨_, rfl⟩
        have hBW : Below wr.heap.size wr W := by rw [hW]; exact below_box wr _
        have eW : W.heap[bx]? = some (.cells #[.string x.key, .int .i64 x.v.kind, .int .i64 x.v.n, .string x.v.s] 137) := by rw [hW, hbx]; exact heap_new wr _
        have hlW : bx < W.heap.size := (Array.getElem?_eq_some_iff.1 eW).1
        have k0 := cell_of_blk eW 0
        have k1 := cell_of_blk eW 1
        have k2 := cell_of_blk eW 2
        have k3 := cell_of_blk eW 3
        simp at k0 k1 k2 k3
        obtain ⟨q, hq⟩ : ∃ q, p x = q := ⟨_, rfl⟩
        have hC := HP.out W x HXM.out (HR.out.2.2.trans (Chg.of_below hBW _) (fun _ _ h => h))
        rw [hq] at hC
        have HC := Lib.hid hC
        have HQ := Lib.hid hq
        have HW := Lib.hid hW
        have HBX := Lib.hid hbx
        have HEW := Lib.hid eW
        have HBW := Lib.hid hBW
        clear hW hbx eW hBW hq hC
        go_upto_region 8 with fail
        rw [← HW.out, ← HBX.out]
        go_wp2_with fail
        refine HC.out.mono ?_
        rintro e w2 ⟨rfl, hb2⟩
        have m0 := below_cell hb2 0 hlW k0
        have m1 := below_cell hb2 1 hlW k1
        have m2 := below_cell hb2 2 hlW k2
        have m3 := below_cell hb2 3 hlW k3
        have HS2 : Hid (kP.Own w2 B (.slice (some ⟨b, 0, none⟩) l.length cap) M ∧ Chg w w2 (fun j => j = b)) := Lib.hid ⟨(HR.out.2.1.below HBW.out).below hb2, (HR.out.2.2.trans (Chg.of_below HBW.out _) (fun _ _ h => h)).trans (Chg.of_below hb2 _) (fun _ _ h => h)⟩
        clear hb2 k0 k1 k2 k3 c0 c1 c2 c3
        cases q
        · have hil : i < l.length := by have := HR.out.1.lt; omega
          obtain ⟨y, hy⟩ : ∃ y, M[i]? = some y := ⟨_, List.getElem?_eq_getElem (by rw [HR.out.1.len]; exact hil)⟩
          obtain ⟨c0, c1, c2, c3⟩ := ownP_cells HS2.out.1 hy
          have f0 := ownP_frozen HS2.out.1 (i * 4)
          have f1 := ownP_frozen HS2.out.1 (i * 4 + 1)
          have f2 := ownP_frozen HS2.out.1 (i * 4 + 2)
          have f3 := ownP_frozen HS2.out.1 (i * 4 + 3)
          have hinz : (i : Int) < (l.length : Int) := by omega
          clear hy
          go_wp2_with fail
          refine ⟨⟨i + 1, j + 1, M.set i x, by go_num, by go_num, by omega, Lib.hid ⟨HR.out.1.keep HX.out HQ.out, ownP_set HS2.out.1 (by rw [HR.out.1.len]; exact hil) x, ?_⟩⟩, by simp [intOf]; omega⟩
          exact ((((HS2.out.2.setCell (p := ⟨b, i * 4, none⟩) (fun _ => rfl) _).setCell (p := ⟨b, i * 4 + 1, none⟩) (fun _ => rfl) _).setCell (p := ⟨b, i * 4 + 2, none⟩) (fun _ => rfl) _).setCell (p := ⟨b, i * 4 + 3, none⟩) (fun _ => rfl) _)
        · go_wp2_with fail
          exact ⟨⟨i, j + 1, M, rfl, by go_num, by omega, Lib.hid ⟨HR.out.1.skip HX.out HQ.out, HS2.out.1, HS2.out.2⟩⟩, by simp [intOf]; omega⟩
      · obtain rfl : j = l.length := by omega
        have hil : i < l.length := HR.out.1.lt
        have hE := HR.out.1.fin rfl
        have hM := HR.out.1.len
        have hO := HR.out.2.1
        obtain ⟨w9, hcl, q1, q2⟩ := hO.run_clear (i := i) (by decide) (by omega) (cap - i) (l.length - i) (by omega)
        have hcap := hO.cap
        have HF : Hid (DelPost w B b cap l p (.returned (.slice (some ⟨b, 0, none⟩) i cap)) w9) := Lib.hid (by
          unfold DelPost
          rw [← hE]
          have e : (M.take i).length = i := by rw [List.length_take]; omega
          rw [e]
          exact ⟨rfl, q1, HR.out.2.2.trans q2 (fun _ _ h => h)⟩)
        have hci : ¬ cap = i := by omega
        have hci' : ¬ i = cap := by omega
        have hiz : (i : Int) ≤ (l.length : Int) := by omega
        have hizc : (i : Int) ≤ (cap : Int) := by omega
        have hcl' : ∀ ty, (Builtin.clear_ #[26] ty #[.slice (some ⟨b, i * 4, none⟩) (l.length - i) (cap - i)]).run Tryz.prog wr = .ok (.tuple #[]) w9 := hcl
        clear hE hM hO q1 q2 hcap hcl
        go_wp2_with fail
        go_ret
        exact HF.out
end Go.Proofs.YtonilojjahfboaaGreat
namespace Go.Proofs.YtonilojjahfboaaGreat
open Go.RowKit Go.Maps

theorem bytes_eqB (a b : ByteArray) : (a.toList == b.toList) = decide (a = b) := by
  by_cases h : a = b
  · subst h; simp
  · rw [decide_eq_false h]
    cases e : (a.toList == b.toList)
    · rfl
    · exact absurd (by
        have e2 : a.toList = b.toList := by simpa using e
        rw [ByteArray.toList_eq, ByteArray.toList_eq] at e2
        apply ByteArray.ext
        apply Array.ext'
        exact e2) h
def IxPost (w : World) (p : Bool) (e : Ending) (w' : World) : Prop := ∃ r : Int, e = .returned (.int .i64 r) ∧ (r = -1 ∧ p = false ∨ 0 ≤ r ∧ p = true) ∧ w = w'
set_option maxRecDepth 100000 in
set_option maxHeartbeats 2000000 in
theorem indexS_any (a : Option Addr) (cap : Nat) (ks : List ByteArray) (k : ByteArray) (w : World) (h : SsV w a ks) (hl : ks.length ≤ 1000000) :
    Calls Tryz.prog 342 #[.slice a ks.length cap, .string k] w (IxPost w (ks.any (fun x => decide (x = k)))) := by
  have HR := Lib.hid h
  clear h
  go_enter Tryz.func342, Tryz.ntmps342
  go_wp2_with fail
  go_loopw [8] (fun i wr => ∃ j : Nat, j ≤ ks.length ∧ i = .int .i64 j ∧ Hid (∀ x ∈ ks.take j, x ≠ k) ∧ w = wr) (fun i _ => ks.length - (intOf i).toNat)
  case atStart => exact ⟨0, by omega, rfl, Lib.hid (by simp), rfl⟩
  case round =>
    obtain ⟨j, hj, rfl, HI, rfl⟩ := hrel
    by_cases hlt : j < ks.length
    · obtain ⟨x, hx⟩ : ∃ x, ks[j]? = some x := ⟨_, List.getElem?_eq_getElem hlt⟩
      obtain ⟨b, off, rfl, hat⟩ := HR.out (fun e => by rw [e] at hlt; simp at hlt)
      have c0 := hat.cells j x hx
      have HX := Lib.hid hx
      clear hx hat
      by_cases hq : k = x
      · have q1 : (k.toList == x.toList) = true := by rw [bytes_eqB]; exact decide_eq_true hq
        have HQ := Lib.hid hq
        clear hq
        go_wp2_with fail
        go_ret
        exact ⟨_, rfl, .inr ⟨by omega, List.any_eq_true.2 ⟨x, List.mem_of_getElem? HX.out, decide_eq_true HQ.out.symm⟩⟩, rfl⟩
      · have q1 : (k.toList == x.toList) = false := by rw [bytes_eqB]; exact decide_eq_false hq
        have HQ := Lib.hid hq
        clear hq
        go_wp2_with fail
        refine ⟨⟨j + 1, by omega, by go_num, Lib.hid (fun y hy => ?_), by first | rfl | trivial⟩, by simp [intOf]; omega⟩
        rw [List.take_add_one, HX.out] at hy
        rcases List.mem_append.1 hy with hy | hy
        · exact HI.out y hy
        · simp at hy
          rw [hy]
          exact fun e => HQ.out e.symm
    · obtain rfl : j = ks.length := by omega
      go_wp2_with fail
      go_ret
      refine ⟨_, rfl, .inl ⟨rfl, ?_⟩, rfl⟩
      rw [List.any_eq_false]
      intro x hx
      have := HI.out x (by rw [List.take_length]; exact hx)
      simpa using this
theorem contS_any (a : Option Addr) (cap : Nat) (ks : List ByteArray) (k : ByteArray) (w : World) (h : SsV w a ks) (hl : ks.length ≤ 1000000) :
    Calls Tryz.prog 274 #[.slice a ks.length cap, .string k] w fun e w' => e = .returned (.bool (ks.any (fun x => decide (x = k)))) ∧ w = w' := by
  have HI := Lib.hid (indexS_any a cap ks k w h hl)
  obtain ⟨q, hq⟩ : ∃ q, ks.any (fun x => decide (x = k)) = q := ⟨_, rfl⟩
  rw [hq] at HI ⊢
  clear h hq
  go_enter Tryz.func274, Tryz.ntmps274
  go_wp2_with fail
  refine HI.out.mono ?_
  rintro e w1 ⟨r, rfl, hr, rfl⟩
  rcases hr with ⟨rfl, rfl⟩ | ⟨h0, rfl⟩
  · go_wp2_with fail
    go_ret
    exact ⟨rfl, rfl⟩
  · have h1 : decide (0 ≤ r) = true := decide_eq_true h0
    go_wp2_with fail
    go_ret
    exact ⟨rfl, rfl⟩
theorem drop1_any (Bk : Nat) (ka : Option Addr) (kc : Nat) (ks : List ByteArray) (p : Pr) (w : World) (hB : w.cell? ⟨Bk, 0, none⟩ = some (.slice ka ks.length kc)) (hl : ks.length ≤ 1000000) (hk : SsV w ka ks) (hBk : Bk < w.heap.size) :
    Calls Tryz.prog 273 #[.agg #[.string p.key, .int .i64 p.v.kind, .int .i64 p.v.n, .string p.v.s], .pointer (some ⟨Bk, 0, none⟩)] w fun e w' => e = .returned (.bool (ks.any (fun x => decide (x = p.key)))) ∧ Below w.heap.size w w' := by
  obtain ⟨W, hW⟩ : ∃ W, W = w.alloc (.cells #[.string p.key, .int .i64 p.v.kind, .int .i64 p.v.n, .string p.v.s] 137) := ⟨_, rfl⟩
  have hBW : Below w.heap.size w W := by rw [hW]; exact below_box w _
  have eW : W.heap[w.heap.size]? = some (.cells #[.string p.key, .int .i64 p.v.kind, .int .i64 p.v.n, .string p.v.s] 137) := by rw [hW]; exact heap_new w _
  have hlt : w.heap.size < W.heap.size := (Array.getElem?_eq_some_iff.1 eW).1
  have k0 : W.cell? ⟨w.heap.size, 0, none⟩ = some (.string p.key) := cell_of_blk eW 0
  have k1 : W.cell? ⟨Bk, 0, none⟩ = some (.slice ka ks.length kc) := (hBW.cell (p := ⟨Bk, 0, none⟩) hBk).trans hB
  have HK := Lib.hid (contS_any ka kc ks p.key W (hk.below hBW) hl)
  have HW := Lib.hid hW
  have HBW := Lib.hid hBW
  clear hW hBW eW hB hk
  go_enter Tryz.func273, Tryz.ntmps273
  go_upto_region 1 with fail
  rw [← HW.out]
  go_wp2_with fail
  refine HK.out.mono ?_
  rintro e w1 ⟨rfl, rfl⟩
  go_wp2_with fail
  go_ret
  exact ⟨rfl, HBW.out⟩
theorem get1_any (Bk : Nat) (k : ByteArray) (p : Pr) (w : World) (hB : w.cell? ⟨Bk, 0, none⟩ = some (.string k)) (hBk : Bk < w.heap.size) :
    Calls Tryz.prog 232 #[.agg #[.string p.key, .int .i64 p.v.kind, .int .i64 p.v.n, .string p.v.s], .pointer (some ⟨Bk, 0, none⟩)] w fun e w' => e = .returned (.bool (decide (p.key = k))) ∧ Below w.heap.size w w' := by
  obtain ⟨W, hW⟩ : ∃ W, W = w.alloc (.cells #[.string p.key, .int .i64 p.v.kind, .int .i64 p.v.n, .string p.v.s] 137) := ⟨_, rfl⟩
  have hBW : Below w.heap.size w W := by rw [hW]; exact below_box w _
  have eW : W.heap[w.heap.size]? = some (.cells #[.string p.key, .int .i64 p.v.kind, .int .i64 p.v.n, .string p.v.s] 137) := by rw [hW]; exact heap_new w _
  have hlt : w.heap.size < W.heap.size := (Array.getElem?_eq_some_iff.1 eW).1
  have k0 : W.cell? ⟨w.heap.size, 0, none⟩ = some (.string p.key) := cell_of_blk eW 0
  have k1 : W.cell? ⟨Bk, 0, none⟩ = some (.string k) := (hBW.cell (p := ⟨Bk, 0, none⟩) hBk).trans hB
  obtain ⟨q, hq⟩ : ∃ q, decide (p.key = k) = q := ⟨_, rfl⟩
  have hq2 : (p.key.toList == k.toList) = q := by rw [bytes_eqB]; exact hq
  rw [hq]
  have HW := Lib.hid hW
  have HBW := Lib.hid hBW
  clear hW hBW eW hB hq
  go_enter Tryz.func232, Tryz.ntmps232
  go_upto_region 1 with fail
  rw [← HW.out]
  go_wp2_with fail
  all_goals
    go_ret
    exact ⟨rfl, HBW.out⟩
theorem eg_get1 : ∀ args w, (callFunc 232 args).run Tryz.prog w = .ok (.enter 232 args) w := enters_of Tryz.func232 (by kernel_rfl) rfl
theorem eg_drop1 : ∀ args w, (callFunc 273 args).run Tryz.prog w = .ok (.enter 273 args) w := enters_of Tryz.func273 (by kernel_rfl) rfl
/-- what a key has: its value, or none -/
def gotP (ps : List Pr) (k : ByteArray) : Value := match getP ps k with
  | some p => .tuple #[.agg #[.int .i64 p.v.kind, .int .i64 p.v.n, .string p.v.s], .bool true]
  | none => .tuple #[.agg #[.int .i64 0, .int .i64 0, .string ⟨#[]⟩], .bool false]
set_option maxRecDepth 100000 in
set_option maxHeartbeats 2000000 in
theorem pget_any (a : Option Addr) (cap : Nat) (ps : List Pr) (k : ByteArray) (w : World) (h : PsV w a ps) (hl : ps.length ≤ 100000) :
    Calls Tryz.prog 135 #[.slice a ps.length cap, .string k] w fun e w' => e = .returned (gotP ps k) ∧ Below w.heap.size w w' := by
  obtain ⟨W, hW⟩ : ∃ W, W = (w.alloc (.cells #[.string k] 9)).alloc (.cells #[.int .i64 0, .int .i64 0, .string ⟨#[]⟩] 98) := ⟨_, rfl⟩
  have hBW : Below w.heap.size w W := by rw [hW]; exact (below_box w _).alloc (by simp) _
  have eW : W.heap[w.heap.size]? = some (.cells #[.string k] 9) := by rw [hW]; exact (Below.heap_alloc _ _ _ (by simp)).trans (heap_new w _)
  have eV : W.heap[w.heap.size + 1]? = some (.cells #[.int .i64 0, .int .i64 0, .string ⟨#[]⟩] 98) := by rw [hW]; exact heap_new2 w _ _
  have hlt : w.heap.size < W.heap.size := (Array.getElem?_eq_some_iff.1 eW).1
  have k0 : W.cell? ⟨w.heap.size, 0, none⟩ = some (.string k) := cell_of_blk eW 0
  have hidx := idxPr_by 232 #[.pointer (some ⟨w.heap.size, 0, none⟩)] (fun p => decide (p.key = k)) a cap ps W eg_get1 (h.below hBW).kP (by omega) (fun W' x _ hb => get1_any w.heap.size k x W' (below_cell hb 0 hlt k0) (Nat.lt_of_lt_of_le hlt hb.size))
  have HI := Lib.hid hidx
  have HV := Lib.hid (h.below hBW)
  have HW := Lib.hid hW
  have HBW := Lib.hid hBW
  have HEV := Lib.hid eV
  clear hW hBW eW eV hidx h k0 hlt
  go_enter Tryz.func135, Tryz.ntmps135
  go_upto_region 1 with fail
  rw [← HW.out]
  go_wp2_with fail
  refine HI.out.mono ?_
  rintro e w1 ⟨rfl, hb1⟩
  have hbv := (hb1.block _ (Array.getElem?_eq_some_iff.1 HEV.out).1).trans HEV.out
  have z0 := cell_of_blk hbv 0
  have z1 := cell_of_blk hbv 1
  have z2 := cell_of_blk hbv 2
  have y0 := frozen_of_blk hbv 0
  have y1 := frozen_of_blk hbv 1
  have y2 := frozen_of_blk hbv 2
  simp at z0 z1 z2
  have HB1 : Hid (Below w.heap.size w w1) := Lib.hid (below_then HBW.out hb1)
  have hm : ∀ (x y z : Value) (W9 : World), W9 = ((w1.setCell ⟨w.heap.size + 1, 0, none⟩ x).setCell ⟨w.heap.size + 1, 1, none⟩ y).setCell ⟨w.heap.size + 1, 2, none⟩ z → Below w.heap.size w W9 ∧ W9.cell? ⟨w.heap.size + 1, 0, none⟩ = some x ∧ W9.cell? ⟨w.heap.size + 1, 1, none⟩ = some y ∧ W9.cell? ⟨w.heap.size + 1, 2, none⟩ = some z := fun x y z W9 e9 => by
    subst e9
    have hb9 := blk_setCell (blk_setCell (blk_setCell hbv x (i := 0)) y (i := 1)) z (i := 2)
    exact ⟨((HB1.out.setCell (p := ⟨w.heap.size + 1, 0, none⟩) (by simp) _).setCell (p := ⟨w.heap.size + 1, 1, none⟩) (by simp) _).setCell (p := ⟨w.heap.size + 1, 2, none⟩) (by simp) _, by rw [cell_of_blk hb9]; rfl, by rw [cell_of_blk hb9]; rfl, by rw [cell_of_blk hb9]; rfl⟩
  have HM := Lib.hid hm
  clear hm hbv HI
  rcases find_idxG (fun p => decide (p.key = k)) ps with ⟨h1, h2⟩ | ⟨i, p, h1, h2, h3⟩
  · rw [h1]
    have HG : Hid (gotP ps k = .tuple #[.agg #[.int .i64 0, .int .i64 0, .string ⟨#[]⟩], .bool false]) := Lib.hid (by unfold gotP getP; rw [h2])
    clear h1 h2
    go_wp2_with fail
    obtain ⟨W9, hW9⟩ : ∃ W9, W9 = ((w1.setCell ⟨w.heap.size + 1, 0, none⟩ (.int .i64 0)).setCell ⟨w.heap.size + 1, 1, none⟩ (.int .i64 0)).setCell ⟨w.heap.size + 1, 2, none⟩ (.string ⟨#[]⟩) := ⟨_, rfl⟩
    obtain ⟨hB9, r0, r1, r2⟩ := HM.out _ _ _ W9 hW9
    rw [← hW9]
    refine bodyPost_ret (v := gotP ps k) (by rw [HG.out]; simp [results, Tryz.results135, go_sem, r0, r1, r2]) rfl ⟨rfl, hB9⟩
  · rw [h1]
    have HG : Hid (gotP ps k = .tuple #[.agg #[.int .i64 p.v.kind, .int .i64 p.v.n, .string p.v.s], .bool true]) := Lib.hid (by unfold gotP getP; rw [h3])
    obtain ⟨b, off, rfl, hat⟩ := HV.out (fun e => by rw [e] at h2; simp at h2)
    obtain ⟨c0, c1, c2, c3⟩ := (hat.of_block (hb1.block b hat.lt)).cells i p h2
    have hi := (List.getElem?_eq_some_iff.1 h2).1
    have n1 : decide ((i : Int) < 0) = false := decide_eq_false (by omega)
    clear h1 h2 h3 hat
    go_wp2_with fail
    obtain ⟨W9, hW9⟩ : ∃ W9, W9 = ((w1.setCell ⟨w.heap.size + 1, 0, none⟩ (.int .i64 p.v.kind)).setCell ⟨w.heap.size + 1, 1, none⟩ (.int .i64 p.v.n)).setCell ⟨w.heap.size + 1, 2, none⟩ (.string p.v.s) := ⟨_, rfl⟩
    obtain ⟨hB9, r0, r1, r2⟩ := HM.out _ _ _ W9 hW9
    rw [← hW9]
    refine bodyPost_ret (v := gotP ps k) (by rw [HG.out]; simp [results, Tryz.results135, go_sem, r0, r1, r2]) rfl ⟨rfl, hB9⟩
def CoPost (w : World) (ps : List Pr) (e : Ending) (w' : World) : Prop := ∃ v, e = .returned v ∧ kP.Own w' w.heap.size v ps ∧ Below w.heap.size w w'
set_option maxRecDepth 100000 in
set_option maxHeartbeats 400000 in
theorem cloneO_any (a : Option Addr) (c : Nat) (ps : List Pr) (w : World) (h : PsA w a c ps) (hl : ps.length ≤ 100000) :
    Calls Tryz.prog 174 #[.slice a ps.length c] w (CoPost w ps) := by
  cases a with
  | none =>
    obtain ⟨rfl, rfl⟩ := h.nil rfl
    have hq := nilP_none w
    clear h
    go_enter Tryz.func174, Tryz.ntmps174
    go_wp2
    go_ret
    exact ⟨_, rfl, RowK.Own.nil kP _ _, Below.refl _ _⟩
  | some a =>
    have HO : Hid (kP.Own (w.alloc (.cells #[] 137)) w.heap.size (.slice (some ⟨w.heap.size, 0, none⟩) 0 0) []) := Lib.hid (RowK.Own.new (k := kP) (heap_new w _) (Nat.le_refl _) rfl (Nat.zero_le _))
    have HV := Lib.hid (h.below (below_box w (.cells #[] 137)))
    have HL := Lib.hid hl
    have hq := nilP_some a ps.length c w
    clear h hl
    go_enter Tryz.func174, Tryz.ntmps174
    go_wp2_with (at_builtin; refine RowK.wpList_app (k := kP) rfl (.tmp 5) (.tmp 6) rfl rfl HO.out (some a) ps.length ps c rfl rfl HV.out.v.kP (fun e => by cases e) (by have := HL.out; simp; omega) (by simp) ?_; intro v8 w8 hA; have HA8 := Lib.hid hA; clear hA)
    obtain ⟨oA, gA, kA⟩ := HA8.out
    rw [List.nil_append] at oA
    have HP := Lib.hid oA
    obtain ⟨a2, c2, rfl⟩ := oA.shape
    have HB : Hid (Below w.heap.size w w8) := Lib.hid ((below_box w (.cells #[] 137)).grown gA (by simp) (fun j hj => (HO.out.lt j hj).1))
    clear oA gA kA
    go_wp2_with fail
    go_ret
    exact ⟨_, rfl, HP.out, HB.out⟩
theorem own_psA {w : World} {B c : Nat} {a : Option Addr} {ps : List Pr} (h : kP.Own w B (.slice a ps.length c) ps) (ok : ∀ p ∈ ps, p.Ok) : PsA w a c ps :=
  ⟨psV_own h ok, fun e => by
    subst e
    exact ⟨h.noneCap, Classical.byContradiction fun hn => by
      obtain ⟨b, off, e, _⟩ := h.toV hn
      cases e⟩⟩
theorem delPr_nil (g : Nat) (cb : Array Value) (w : World) (eg : ∀ args w, (callFunc g args).run Tryz.prog w = .ok (.enter g args) w) :
    Calls Tryz.prog 272 #[.slice none 0 0, .func (.func g) #[] cb] w fun e w' => e = .returned (.slice none 0 0) ∧ Below w.heap.size w w' := by
  have HI := Lib.hid (idxPr_by g cb (fun _ => false) none 0 [] w eg (fun hn => absurd rfl hn) (by simp) (fun W x hx => by simp at hx))
  go_enter Tryz.func272, Tryz.ntmps272
  go_wp2_with fail
  refine HI.out.mono ?_
  rintro e w1 ⟨rfl, hb⟩
  have h1' : idxG (fun _ : Pr => false) [] 0 = -1 := rfl
  rw [h1']
  clear h1'
  go_wp2_with fail
  go_ret
  exact ⟨rfl, hb⟩
/-- properties that a call hands back, in memory of its own -/
def PsPost (w : World) (ps : List Pr) (e : Ending) (w' : World) : Prop := ∃ a c, e = .returned (.slice a ps.length c) ∧ PsB w' w.heap.size a c ps ∧ Below w.heap.size w w'
set_option maxRecDepth 100000 in
set_option maxHeartbeats 2000000 in
theorem pdrop_any (a ka : Option Addr) (c kc : Nat) (ps : List Pr) (ks : List ByteArray) (w : World) (h : PsA w a c ps) (hl : ps.length ≤ 100000) (hk : SsV w ka ks) (hkl : ks.length ≤ 1000000) :
    Calls Tryz.prog 171 #[.slice a ps.length c, .slice ka ks.length kc] w (PsPost w (dropP ps ks)) := by
  obtain ⟨W, hW⟩ : ∃ W, W = w.alloc (.cells #[.slice ka ks.length kc] 31) := ⟨_, rfl⟩
  have hBW : Below w.heap.size w W := by rw [hW]; exact below_box w _
  have eW : W.heap[w.heap.size]? = some (.cells #[.slice ka ks.length kc] 31) := by rw [hW]; exact heap_new w _
  have HOK := Lib.hid h.v.ok
  have HC := Lib.hid (cloneO_any a c ps W (h.below hBW) hl)
  have HK := Lib.hid (hk.below hBW)
  have HW := Lib.hid hW
  have HBW := Lib.hid hBW
  have HEW := Lib.hid eW
  clear hW hBW eW h hk
  go_enter Tryz.func171, Tryz.ntmps171
  go_upto_region 1 with fail
  rw [← HW.out]
  go_wp2_with fail
  refine HC.out.mono ?_
  rintro e w1 ⟨v, rfl, ho, hb⟩
  have HB1 := Lib.hid hb
  have HO1 := Lib.hid ho
  rcases ho.2 with ⟨hv, hn⟩ | ⟨g, cap, cur, hv, hg, _⟩
  · have hps : ps = [] := List.eq_nil_of_length_eq_zero hn
    have HPS := Lib.hid hps
    subst hv
    clear hn hps hb ho HO1
    go_wp2_with fail
    refine (delPr_nil 273 #[.pointer (some ⟨w.heap.size, 0, none⟩)] w1 eg_drop1).mono ?_
    rintro e w2 ⟨rfl, hb2⟩
    go_wp2_with fail
    go_ret
    unfold PsPost
    rw [show dropP ps ks = [] by rw [HPS.out]; rfl]
    exact ⟨none, 0, rfl, ⟨⟨fun h => absurd rfl h, fun _ => ⟨rfl, rfl⟩⟩, fun _ _ e => by cases e⟩, below_then (below_then HBW.out HB1.out) hb2⟩
  · have hlt : w.heap.size < W.heap.size := (Array.getElem?_eq_some_iff.1 HEW.out).1
    subst hv
    have HG := Lib.hid hg
    have hd := delPr_by 273 #[.pointer (some ⟨w.heap.size, 0, none⟩)] (fun p => ks.any (fun x => decide (x = p.key))) g cap ps w1 W.heap.size eg_drop1 ho (by omega) (fun W' x _ hc => by
      have hne : w.heap.size ≠ g := by omega
      have e1 := (hc.block _ (Nat.lt_of_lt_of_le hlt hb.size) hne).trans ((hb.block _ hlt).trans HEW.out)
      refine drop1_any w.heap.size ka kc ks x W' (by rw [cell_of_blk e1]; rfl) hkl ?_ (Array.getElem?_eq_some_iff.1 e1).1
      intro hn
      obtain ⟨b, off, e, hat⟩ := HK.out hn
      have hbl : b < W.heap.size := hat.lt
      exact ⟨b, off, e, hat.of_block ((hc.block b (Nat.lt_of_lt_of_le hbl hb.size) (by omega)).trans (hb.block b hbl))⟩)
    have HD := Lib.hid hd
    clear hd hg hb ho
    go_wp2_with fail
    refine HD.out.mono ?_
    rintro e w2 ⟨rfl, ho2, hc2⟩
    have HR : Hid (PsB w2 w.heap.size (some ⟨g, 0, none⟩) cap (dropP ps ks) ∧ Below w.heap.size w w2) := Lib.hid ⟨⟨own_psA ho2 (fun p hp => HOK.out p (List.mem_filter.1 hp).1), fun b off e => by
      injection e with e
      injection e with e
      have := HG.out
      have := HBW.out.size
      omega⟩, (below_then HBW.out HB1.out).trans (hc2.below (Nat.le_trans HBW.out.size HB1.out.size) (fun i hi => by have := HG.out; have := HBW.out.size; omega))⟩
    clear ho2 hc2
    go_wp2_with fail
    go_ret
    exact ⟨_, _, rfl, HR.out.1, HR.out.2⟩
end Go.Proofs.YtonilojjahfboaaGreat
namespace Go.Proofs.YtonilojjahfboaaGreat
open Go.RowKit Go.Maps

def BinPost (w : World) (l : List Pr) (k : ByteArray) (e : Ending) (w' : World) : Prop :=
  ∃ (n : Nat) (q : Bool), e = .returned (.tuple #[.int .i64 n, .bool q]) ∧ AtP l k n ∧ (q = true → ∃ p, l[n]? = some p ∧ kcmp p.key k = 0) ∧ (q = false → ∀ p, l[n]? = some p → kcmp p.key k ≠ 0) ∧ Below w.heap.size w w'
set_option maxRecDepth 100000 in
set_option maxHeartbeats 2000000 in
theorem binP_any (a : Option Addr) (cap : Nat) (l : List Pr) (k : ByteArray) (w : World) (h : PsV w a l) (hu : UpP l) (hl : l.length ≤ 100000) (hk : k.size ≤ 2000000) :
    Calls Tryz.prog 268 #[.slice a l.length cap, .string k, .func (.func 269) #[] #[]] w (BinPost w l k) := by
  have HR := Lib.hid h
  have HU := Lib.hid hu
  have HK := Lib.hid hk
  clear h hu hk
  go_enter Tryz.func268, Tryz.ntmps268
  go_wp2_with fail
  go_loopw [9, 10] (fun i j wr => ∃ lo hi : Nat, i = .int .i64 lo ∧ j = .int .i64 hi ∧ lo ≤ hi ∧ hi ≤ l.length ∧ Hid ((∀ t p, t < lo → l[t]? = some p → kcmp p.key k < 0) ∧ (∀ t p, hi ≤ t → l[t]? = some p → 0 ≤ kcmp p.key k)) ∧ Below w.heap.size w wr) (fun i j _ => (intOf j).toNat - (intOf i).toNat)
  case atStart => exact ⟨0, l.length, rfl, rfl, Nat.zero_le _, Nat.le_refl _, Lib.hid ⟨fun t p ht => absurd ht (Nat.not_lt_zero _), fun t p ht hp => by have := (List.getElem?_eq_some_iff.1 hp).1; omega⟩, Below.refl _ _⟩
  case round =>
    obtain ⟨lo, hi, rfl, rfl, hlh, hin, HI, hbr⟩ := hrel
    by_cases hlt : lo < hi
    · obtain ⟨m, hm⟩ : ∃ m, m = (lo + hi) / 2 := ⟨_, rfl⟩
      have hmz : ((lo : Int) + (hi : Int)) / 2 = (m : Int) := by omega
      have hml : m < l.length := by omega
      have HMM : Hid (lo ≤ m ∧ m < hi) := Lib.hid (by omega)
      obtain ⟨x, hx⟩ : ∃ x, l[m]? = some x := ⟨_, List.getElem?_eq_getElem hml⟩
      obtain ⟨b, off, rfl, hat⟩ := HR.out (fun e => by rw [e] at hx; simp at hx)
      obtain ⟨c0, c1, c2, c3⟩ := (hat.of_block (hbr.block b hat.lt)).cells m x hx
      have HX := Lib.hid hx
      have hok := hat.ok x (List.mem_of_getElem? hx)
      have HC := Lib.hid (by_any x k wr hok.key HK.out)
      have HM := Lib.hid hm
      have hmlz : (m : Int) < (l.length : Int) := by omega
      obtain ⟨z, hz⟩ : ∃ z, cmpL (runes x.key) (runes k) = z := ⟨_, rfl⟩
      have HZ : Hid (kcmp x.key k = z) := Lib.hid hz
      rw [hz] at HC
      clear hx hat hm hok hz
      by_cases hq : z < 0
      · have t1 : decide (z < 0) = true := decide_eq_true hq
        go_wp2_with (go_at_call 269; refine HC.out.mono ?_; rintro e w1 ⟨rfl, b1⟩; have HB1 := Lib.hid (below_then hbr b1); clear b1)
        refine ⟨⟨m + 1, hi, by go_num, rfl, by have := HMM.out; omega, hin, Lib.hid ⟨fun t p ht hp => ?_, HI.out.2⟩, HB1.out⟩, by have := HMM.out; simp [intOf]; omega⟩
        rcases Nat.lt_succ_iff_lt_or_eq.1 ht with h | rfl
        · have := HU.out.lt hp HX.out h
          exact kcmp_trans this (by rw [HZ.out]; exact hq)
        · rw [HX.out] at hp; cases hp; rw [HZ.out]; exact hq
      · have t1 : decide (z < 0) = false := decide_eq_false hq
        go_wp2_with (go_at_call 269; refine HC.out.mono ?_; rintro e w1 ⟨rfl, b1⟩; have HB1 := Lib.hid (below_then hbr b1); clear b1)
        refine ⟨⟨lo, m, rfl, rfl, by have := HMM.out; omega, by omega, Lib.hid ⟨HI.out.1, fun t p ht hp => ?_⟩, HB1.out⟩, by have := HMM.out; simp [intOf]; omega⟩
        rcases Nat.lt_or_eq_of_le ht with h | rfl
        · have h1 := HU.out.lt HX.out hp h
          have h2 := HZ.out
          rcases Int.lt_or_eq_of_le (show 0 ≤ z by omega) with h3 | h3
          · have := kcmp_trans (a := k) (by rw [kcmp_neg, h2]; omega) h1
            rw [kcmp_neg]; omega
          · have := kcmp_eq_left (c := p.key) (h2.trans (show z = 0 by omega))
            rw [kcmp_neg]; omega
        · rw [HX.out] at hp; cases hp; rw [HZ.out]; omega
    · obtain rfl : hi = lo := by omega
      have HAT : Hid (AtP l k hi) := Lib.hid ⟨hin, HI.out.1, HI.out.2⟩
      by_cases hn : hi < l.length
      · obtain ⟨x, hx⟩ : ∃ x, l[hi]? = some x := ⟨_, List.getElem?_eq_getElem hn⟩
        obtain ⟨b, off, rfl, hat⟩ := HR.out (fun e => by rw [e] at hx; simp at hx)
        obtain ⟨c0, c1, c2, c3⟩ := (hat.of_block (hbr.block b hat.lt)).cells hi x hx
        have HX := Lib.hid hx
        have hok := hat.ok x (List.mem_of_getElem? hx)
        have HC := Lib.hid (by_any x k wr hok.key HK.out)
        have hnz : (hi : Int) < (l.length : Int) := by omega
        obtain ⟨z, hz⟩ : ∃ z, cmpL (runes x.key) (runes k) = z := ⟨_, rfl⟩
        have HZ : Hid (kcmp x.key k = z) := Lib.hid hz
        rw [hz] at HC
        clear hx hat hok hz
        by_cases hq : z = 0
        · have t1 : (z == 0) = true := by simpa using hq
          go_wp2_with (go_at_call 269; refine HC.out.mono ?_; rintro e w1 ⟨rfl, b1⟩; have HB1 := Lib.hid (below_then hbr b1); clear b1)
          go_ret2
          exact ⟨hi, true, rfl, HAT.out, fun _ => ⟨x, HX.out, by rw [HZ.out]; exact hq⟩, fun e => (by cases e), HB1.out⟩
        · have t1 : (z == 0) = false := by simpa using hq
          go_wp2_with (go_at_call 269; refine HC.out.mono ?_; rintro e w1 ⟨rfl, b1⟩; have HB1 := Lib.hid (below_then hbr b1); clear b1)
          go_ret2
          exact ⟨hi, false, rfl, HAT.out, fun e => (by cases e), fun _ p hp => by rw [HX.out] at hp; cases hp; rw [HZ.out]; exact hq, HB1.out⟩
      · go_wp2_with fail
        go_ret2
        exact ⟨hi, false, rfl, HAT.out, fun e => (by cases e), fun _ p hp => absurd (List.getElem?_eq_some_iff.1 hp).1 hn, hbr⟩
theorem over_app {α : Type} {A B M C : List α} {o : Nat} (ho : o = A.length) (h : B.length = M.length) : RowK.over (A ++ (B ++ C)) o M = A ++ (M ++ C) := by
  subst ho
  unfold RowK.over
  rw [List.take_left' rfl, ← List.append_assoc A B C, List.drop_left' (by rw [List.length_append, h])]
theorem over_end {α : Type} {A B M : List α} {o : Nat} (ho : o = A.length) (h : B.length ≤ M.length) : RowK.over (A ++ B) o M = A ++ M := by
  subst ho
  unfold RowK.over
  rw [List.take_left' rfl, List.drop_of_length_le (by rw [List.length_append]; omega), List.append_nil]
theorem grow_list {l : List Pr} {i : Nat} (hi : i ≤ l.length) (z x : Pr) : RowK.over (RowK.over (l.take i ++ List.replicate (l.length + 1 - i) z) i [x]) (i + 1) (l.drop i) = l.take i ++ x :: l.drop i := by
  have e1 : (l.take i).length = i := by rw [List.length_take]; omega
  have e2 : List.replicate (l.length + 1 - i) z = [z] ++ List.replicate (l.length - i) z := by
    rw [show l.length + 1 - i = (l.length - i) + 1 by omega]; rfl
  rw [e2, over_app (B := [z]) (M := [x]) e1.symm rfl]
  have e3 : l.take i ++ ([x] ++ List.replicate (l.length - i) z) = (l.take i ++ [x]) ++ List.replicate (l.length - i) z := by simp
  rw [e3, over_end (by simp; omega) (by simp)]
  simp
theorem place_list {l : List Pr} {i : Nat} (hi : i < l.length) (x : Pr) : RowK.over (RowK.over l (i + 1) (l.drop i)) i [x] = l.take i ++ x :: l.drop i := by
  have e1 : (l.take i).length = i := by rw [List.length_take]; omega
  have e0 : l = (l.take i ++ [l[i]]) ++ l.drop (i + 1) := by
    rw [List.append_assoc]
    show l = l.take i ++ (l[i] :: l.drop (i + 1))
    rw [← List.drop_eq_getElem_cons hi, List.take_append_drop]
  have e2 : RowK.over l (i + 1) (l.drop i) = (l.take i ++ [l[i]]) ++ l.drop i := by
    conv => lhs; rw [e0]
    have e4 : ((l.take i ++ [l[i]]) ++ l.drop (i + 1)).drop i = l.drop i := by rw [← e0]
    rw [e4]
    exact over_end (by simp; omega) (by simp; omega)
  rw [e2, List.append_assoc, over_app (B := [l[i]]) (M := [x]) e1.symm rfl]
  rfl
def InsPost (w : World) (B : Nat) (S : Nat → Prop) (l : List Pr) (e : Ending) (w' : World) : Prop := ∃ v', e = .returned v' ∧ kP.Own w' B v' l ∧ Chg w w' S
theorem kP_one {w : World} {vb : Nat} {x : Pr} (hv : w.heap[vb]? = some (.cells #[.string x.key, .int .i64 x.v.kind, .int .i64 x.v.n, .string x.v.s] 137 (0, 0))) : kP.At w vb 0 [x] :=
  RowK.new_at (k := kP) hv rfl
set_option maxRecDepth 100000 in
set_option maxHeartbeats 2000000 in
theorem insP_end (cap vb : Nat) (a : Option Addr) (l : List Pr) (x : Pr) (w : World) (B : Nat) (h : kP.Own w B (.slice a l.length cap) l) (hl : l.length ≤ 100000) (hv : w.heap[vb]? = some (.cells #[.string x.key, .int .i64 x.v.kind, .int .i64 x.v.n, .string x.v.s] 137 (0, 0))) (hB : B ≤ w.heap.size) :
    Calls Tryz.prog 270 #[.slice a l.length cap, .int .i64 l.length, .slice (some ⟨vb, 0, none⟩) 1 1] w (InsPost w B (fun j => Value.ownBlock (.slice a l.length cap) = some j) (l ++ [x])) := by
  have HO := Lib.hid h
  have HV : Hid (kP.V w (some ⟨vb, 0, none⟩) [x]) := Lib.hid (fun _ => ⟨vb, 0, rfl, kP_one hv⟩)
  have HBB := Lib.hid hB
  have HL := Lib.hid hl
  have hcap := h.cap
  have hcz : (l.length : Int) ≤ (cap : Int) := by omega
  clear h hv hB
  cases a with
  | none =>
    obtain rfl : cap = 0 := HO.out.noneCap
    obtain rfl : l = [] := List.eq_nil_of_length_eq_zero (by omega)
    have HO2 : Hid (kP.Own w B (.slice none 0 0) []) := Lib.hid HO.out
    clear hcap hcz hl HL
    show Calls Tryz.prog 270 #[.slice none 0 0, .int .i64 0, .slice (some ⟨vb, 0, none⟩) 1 1] w (InsPost w B (fun j => Value.ownBlock (.slice none 0 0) = some j) ([] ++ [x]))
    go_enter Tryz.func270, Tryz.ntmps270
    go_wp2_with (at_builtin; refine RowK.wpList_app (k := kP) rfl (.tmp 23) (.tmp 24) rfl rfl HO2.out (some ⟨vb, 0, none⟩) 1 [x] 1 rfl rfl HV.out (fun e => by cases e) (by simp) HBB.out ?_; intro v8 w8 hA; have HA8 := Lib.hid hA; clear hA)
    go_ret
    exact ⟨_, rfl, HA8.out.1, (Chg.refl w _).grown HA8.out.2.1 (fun m e _ => e)⟩
  | some a =>
    obtain ⟨a', c', e⟩ := HO.out.shape
    have hg : ∃ g, a = ⟨g, 0, none⟩ := by
      rcases HO.out.2 with ⟨h1, _⟩ | ⟨g, cp, cur, h1, _⟩
      · cases h1
      · injection h1 with e1
        injection e1 with e1
        exact ⟨g, e1⟩
    obtain ⟨g, rfl⟩ := hg
    clear e
    by_cases hci : cap = l.length
    · have hci' : ¬ l.length < cap := by omega
      go_enter Tryz.func270, Tryz.ntmps270
      go_upto_region 7 with fail
      go_wp2_with (at_builtin; refine RowK.wpList_app (k := kP) rfl (.tmp 23) (.tmp 24) rfl rfl HO.out (some ⟨vb, 0, none⟩) 1 [x] 1 rfl rfl HV.out (fun e => by cases e) (by have := HL.out; simp; omega) HBB.out ?_; intro v8 w8 hA; have HA8 := Lib.hid hA; clear hA)
      go_ret
      exact ⟨_, rfl, HA8.out.1, (Chg.refl w _).grown HA8.out.2.1 (fun m e _ => e)⟩
    · have hci' : l.length < cap := by omega
      go_enter Tryz.func270, Tryz.ntmps270
      go_upto_region 7 with fail
      go_wp2_with (at_builtin; refine RowK.wpList_app (k := kP) rfl (.tmp 23) (.tmp 24) rfl rfl HO.out (some ⟨vb, 0, none⟩) 1 [x] 1 rfl rfl HV.out (fun e => by cases e) (by have := HL.out; simp; omega) HBB.out ?_; intro v8 w8 hA; have HA8 := Lib.hid hA; clear hA)
      go_ret
      exact ⟨_, rfl, HA8.out.1, (Chg.refl w _).grown HA8.out.2.1 (fun m e _ => e)⟩
theorem overlapsP_no (w : World) (vb g o la ca lb cb : Nat) (cs : Array Value) (cur : Array Value) (hne : vb ≠ g) (hv : w.heap[vb]? = some (.cells cs 137 (0, 0))) (hg : w.heap[g]? = some (.cells cur 137 (0, 0))) (h0 : cur.size ≠ 0) :
    (callFunc 340 #[.slice (some ⟨vb, 0, none⟩) la ca, .slice (some ⟨g, o, none⟩) lb cb]).run Tryz.prog w = .ok (.value (.bool false)) w := by
  have hsa : w.shape? vb = some (137, cs.size) := by simp [World.shape?, hv]
  have hsb : w.shape? g = some (137, cur.size) := by simp [World.shape?, hg]
  rw [run_callFunc_extern Tryz.func340 (by kernel_rfl) (by kernel_rfl) (by kernel_rfl) (e := Extern.SlicesOverlaps.overlaps #[26, 26] #[4]) (by kernel_rfl),
    Lib.run_overlaps_apart w 26 4 137 Tryz.underlying26 4 Tryz.sizeOf137 ⟨vb, 0, none⟩ ⟨g, o, none⟩ la ca lb cb hne 137 137 cs.size cur.size hsa hsb h0 (frozen_of_blk hv _) (frozen_of_blk hv _)]
  rfl
end Go.Proofs.YtonilojjahfboaaGreat
namespace Go.Proofs.YtonilojjahfboaaGreat
open Go.RowKit Go.Maps

set_option maxRecDepth 100000 in
set_option maxHeartbeats 4000000 in
theorem insP_mid (g cap vb i : Nat) (l : List Pr) (x : Pr) (w : World) (B : Nat) (h : kP.Own w B (.slice (some ⟨g, 0, none⟩) l.length cap) l) (hi : i < l.length) (hl : l.length ≤ 100000) (hv : w.heap[vb]? = some (.cells #[.string x.key, .int .i64 x.v.kind, .int .i64 x.v.n, .string x.v.s] 137 (0, 0))) (hne : vb ≠ g) (hB : B ≤ w.heap.size) :
    Calls Tryz.prog 270 #[.slice (some ⟨g, 0, none⟩) l.length cap, .int .i64 i, .slice (some ⟨vb, 0, none⟩) 1 1] w (InsPost w B (fun j => j = g) (l.take i ++ x :: l.drop i)) := by
  have HO := Lib.hid h
  have HVB := Lib.hid hv
  have HBB := Lib.hid hB
  have HL := Lib.hid hl
  have hcap := h.cap
  obtain ⟨cur, hg, hcs, _⟩ := h.blk
  have HG := Lib.hid hg
  have HCS : Hid (cur.size ≠ 0) := Lib.hid (by rw [hcs]; show cap * 4 ≠ 0; omega)
  have hci : ¬ cap = i := by omega
  have hci' : ¬ i = cap := by omega
  have hc0 : ¬ cap = 0 := by omega
  have hiz : ((i : Int) == (l.length : Int)) = false := by simp; omega
  have hiz2 : (i : Int) ≤ (l.length : Int) := by omega
  have hicz : (i : Int) ≤ (cap : Int) := by omega
  have hn1 : IntKind.i64.wrap ((l.length : Int) + 1) = (l.length : Int) + 1 := by rw [IntKind.wrap_i64]; omega
  clear h hv hB hg hcs
  by_cases hr : cap < l.length + 1
  · have t1 : decide ((cap : Int) < (l.length : Int) + 1) = true := decide_eq_true (by omega)
    obtain ⟨m, hm⟩ : ∃ m, m = l.length + 1 - i := ⟨_, rfl⟩
    have hmz : (l.length : Int) + 1 - (i : Int) = (m : Int) := by omega
    have hat : kP.At w g 0 l := by
      obtain ⟨b', c', e, _, _, hat⟩ := HO.out.at' (fun e => by rw [e] at hi; simp at hi)
      injection e with e1
      injection e1 with e1
      injection e1 with e1
      subst e1
      exact hat
    obtain ⟨w1, gc, hrun, ho1, hb1, hs1⟩ := RowK.run_grow (k := kP) (B := B) (w := w) (l := l) ⟨ByteArray.empty, ⟨0, 0, ByteArray.empty⟩⟩ rfl 3 Tryz.underlying3 26 g 0 cap hat (i := i) (m := m) (by omega) (by omega) (by omega) (by omega) HBB.out
    obtain ⟨nb, hnb⟩ : ∃ nb, nb = w.heap.size := ⟨_, rfl⟩
    rw [← hnb] at hrun ho1
    have hgl := (Array.getElem?_eq_some_iff.1 HG.out).1
    have hvl := (Array.getElem?_eq_some_iff.1 HVB.out).1
    have e1 : (l.take i).length = i := by rw [List.length_take]; omega
    have hX0 : (l.take i ++ List.replicate m (⟨ByteArray.empty, ⟨0, 0, ByteArray.empty⟩⟩ : Pr)).length = l.length + 1 := by rw [List.length_append, e1, List.length_replicate]; omega
    have hgc := ho1.cap
    rw [hX0] at hgc
    obtain ⟨w2, hw2⟩ : ∃ w2, w2 = w1.setCells nb (i * kP.size) (kP.cells [x]) := ⟨_, rfl⟩
    have ho2 : kP.Own w2 B (.slice (some ⟨nb, 0, none⟩) (i + m) gc) (RowK.over (l.take i ++ List.replicate m ⟨ByteArray.empty, ⟨0, 0, ByteArray.empty⟩⟩) i [x]) := by
      rw [hw2]
      exact ho1.lay (by rw [hX0]; omega) [x] (by simp; omega) _ (by rw [RowK.over_len (by rw [hX0]; omega), hX0]; simp; omega)
    have hx2 := RowK.over_len (l := l.take i ++ List.replicate m ⟨ByteArray.empty, ⟨0, 0, ByteArray.empty⟩⟩) (o := i) (m := [x]) (by rw [hX0]; omega)
    rw [hX0] at hx2
    obtain ⟨w3, hw3⟩ : ∃ w3, w3 = w2.drew.setCells nb ((i + 1) * kP.size) (kP.cells (l.drop i)) := ⟨_, rfl⟩
    have ho3 : kP.Own w3 B (.slice (some ⟨nb, 0, none⟩) (i + m) gc) (l.take i ++ x :: l.drop i) := by
      have := ho2.drew.lay (o := i + 1) (by rw [hx2]; simp; omega) (l.drop i) (by simp; omega) (i + m) (by rw [RowK.over_len (by rw [hx2]; simp; omega), hx2]; simp; omega)
      rw [hm, grow_list (Nat.le_of_lt hi), ← hm, ← hw3] at this
      exact this
    have hb2 : Below w.heap.size w w2 := by
      rw [hw2]
      exact hb1.trans ((RowK.chg_setCells nb _ _ w1).below hb1.size (fun j e => by omega))
    have hb3 : Below w.heap.size w w3 := by
      rw [hw3]
      exact hb2.drew.trans ((RowK.chg_setCells nb _ _ w2.drew).below hb2.size (fun j e => by omega))
    have hsv : ∀ j u, (kP.cells [x])[j]? = some u → w1.cell? ⟨vb, 0 + j, none⟩ = some u := fun j u hu => by
      obtain ⟨q, r, y, h1, _, h3, h4⟩ := kP.cells_split _ j u hu
      have := ((kP_one HVB.out).below hb1).cells q y h3 r u h4
      rw [h1, ← Nat.add_assoc]; exact this
    have hsd : ∀ j u, (kP.cells (l.drop i))[j]? = some u → w2.drew.cell? ⟨g, i * kP.size + j, none⟩ = some u := fun j u hu => by
      have hB2 : w2.heap[g]? = w.heap[g]? := hb2.block g hgl
      have hu' : (kP.cells ((l.drop i).take (l.length - i)))[j]? = some u := by rw [List.take_of_length_le (by rw [List.length_drop]; omega)]; exact hu
      exact (World.cell?_of_block (a := ⟨g, i * kP.size + j, none⟩) (w := w) (w' := w2.drew) hB2).trans (HO.out.piece hu')
    have HO1 := Lib.hid ho1
    have HO2 := Lib.hid ho2
    have HO3 := Lib.hid ho3
    have HW2 := Lib.hid hw2
    have HW3 := Lib.hid hw3
    have HB3 := Lib.hid hb3
    have HSV := Lib.hid hsv
    have HSD := Lib.hid hsd
    have HM := Lib.hid hm
    have HX0 := Lib.hid hX0
    have HNB := Lib.hid hnb
    have hgi : ¬ gc = i := by omega
    have hgi' : ¬ gc = i + 1 := by omega
    have hgz : (i : Int) ≤ (i : Int) + (m : Int) := by omega
    have hgz1 : (i : Int) + 1 ≤ (i : Int) + (m : Int) := by omega
    have hgz2 : (i : Int) + (m : Int) ≤ (gc : Int) := by omega
    clear hsv hsd hw2 hw3 ho1 ho2 ho3 hb1 hb2 hb3 hX0 hx2 e1 hm hat hs1 hnb
    have cp1 : ∀ ty, (Builtin.copy_ #[26, 26] ty #[.slice (some ⟨nb, i * 4, none⟩) m (gc - i), .slice (some ⟨vb, 0, none⟩) 1 1]).run Tryz.prog w1 = .ok (.int .i64 1) w2 := fun ty => by
      rw [HW2.out]
      exact HO1.out.run_copy (o := i) [x] (by simp; omega) m (gc - i) 1 1 vb 0 (by exact (Nat.min_eq_left (show 1 ≤ m by omega)).symm) HSV.out ty
    have cp2 : ∀ ty, (Builtin.copy_ #[26, 26] ty #[.slice (some ⟨nb, (i + 1) * 4, none⟩) (i + m - (i + 1)) (gc - (i + 1)), .slice (some ⟨g, i * 4, none⟩) (l.length - i) (cap - i)]).run Tryz.prog w2.drew = .ok (.int .i64 ((l.length - i : Nat) : Int)) w3 := fun ty => by
      rw [HW3.out]
      have := HO2.out.drew.run_copy (o := i + 1) (l.drop i) (by rw [List.length_drop]; omega) (i + m - (i + 1)) (gc - (i + 1)) (l.length - i) (cap - i) g (i * 4) (by rw [List.length_drop]; exact (Nat.min_eq_left (by omega)).symm) HSD.out ty
      rw [List.length_drop] at this
      exact this
    go_enter Tryz.func270, Tryz.ntmps270
    go_upto_region 9 with fail
    go_upto_region 10 with (at_builtin; refine Lib.wpList_append_run _ rfl (.tmp 34) (.tmp 39) _ _ rfl _ _ rfl rfl _ _ hrun ?_)
    go_upto_region 11 with fail
    go_region
    all_goals
      go_wp2_with fail
      go_ret
      refine ⟨_, rfl, ?_, Chg.of_below HB3.out _⟩
      have := HO3.out
      exact this
  · have t1 : decide ((cap : Int) < (l.length : Int) + 1) = false := decide_eq_false (by omega)
    have hgl := (Array.getElem?_eq_some_iff.1 HG.out).1
    have hvl := (Array.getElem?_eq_some_iff.1 HVB.out).1
    obtain ⟨w1, hw1⟩ : ∃ w1, w1 = w.drew.setCells g ((i + 1) * kP.size) (kP.cells (l.drop i)) := ⟨_, rfl⟩
    have hy := RowK.over_len (l := l) (o := i + 1) (m := l.drop i) (by omega)
    have hy1 : (RowK.over l (i + 1) (l.drop i)).length = l.length + 1 := by rw [hy, List.length_drop]; omega
    have ho1 : kP.Own w1 B (.slice (some ⟨g, 0, none⟩) (l.length + 1) cap) (RowK.over l (i + 1) (l.drop i)) := by
      rw [hw1]
      exact HO.out.drew.lay (o := i + 1) (by omega) (l.drop i) (by rw [List.length_drop]; omega) _ hy1.symm
    obtain ⟨w2, hw2⟩ : ∃ w2, w2 = w1.setCells g (i * kP.size) (kP.cells [x]) := ⟨_, rfl⟩
    have ho2 : kP.Own w2 B (.slice (some ⟨g, 0, none⟩) (l.length + 1) cap) (l.take i ++ x :: l.drop i) := by
      have := ho1.lay (o := i) (by omega) [x] (by simp; omega) (l.length + 1) (by rw [RowK.over_len (by omega), hy1]; simp; omega)
      rw [← hw2, place_list hi] at this
      exact this
    have hc1 : Chg w w1 (fun j => j = g) := by
      rw [hw1]
      exact (Chg.refl w _).drew.trans (RowK.chg_setCells g _ _ w.drew) (fun _ _ h => h)
    have hc2 : Chg w w2 (fun j => j = g) := by
      rw [hw2]
      exact hc1.trans (RowK.chg_setCells g _ _ w1) (fun _ _ h => h)
    have cp1 : ∀ ty, (Builtin.copy_ #[26, 26] ty #[.slice (some ⟨g, (i + 1) * 4, none⟩) (l.length - i) (cap - (i + 1)), .slice (some ⟨g, i * 4, none⟩) (l.length + 1 - i) (cap - i)]).run Tryz.prog w.drew = .ok (.int .i64 ((l.length - i : Nat) : Int)) w1 := fun ty => by
      rw [hw1]
      have := HO.out.drew.run_copy (o := i + 1) (l.drop i) (by rw [List.length_drop]; omega) (l.length - i) (cap - (i + 1)) (l.length + 1 - i) (cap - i) g (i * 4) (by rw [List.length_drop]; exact ((Nat.min_eq_right (by omega)).trans (by omega)).symm) (fun j u hu => by
        have hu' : (kP.cells ((l.drop i).take (l.length - i)))[j]? = some u := by rw [List.take_of_length_le (by rw [List.length_drop]; omega)]; exact hu
        exact HO.out.drew.piece hu') ty
      rw [List.length_drop] at this
      exact this
    have cp2 : ∀ ty, (Builtin.copy_ #[26, 26] ty #[.slice (some ⟨g, i * 4, none⟩) (l.length + 1 - i) (cap - i), .slice (some ⟨vb, 0, none⟩) 1 1]).run Tryz.prog w1 = .ok (.int .i64 1) w2 := fun ty => by
      rw [hw2]
      exact ho1.run_copy (o := i) [x] (by simp; omega) (l.length + 1 - i) (cap - i) 1 1 vb 0 (Nat.min_eq_left (show 1 ≤ l.length + 1 - i by omega)).symm (fun j u hu => by
        obtain ⟨q, r, y, h1, _, h3, h4⟩ := kP.cells_split _ j u hu
        have := ((kP_one HVB.out).of_block (hc1.block vb hvl hne)).cells q y h3 r u h4
        rw [h1, ← Nat.add_assoc]; exact this) ty
    have HO2 := Lib.hid ho2
    have HC2 := Lib.hid hc2
    have hov : ∀ lb cb, (callFunc 340 #[.slice (some ⟨vb, 0, none⟩) 1 1, .slice (some ⟨g, (i + 1) * 4, none⟩) lb cb]).run Tryz.prog w = .ok (.value (.bool false)) w := fun lb cb => overlapsP_no w vb g _ 1 1 lb cb _ _ hne HVB.out HG.out HCS.out
    by_cases hcc : cap = i + 1
    · exact absurd hi (by omega)
    have hcz : (i : Int) + 1 ≤ (l.length : Int) + 1 := by omega
    have hcz2 : (l.length : Int) + 1 ≤ (cap : Int) := by omega
    have hcz3 : (i : Int) ≤ (l.length : Int) + 1 := by omega
    clear hw1 hw2 ho1 ho2 hc1 hc2 hy hy1
    go_enter Tryz.func270, Tryz.ntmps270
    go_upto_region 15 with fail
    go_region
    all_goals
      go_wp2_with fail
      go_ret
      refine ⟨_, rfl, ?_, HC2.out⟩
      exact HO2.out
end Go.Proofs.YtonilojjahfboaaGreat
namespace Go.Proofs.YtonilojjahfboaaGreat
open Go.RowKit Go.Maps

theorem insP_any (cap vb i : Nat) (a : Option Addr) (l : List Pr) (x : Pr) (w : World) (B : Nat) (h : kP.Own w B (.slice a l.length cap) l) (hi : i ≤ l.length) (hl : l.length ≤ 100000) (hv : w.heap[vb]? = some (.cells #[.string x.key, .int .i64 x.v.kind, .int .i64 x.v.n, .string x.v.s] 137 (0, 0))) (hne : ∀ g, Value.ownBlock (.slice a l.length cap) = some g → vb ≠ g) (hB : B ≤ w.heap.size) :
    Calls Tryz.prog 270 #[.slice a l.length cap, .int .i64 i, .slice (some ⟨vb, 0, none⟩) 1 1] w (InsPost w B (fun j => Value.ownBlock (.slice a l.length cap) = some j) (l.take i ++ x :: l.drop i)) := by
  by_cases he : i = l.length
  · subst he
    rw [List.take_length, List.drop_length]
    exact insP_end cap vb a l x w B h hl hv hB
  · obtain ⟨g, rfl⟩ : ∃ g, a = some ⟨g, 0, none⟩ := by
      rcases h.2 with ⟨h1, h2⟩ | ⟨g, cp, cur, h1, _⟩
      · omega
      · injection h1 with e1; exact ⟨g, e1⟩
    refine (insP_mid g cap vb i l x w B h (by omega) hl hv (hne g rfl) hB).mono ?_
    rintro e w' ⟨v', h1, h2, h3⟩
    exact ⟨v', h1, h2, h3.mono (fun j _ e => by rw [e]; rfl)⟩
/-- what Set hands back -/
def StPost (w : World) (ps news : List Pr) (e : Ending) (w' : World) : Prop :=
  Below w.heap.size w w' ∧ match setGo ps news with
  | .ok l => ∃ a c, e = .returned (.tuple #[.slice a l.length c, .int .i64 0]) ∧ PsB w' w.heap.size a c l
  | .error z => e = .returned (.tuple #[.slice none 0 0, .int .i64 z])
theorem StPost.err {w w' : World} {ps news : List Pr} {z : Int} (h : setGo ps news = .error z) (hb : Below w.heap.size w w') : StPost w ps news (.returned (.tuple #[.slice none 0 0, .int .i64 z])) w' := by
  unfold StPost
  rw [h]
  exact ⟨hb, rfl⟩
theorem StPost.okay {w w' : World} {ps news l : List Pr} {a : Option Addr} {c : Nat} (h : setGo ps news = .ok l) (hb : Below w.heap.size w w') (hp : PsB w' w.heap.size a c l) : StPost w ps news (.returned (.tuple #[.slice a l.length c, .int .i64 0])) w' := by
  unfold StPost
  rw [h]
  exact ⟨hb, a, c, rfl, hp⟩
/-- half-way -/
structure StI (w : World) (B : Nat) (ps news : List Pr) (j : Nat) (v : Value) (M : List Pr) (wr : World) : Prop where
  own : kP.Own wr B v M
  up : UpP M
  go : setGo ps news = setGo M (news.drop j)
  len : M.length ≤ ps.length + j
  ok : ∀ p ∈ M, p.Ok
  bel : Below w.heap.size w wr
theorem setGo_cons {out news : List Pr} {p : Pr} {j : Nat} (hp : news[j]? = some p) : setGo out (news.drop j) = if badS p.key = true then .error 30 else if p.v.right = false then .error 22 else setGo (putP out p) (news.drop (j + 1)) := by
  obtain ⟨h, rfl⟩ := List.getElem?_eq_some_iff.1 hp
  rw [List.drop_eq_getElem_cons h]
  rfl
theorem setGo_end {out news : List Pr} : setGo out (news.drop news.length) = if 16 < out.length then .error 32 else .ok out := by
  rw [List.drop_length]; rfl
set_option maxRecDepth 100000 in
set_option maxHeartbeats 4000000 in
theorem pset_any (a na : Option Addr) (c nc : Nat) (ps news : List Pr) (w : World) (h : PsA w a c ps) (hr : rightPs ps = true) (hn : PsV w na news) (hnl : news.length ≤ 10000) :
    Calls Tryz.prog 167 #[.slice a ps.length c, .slice na news.length nc] w (StPost w ps news) := by
  obtain ⟨hrt, hpl⟩ := rightPs_iff.1 hr
  have HOK := Lib.hid h.v.ok
  have HA := Lib.hid h
  have HN := Lib.hid hn
  have HR := Lib.hid hr
  have HUP := Lib.hid hrt.up
  have HPL := Lib.hid hpl
  have HNL := Lib.hid hnl
  clear h hn hr hrt
  go_enter Tryz.func167, Tryz.ntmps167
  go_wp2_with fail
  refine (pright_any a c ps w HA.out.v (by omega)).mono ?_
  rintro e w1 ⟨rfl, hb1⟩
  rw [HR.out]
  have HB1 := Lib.hid hb1
  clear hb1
  go_wp2_with fail
  refine (cloneO_any a c ps w1 (HA.out.below HB1.out) (by omega)).mono ?_
  rintro e w2 ⟨v, rfl, ho, hb2⟩
  obtain ⟨a0, cc0, rfl⟩ := ho.shape
  have HI0 : Hid (StI w w.heap.size ps news 0 (.slice a0 ps.length cc0) ps w2) := Lib.hid ⟨ho.mono HB1.out.size, HUP.out, rfl, by omega, HOK.out, below_then HB1.out hb2⟩
  clear ho hb2 HB1
  go_wp2_with fail
  go_loopw [6, 18] (fun vv i wr => ∃ j : Nat, ∃ a9 : Option Addr, ∃ c9 : Nat, ∃ M : List Pr, j ≤ news.length ∧ i = .int .i64 j ∧ .slice a9 M.length c9 = vv ∧ Hid (StI w w.heap.size ps news j (.slice a9 M.length c9) M wr)) (fun _ i _ => news.length - (intOf i).toNat)
  case atStart => exact ⟨0, a0, cc0, ps, by omega, rfl, rfl, HI0⟩
  case round =>
    clear HI0
    obtain ⟨j, a9, c9, M, hj, rfl, rfl, HI⟩ := hrel
    by_cases hlt : j < news.length
    · obtain ⟨p, hp⟩ : ∃ p, news[j]? = some p := ⟨_, List.getElem?_eq_getElem hlt⟩
      obtain ⟨b, off, rfl, hat⟩ := HN.out (fun e => by rw [e] at hp; simp at hp)
      obtain ⟨c0, c1, c2, c3⟩ := (hat.of_block (HI.out.bel.block b hat.lt)).cells j p hp
      have hok := hat.ok p (List.mem_of_getElem? hp)
      have HP := Lib.hid hp
      have HPO := Lib.hid hok
      clear hp hat hok
      obtain ⟨bx, hbx⟩ : ∃ bx, bx = wr.heap.size := ⟨_, rfl⟩
      obtain ⟨W, hW⟩ : ∃ W, W = wr.alloc (.cells #[.string p.key, .int .i64 p.v.kind, .int .i64 p.v.n, .string p.v.s] 137) := ⟨_, rfl⟩
      have hBW : Below wr.heap.size wr W := by rw [hW]; exact below_box wr _
      have eW : W.heap[bx]? = some (.cells #[.string p.key, .int .i64 p.v.kind, .int .i64 p.v.n, .string p.v.s] 137) := by rw [hW, hbx]; exact heap_new wr _
      have hlW : bx < W.heap.size := (Array.getElem?_eq_some_iff.1 eW).1
      have HBX := Lib.hid hbx
      have HW := Lib.hid hW
      have HBW := Lib.hid hBW
      have HEW := Lib.hid eW
      have k0 := cell_of_blk eW 0
      have k1 := cell_of_blk eW 1
      have k2 := cell_of_blk eW 2
      have k3 := cell_of_blk eW 3
      simp at k0 k1 k2 k3
      clear hbx hW hBW eW
      go_upto_region 7 with fail
      rw [← HW.out, ← HBX.out]
      clear c0 c1 c2 c3
      go_upto_region 8 with fail
      have hks : p.key.size ≤ maxLen := by have := HPO.out.key; unfold maxLen; omega
      refine (lright_one W.heap.size 1 p.key 9 (0, 0) _ (heap_new W _) hks).mono ?_
      rintro e w3 ⟨rfl, hb3⟩
      have HB3 : Hid (Below W.heap.size W w3) := Lib.hid (below_then (below_box W _) hb3)
      have KB : Hid (∀ w', Below W.heap.size W w' → w'.cell? ⟨bx, 0, none⟩ = some (.string p.key) ∧ w'.cell? ⟨bx, 1, none⟩ = some (.int .i64 p.v.kind) ∧ w'.cell? ⟨bx, 2, none⟩ = some (.int .i64 p.v.n) ∧ w'.cell? ⟨bx, 3, none⟩ = some (.string p.v.s)) := Lib.hid (fun w' hb => ⟨below_cell hb 0 hlW k0, below_cell hb 1 hlW k1, below_cell hb 2 hlW k2, below_cell hb 3 hlW k3⟩)
      obtain ⟨m0, m1, m2, m3⟩ := KB.out w3 HB3.out
      have HG := Lib.hid (setGo_cons (out := M) HP.out)
      clear hb3 k0 k1 k2 k3 hks
      obtain ⟨bq, hbq⟩ : ∃ bq, badS p.key = bq := ⟨_, rfl⟩
      rw [hbq]
      have HBQ := Lib.hid hbq
      clear hbq
      cases bq
      · go_upto_region 10 with fail
        refine (vright_one w3.heap.size 1 p.v 98 (0, 0) _ (heap_new w3 _) HPO.out.v).mono ?_
        rintro e w4 ⟨rfl, hb4⟩
        have HB4 : Hid (Below W.heap.size W w4) := Lib.hid (below_then HB3.out (below_then (below_box w3 _) hb4))
        obtain ⟨m0, m1, m2, m3⟩ := KB.out w4 HB4.out
        clear hb4
        obtain ⟨vq, hvq⟩ : ∃ vq, p.v.right = vq := ⟨_, rfl⟩
        rw [hvq]
        have HVQ := Lib.hid hvq
        clear hvq
        cases vq
        · go_wp2_with fail
          go_ret2
          exact StPost.err (by rw [HI.out.go, HG.out, HBQ.out, if_neg (by decide), HVQ.out, if_pos rfl]) (below_then HI.out.bel (below_then HBW.out HB4.out))
        · go_upto_region 12 with fail
          have HBr : Hid (Below wr.heap.size wr w4) := Lib.hid (below_then HBW.out HB4.out)
          have HO4 : Hid (kP.Own w4 w.heap.size (.slice a9 M.length c9) M) := Lib.hid (HI.out.own.below HBr.out)
          have HML : Hid (M.length ≤ 20000) := Lib.hid (by have := HI.out.len; have := HPL.out; have := HNL.out; omega)
          have hki : p.key.size ≤ 2000000 := HPO.out.key
          refine (binP_any a9 c9 M p.key w4 (psV_own HO4.out HI.out.ok) HI.out.up (by have := HML.out; omega) hki).mono ?_
          rintro e w5 ⟨n, q, rfl, hat, hq1, hq2, hb5⟩
          have HB5 : Hid (Below W.heap.size W w5) := Lib.hid (below_then HB4.out hb5)
          have HO5 : Hid (kP.Own w5 w.heap.size (.slice a9 M.length c9) M) := Lib.hid (HO4.out.below hb5)
          have HBr5 : Hid (Below wr.heap.size wr w5) := Lib.hid (below_then HBr.out hb5)
          have HAT := Lib.hid hat
          have HG5 : Hid (setGo ps news = setGo (putP M p) (news.drop (j + 1))) := Lib.hid (by rw [HI.out.go, HG.out, HBQ.out, if_neg (by decide), HVQ.out, if_neg (by decide)])
          obtain ⟨m0, m1, m2, m3⟩ := KB.out w5 HB5.out
          clear hat hb5 hki HO4 HBr
          cases q
          · have hpn : putP M p = M.take n ++ p :: M.drop n := put_not HI.out.up HAT.out (hq2 rfl)
            have HPN := Lib.hid hpn
            have hni := HAT.out.1
            clear hq1 hq2 hpn
            go_upto_region 15 with fail
            have hbx5 := (below_box w5 (.cells #[.string p.key, .int .i64 p.v.kind, .int .i64 p.v.n, .string p.v.s] 137))
            refine (insP_any c9 w5.heap.size n a9 M p _ w.heap.size (HO5.out.below hbx5) hni (by have := HML.out; omega) (heap_new w5 _) (fun g hg e => by have := (HO5.out.lt g hg).2; omega) (by have := HI.out.bel.size; have := HBr5.out.size; simp; omega)).mono ?_
            rintro e w6 ⟨v6, rfl, ho6, hc6⟩
            rw [← HPN.out] at ho6
            have HN6 : Hid (StI w w.heap.size ps news (j + 1) v6 (putP M p) w6) := Lib.hid ⟨ho6, HI.out.up.put p, HG5.out, by have := len_putP M p; have := HI.out.len; omega, fun y hy => by
              rcases mem_putP hy with rfl | hy
              · exact HPO.out
              · exact HI.out.ok y hy, (below_then HI.out.bel (below_then HBr5.out hbx5)).trans (hc6.below (by have := HI.out.bel.size; have := HBr5.out.size; simp; omega) (fun i hi => (HO5.out.lt i hi).1))⟩
            obtain ⟨a6, c6, rfl⟩ := ho6.shape
            clear ho6 hc6 hbx5
            go_wp2_with fail
            exact ⟨⟨j + 1, a6, c6, putP M p, by omega, by go_num, rfl, HN6⟩, by simp [intOf]; omega⟩
          · obtain ⟨y, hy, hy0⟩ := hq1 rfl
            have HPN := Lib.hid (put_there HI.out.up HAT.out hy hy0)
            have hni := (List.getElem?_eq_some_iff.1 hy).1
            obtain ⟨g, rfl⟩ : ∃ g, a9 = some ⟨g, 0, none⟩ := by
              rcases HO5.out.2 with ⟨h1, h2⟩ | ⟨g, cp, cur, h1, _⟩
              · omega
              · injection h1 with e1; exact ⟨g, e1⟩
            obtain ⟨c0, c1, c2, c3⟩ := ownP_cells HO5.out hy
            have f0 := ownP_frozen HO5.out (n * 4)
            have f1 := ownP_frozen HO5.out (n * 4 + 1)
            have f2 := ownP_frozen HO5.out (n * 4 + 2)
            have f3 := ownP_frozen HO5.out (n * 4 + 3)
            have hnz : (n : Int) < (M.length : Int) := by omega
            have hset := ownP_set HO5.out hni p
            rw [← HPN.out] at hset
            have hplen : (putP M p).length = M.length := by rw [HPN.out, List.length_set]
            rw [← hplen] at hset
            have HST := Lib.hid hset
            have HPL2 := Lib.hid hplen
            have hgB : Hid (w.heap.size ≤ g) := Lib.hid (HO5.out.lt g rfl).1
            clear hq1 hq2 hy hy0 hset hplen
            go_wp2_with fail
            refine ⟨⟨j + 1, some ⟨g, 0, none⟩, c9, putP M p, by omega, by go_num, by rw [HPL2.out], Lib.hid ⟨HST.out, HI.out.up.put p, HG5.out, by have := HPL2.out; have := HI.out.len; omega, fun y hy => ?_, ?_⟩⟩, by simp [intOf]; omega⟩
            · rcases mem_putP hy with rfl | hy
              · exact HPO.out
              · exact HI.out.ok y hy
            · have h5 := below_then HI.out.bel HBr5.out
              exact (((h5.setCell (p := ⟨g, n * 4, none⟩) hgB.out _).setCell (p := ⟨g, n * 4 + 1, none⟩) hgB.out _).setCell (p := ⟨g, n * 4 + 2, none⟩) hgB.out _).setCell (p := ⟨g, n * 4 + 3, none⟩) hgB.out _
      · go_wp2_with fail
        go_ret2
        exact StPost.err (by rw [HI.out.go, HG.out, HBQ.out, if_pos rfl]) (below_then HI.out.bel (below_then HBW.out HB3.out))
    · obtain rfl : j = news.length := by omega
      have HE := Lib.hid (HI.out.go.trans setGo_end)
      by_cases h16 : 16 < M.length
      · have t1 : decide (16 < M.length) = true := decide_eq_true h16
        have t1' : decide ((16 : Int) < (M.length : Int)) = true := decide_eq_true (by omega)
        have H16 := Lib.hid h16
        clear h16
        go_wp2_with fail
        go_ret2
        exact StPost.err (by rw [HE.out, if_pos H16.out]) HI.out.bel
      · have t1 : decide (16 < M.length) = false := decide_eq_false h16
        have t1' : decide ((16 : Int) < (M.length : Int)) = false := decide_eq_false (by omega)
        have H16 := Lib.hid h16
        clear h16
        go_wp2_with fail
        go_ret2
        exact StPost.okay (by rw [HE.out, if_neg H16.out]) HI.out.bel ⟨own_psA HI.out.own HI.out.ok, fun b off e => by
          rcases HI.out.own.2 with ⟨h1, _⟩ | ⟨g, cp, cur, h1, hB, _⟩
          · injection h1 with e1 _ _
            rw [e1] at e; cases e
          · injection h1 with e1 _ _
            rw [e1] at e
            injection e with e
            injection e with e
            omega⟩
end Go.Proofs.YtonilojjahfboaaGreat
