/- Writes by their keys, sorted stably: plain laws. Conditions: each lemma's own premises. -/
import Derived.Test.YtkbmipmegljidaaGreatWsF
import Derived.Test.YtkbmipmegljidaaGreatWsG
namespace Go.Proofs.YtkbmipmegljidaaGreat

theorem countP_strict {α : Type} {p q : α → Bool} : ∀ {l : List α}, (∀ y ∈ l, p y = true → q y = true) → (∃ a ∈ l, q a = true ∧ p a = false) → l.countP p < l.countP q
  | [], _, h => by obtain ⟨a, ha, _⟩ := h; simp at ha
  | z :: l, h, hx => by
    have hm : l.countP p ≤ l.countP q := List.countP_mono_left (fun y hy => h y (List.mem_cons_of_mem _ hy))
    rw [List.countP_cons, List.countP_cons]
    by_cases e : ∃ a ∈ l, q a = true ∧ p a = false
    · have := countP_strict (fun y hy => h y (List.mem_cons_of_mem _ hy)) e
      have hz := h z (List.mem_cons_self)
      by_cases hp : p z = true
      · rw [if_pos hp, if_pos (hz hp)]; omega
      · rw [if_neg hp]; split <;> omega
    · obtain ⟨a, ha, h1, h2⟩ := hx
      rcases List.mem_cons.1 ha with rfl | ha
      · rw [if_neg (by rw [h2]; simp), if_pos h1]; omega
      · exact absurd ⟨a, ha, h1, h2⟩ e
theorem Ky.lt_le {a b c : Ky} (h : a.cmp b < 0) (k : b.cmp c ≤ 0) : a.cmp c < 0 := by
  by_cases e : a.cmp c < 0
  · exact e
  · have h1 : c.cmp a ≤ 0 := by rw [Ky.cmp_neg]; omega
    have h2 := Ky.cmp_trans b c a k h1
    rw [Ky.cmp_neg] at h2
    omega
/-- how many keys of a list are below -/
def rkW (L : List Wr) (x : Wr) : Nat := L.countP (fun y => decide (y.k.cmp x.k < 0))
theorem rkW_lt {L : List Wr} {a b : Wr} (ha : a ∈ L) : decide (rkW L a < rkW L b) = decide (a.k.cmp b.k < 0) := by
  by_cases h : a.k.cmp b.k < 0
  · rw [decide_eq_true h]
    refine decide_eq_true (countP_strict (fun y _ hy => ?_) ⟨a, ha, decide_eq_true h, decide_eq_false ?_⟩)
    · exact decide_eq_true (Ky.lt_le (of_decide_eq_true hy) (Int.le_of_lt h))
    · have := (Ky.cmp_zero a.k a.k).2 rfl
      omega
  · rw [decide_eq_false h]
    refine decide_eq_false (Nat.not_lt.2 (List.countP_mono_left (fun y _ hy => ?_)))
    refine decide_eq_true (Ky.lt_le (of_decide_eq_true hy) ?_)
    rw [Ky.cmp_neg]; omega
/-- writes by their keys, equal ones as they came -/
def srtW (L : List Wr) : List Wr := Srt.sortK (rkW L) L
theorem sortK_perm {α : Type} (key : α → Nat) (l : List α) : (Srt.sortK key l).Perm l := by
  have : ∀ (l m : List α), (l.foldl (Srt.putK key) m).Perm (m ++ l) := by
    intro l
    induction l with
    | nil => intro m; simp
    | cons x l ih =>
      intro m
      rw [List.foldl_cons]
      refine (ih _).trans ?_
      refine ((Srt.putK_perm key m x).append_right l).trans ?_
      rw [List.cons_append]
      exact List.perm_middle.symm
  simpa [Srt.sortK] using this l []
theorem srtW_perm (L : List Wr) : (srtW L).Perm L := sortK_perm _ _
theorem srtW_len (L : List Wr) : (srtW L).length = L.length := (srtW_perm L).length_eq
theorem srtW_le (L : List Wr) : (srtW L).Pairwise (fun a b => a.k.cmp b.k ≤ 0) := by
  have h := Srt.sortK_asc (rkW L) L
  unfold Srt.Asc at h
  refine List.Pairwise.imp_of_mem (fun {a b} ha hb hab => ?_) h
  have hb' : b ∈ L := (srtW_perm L).mem_iff.1 hb
  have := rkW_lt (b := a) hb'
  rw [decide_eq_false (Nat.not_lt.2 hab)] at this
  have h2 := of_decide_eq_false this.symm
  rw [Ky.cmp_neg] at h2
  omega
theorem while_all {α : Type} {p : α → Bool} : ∀ {m : List α}, (∀ y ∈ m, p y = true) → m.takeWhile p = m ∧ m.dropWhile p = []
  | [], _ => ⟨rfl, rfl⟩
  | z :: m, h => by
    obtain ⟨h1, h2⟩ := while_all (m := m) (fun y hy => h y (List.mem_cons_of_mem _ hy))
    simp [h z List.mem_cons_self, h1, h2]
theorem putK_last {α : Type} {key : α → Nat} {m : List α} {x : α} (h : ∀ y ∈ m, key y ≤ key x) : Srt.putK key m x = m ++ [x] := by
  obtain ⟨e1, e2⟩ := while_all (p := fun y => decide (key y ≤ key x)) (fun y hy => decide_eq_true (h y hy))
  unfold Srt.putK
  rw [e1, e2]
theorem sortK_of_asc {α : Type} {key : α → Nat} {l : List α} (h : Srt.Asc key l) : Srt.sortK key l = l := by
  have : ∀ (l m : List α), Srt.Asc key (m ++ l) → l.foldl (Srt.putK key) m = m ++ l := by
    intro l
    induction l with
    | nil => intro m _; simp
    | cons x l ih =>
      intro m h
      have hx : ∀ y ∈ m, key y ≤ key x := fun y hy => (List.pairwise_append.1 h).2.2 y hy x List.mem_cons_self
      rw [List.foldl_cons, putK_last hx]
      have e : m ++ x :: l = (m ++ [x]) ++ l := by simp
      rw [e] at h ⊢
      exact ih _ h
  simpa [Srt.sortK] using this l [] (by simpa using h)
/-- a key but once, and rising -/
def WSort (l : List Wr) : Prop := l.Pairwise (fun a b => a.k.cmp b.k < 0)
theorem srtW_of {L : List Wr} (h : WSort L) : srtW L = L := by
  refine sortK_of_asc (List.Pairwise.imp_of_mem (fun {a b} ha hb hab => ?_) h)
  have := rkW_lt (b := b) ha
  rw [decide_eq_true hab] at this
  exact Nat.le_of_lt (of_decide_eq_true this)
/-- two that stand side by side have one key -/
def adjW (l : List Wr) : Prop := ∃ i x y, l[i]? = some x ∧ l[i + 1]? = some y ∧ x.k = y.k
theorem adjW_no {l : List Wr} (h : WSort l) : ¬ adjW l := by
  rintro ⟨i, x, y, hx, hy, e⟩
  obtain ⟨hi, rfl⟩ := List.getElem?_eq_some_iff.1 hx
  obtain ⟨hj, rfl⟩ := List.getElem?_eq_some_iff.1 hy
  have h1 := List.pairwise_iff_getElem.1 h i (i + 1) hi hj (by omega)
  have h2 := (Ky.cmp_zero _ _).2 e
  omega
theorem strict_of {l : List Wr} (h : l.Pairwise (fun a b => a.k.cmp b.k ≤ 0)) (hn : ¬ adjW l) : WSort l := by
  induction l with
  | nil => exact List.Pairwise.nil
  | cons x l ih =>
    obtain ⟨h1, h2⟩ := List.pairwise_cons.1 h
    have hn2 : ¬ adjW l := fun ⟨i, a, b, ha, hb, e⟩ => hn ⟨i + 1, a, b, by simpa using ha, by simpa using hb, e⟩
    have ih2 := ih h2 hn2
    refine List.pairwise_cons.2 ⟨fun y hy => ?_, ih2⟩
    cases l with
    | nil => simp at hy
    | cons z l =>
      have hz : x.k.cmp z.k < 0 := by
        have h3 := h1 z List.mem_cons_self
        by_cases e : x.k.cmp z.k = 0
        · exact absurd ⟨0, x, z, rfl, rfl, (Ky.cmp_zero _ _).1 e⟩ hn
        · omega
      rcases List.mem_cons.1 hy with rfl | hy
      · exact hz
      · exact Ky.lt_le hz (Int.le_of_lt ((List.pairwise_cons.1 ih2).1 y hy))
theorem wsort_nodup {l : List Wr} (h : WSort l) : (l.map Wr.k).Nodup := by
  refine List.pairwise_map.2 (List.Pairwise.imp (fun {a b} hab e => ?_) h)
  have := (Ky.cmp_zero a.k b.k).2 e
  omega
/-- a key that stands twice stands side by side, once sorted -/
theorem adjW_dup {L : List Wr} (h : ¬ (L.map Wr.k).Nodup) : adjW (srtW L) := by
  refine Classical.byContradiction fun hn => h ?_
  exact (((srtW_perm L).map Wr.k).nodup_iff).1 (wsort_nodup (strict_of (srtW_le L) hn))
theorem dup_app {L : List Wr} {x : Wr} (hx : x ∈ L) : ¬ ((L ++ [x]).map Wr.k).Nodup := by
  intro h
  rw [List.map_append, List.nodup_append] at h
  exact h.2.2 x.k (List.mem_map_of_mem hx) x.k (by simp) rfl
end Go.Proofs.YtkbmipmegljidaaGreat
