/- Replay: the plain law. No program here beyond plain keys and writes. -/
import Derived.Test.YtcghgnncmnoalaaRp3
import Derived.Test.YtcghgnncmnoalaaSx5
import Derived.Test.YtcghgnncmnoalaaSrtP
namespace Go.Proofs.Ytcghgnncmnoalaa
open Go.RowKit Go.Maps

theorem sortedK_unique : ∀ (a b : List Ky), KySorted a → KySorted b → (∀ k, k ∈ a ↔ k ∈ b) → a = b
  | [], [], _, _, _ => rfl
  | [], y :: b, _, _, h => by have := (h y).2 (by simp); simp at this
  | x :: a, [], _, _, h => by have := (h x).1 (by simp); simp at this
  | x :: a, y :: b, ha, hb, h => by
    have ha' := List.pairwise_cons.1 ha
    have hb' := List.pairwise_cons.1 hb
    have e : x = y := by
      refine Classical.byContradiction fun hn => ?_
      have h1 : x ∈ b := by
        rcases List.mem_cons.1 ((h x).1 (by simp)) with e | e
        · exact absurd e hn
        · exact e
      have h2 : y ∈ a := by
        rcases List.mem_cons.1 ((h y).2 (by simp)) with e | e
        · exact absurd e.symm hn
        · exact e
      have h3 := ha'.1 y h2
      have h4 := hb'.1 x h1
      have := Ky.cmp_neg x y
      omega
    subst e
    have hx : x.cmp x = 0 := (Ky.cmp_zero x x).2 rfl
    rw [sortedK_unique a b ha'.2 hb'.2 (fun k => by
      constructor
      · intro hk
        rcases List.mem_cons.1 ((h k).1 (by simp [hk])) with e | e
        · subst e; have := ha'.1 k hk; omega
        · exact e
      · intro hk
        rcases List.mem_cons.1 ((h k).2 (by simp [hk])) with e | e
        · subst e; have := hb'.1 k hk; omega
        · exact e)]
theorem Ky.ltT {a b c : Ky} (h : a.cmp b < 0) (k : b.cmp c < 0) : a.cmp c < 0 := by
  have h3 := Ky.cmp_trans a b c (by omega) (by omega)
  have h4 : a.cmp c ≠ 0 := fun e => by
    have e := (Ky.cmp_zero a c).1 e
    subst e
    have := Ky.cmp_neg a b
    omega
  omega
/-- one write more, into the map -/
noncomputable def wstep (g : Ky → Option Wr) (w : Wr) : Ky → Option Wr := updK g w.k (if w.has = true then some w else none)
/-- .., into the reference's list -/
def wlay (w : Wr) : Bool → List Wr → List Wr
  | d, [] => if d = true then [] else [w]
  | d, y :: l => if 0 < y.k.cmp w.k ∧ d = false then w :: y :: wlay w true l
      else if y.k.cmp w.k = 0 then (if d = true then wlay w true l else w :: wlay w true l)
      else y :: wlay w d l
def wput (l : List Wr) (w : Wr) : List Wr := wlay w (!w.has) l
/-- a list says what a map says -/
structure Rep (l : List Wr) (g : Ky → Option Wr) : Prop where
  s : KySorted (l.map Wr.k)
  a : ∀ y ∈ l, g y.k = some y
  b : ∀ k y, g k = some y → y ∈ l ∧ y.k = k
theorem Rep.start : Rep [] (fun _ => none) := ⟨List.Pairwise.nil, fun _ h => by simp at h, fun _ _ h => by cases h⟩
theorem Rep.uniq {l l' : List Wr} {g : Ky → Option Wr} (h : Rep l g) (h' : Rep l' g) : l = l' := by
  have hk : l.map Wr.k = l'.map Wr.k := sortedK_unique _ _ h.s h'.s (fun k => by
    constructor
    · intro hm
      obtain ⟨y, hy, rfl⟩ := List.mem_map.1 hm
      exact List.mem_map.2 ⟨y, (h'.b y.k y (h.a y hy)).1, rfl⟩
    · intro hm
      obtain ⟨y, hy, rfl⟩ := List.mem_map.1 hm
      exact List.mem_map.2 ⟨y, (h.b y.k y (h'.a y hy)).1, rfl⟩)
  have hf : ∀ m : List Wr, (∀ y ∈ m, g y.k = some y) → m = (m.map Wr.k).filterMap g := by
    intro m hm
    induction m with
    | nil => rfl
    | cons y m ih =>
      rw [List.map_cons, List.filterMap_cons, hm y (by simp)]
      simp only
      rw [← ih (fun z hz => hm z (by simp [hz]))]
  rw [hf l h.a, hf l' h'.a, hk]
/-- what is laid, behind what is laid already -/
theorem wlay_done (w : Wr) : ∀ l : List Wr, wlay w true l = l.filter (fun y => !decide (y.k.cmp w.k = 0))
  | [] => rfl
  | y :: l => by
    unfold wlay
    rw [if_neg (fun h => by cases h.2)]
    by_cases e : y.k.cmp w.k = 0
    · rw [if_pos e, if_pos rfl, wlay_done w l, List.filter_cons_of_neg (by simp [e])]
    · rw [if_neg e, wlay_done w l, List.filter_cons_of_pos (by simp [e])]
theorem wlay_new (w : Wr) : ∀ l : List Wr, KySorted (l.map Wr.k) → wlay w false l = l.filter (fun y => decide (y.k.cmp w.k < 0)) ++ w :: l.filter (fun y => decide (0 < y.k.cmp w.k))
  | [], _ => rfl
  | y :: l, hs => by
    have hs' := List.pairwise_cons.1 hs
    have hgt : 0 ≤ y.k.cmp w.k → ∀ z ∈ l, 0 < z.k.cmp w.k := fun h0 z hz => by
      have h1 : y.k.cmp z.k < 0 := hs'.1 z.k (List.mem_map_of_mem hz)
      have n1 := Ky.cmp_neg z.k w.k
      have n2 := Ky.cmp_neg y.k w.k
      have n3 := Ky.cmp_neg y.k z.k
      rcases Int.lt_trichotomy (z.k.cmp w.k) 0 with h | h | h
      · have := Ky.ltT h1 h
        omega
      · have e := (Ky.cmp_zero _ _).1 h
        rw [e] at h1
        omega
      · exact h
    have hlo : 0 ≤ y.k.cmp w.k → l.filter (fun y => decide (y.k.cmp w.k < 0)) = [] := fun h0 => by
      rw [List.filter_eq_nil_iff]
      intro z hz
      have := hgt h0 z hz
      simp; omega
    have hhi : 0 ≤ y.k.cmp w.k → l.filter (fun y => decide (0 < y.k.cmp w.k)) = l := fun h0 => by
      rw [List.filter_eq_self]
      intro z hz
      have := hgt h0 z hz
      simp; omega
    have hne : 0 ≤ y.k.cmp w.k → l.filter (fun y => !decide (y.k.cmp w.k = 0)) = l := fun h0 => by
      rw [List.filter_eq_self]
      intro z hz
      have := hgt h0 z hz
      simp; omega
    unfold wlay
    by_cases h1 : 0 < y.k.cmp w.k
    · rw [if_pos ⟨h1, rfl⟩, wlay_done, hne (by omega), List.filter_cons_of_neg (by simp; omega), hlo (by omega), List.filter_cons_of_pos (by simp; omega), hhi (by omega)]; rfl
    · rw [if_neg (fun h => h1 h.1)]
      by_cases h2 : y.k.cmp w.k = 0
      · rw [if_pos h2, if_neg (by decide), wlay_done, hne (by omega), List.filter_cons_of_neg (by simp; omega), hlo (by omega), List.filter_cons_of_neg (by simp; omega), hhi (by omega)]; rfl
      · rw [if_neg h2, wlay_new w l hs'.2, List.filter_cons_of_pos (by simp; omega), List.filter_cons_of_neg (by simp; omega)]; rfl
theorem updK_eq {g : Ky → Option Wr} {k j : Ky} {o : Option Wr} : updK g k o j = if k.cmp j = 0 then o else g j := by
  unfold updK
  by_cases e : j = k
  · subst e
    rw [if_pos rfl, if_pos ((Ky.cmp_zero _ _).2 rfl)]
  · rw [if_neg e, if_neg (fun h => e ((Ky.cmp_zero _ _).1 h).symm)]
theorem Rep.step {l : List Wr} {g : Ky → Option Wr} (h : Rep l g) (w : Wr) : Rep (wput l w) (wstep g w) := by
  have hs : l.Pairwise (fun a b => a.k.cmp b.k < 0) := by
    have h3 : (l.map Wr.k).Pairwise (fun a b => a.cmp b < 0) := h.s
    rwa [List.pairwise_map] at h3
  unfold wput wstep
  cases hw : w.has
  · rw [if_neg (by decide), Bool.not_false, wlay_done]
    refine ⟨?_, fun y hy => ?_, fun k y hk => ?_⟩
    · show (List.map Wr.k _).Pairwise _
      rw [List.pairwise_map]
      exact hs.sublist List.filter_sublist
    · obtain ⟨h1, h2⟩ := List.mem_filter.1 hy
      simp at h2
      rw [updK_eq, if_neg (fun e => h2 (by have := Ky.cmp_neg y.k w.k; omega))]
      exact h.a y h1
    · rw [updK_eq] at hk
      split at hk
      · cases hk
      · rename_i hne
        obtain ⟨h1, h2⟩ := h.b k y hk
        refine ⟨List.mem_filter.2 ⟨h1, ?_⟩, h2⟩
        have := Ky.cmp_neg y.k w.k
        rw [← h2] at hne
        simp; omega
  · rw [if_pos rfl, Bool.not_true, wlay_new w l h.s]
    refine ⟨?_, fun y hy => ?_, fun k y hk => ?_⟩
    · show (List.map Wr.k _).Pairwise _
      rw [List.pairwise_map, List.pairwise_append]
      refine ⟨hs.sublist List.filter_sublist, List.pairwise_cons.2 ⟨fun z hz => ?_, hs.sublist List.filter_sublist⟩, fun a ha b hb => ?_⟩
      · have := (List.mem_filter.1 hz).2
        simp at this
        have := Ky.cmp_neg z.k w.k
        omega
      · have h1 := (List.mem_filter.1 ha).2
        simp at h1
        rcases List.mem_cons.1 hb with rfl | hb
        · exact h1
        · have h2 := (List.mem_filter.1 hb).2
          simp at h2
          have := Ky.cmp_neg b.k w.k
          exact Ky.ltT h1 (by omega)
    · rcases List.mem_append.1 hy with hy | hy
      · obtain ⟨h1, h2⟩ := List.mem_filter.1 hy
        simp at h2
        have := Ky.cmp_neg y.k w.k
        rw [updK_eq, if_neg (by omega)]
        exact h.a y h1
      · rcases List.mem_cons.1 hy with rfl | hy
        · rw [updK_eq, if_pos ((Ky.cmp_zero _ _).2 rfl)]
        · obtain ⟨h1, h2⟩ := List.mem_filter.1 hy
          simp at h2
          have := Ky.cmp_neg y.k w.k
          rw [updK_eq, if_neg (by omega)]
          exact h.a y h1
    · rw [updK_eq] at hk
      split at hk
      · rename_i he
        injection hk with hk
        subst hk
        exact ⟨by simp, ((Ky.cmp_zero _ _).1 he)⟩
      · rename_i hne
        obtain ⟨h1, h2⟩ := h.b k y hk
        refine ⟨?_, h2⟩
        have := Ky.cmp_neg y.k w.k
        rw [← h2] at hne
        rcases Int.lt_trichotomy (y.k.cmp w.k) 0 with h5 | h5 | h5
        · exact List.mem_append.2 (.inl (List.mem_filter.2 ⟨h1, by simp; omega⟩))
        · omega
        · exact List.mem_append.2 (.inr (List.mem_cons.2 (.inr (List.mem_filter.2 ⟨h1, by simp; omega⟩))))
theorem Rep.steps : ∀ (W : List Wr) {l : List Wr} {g : Ky → Option Wr}, Rep l g → Rep (W.foldl wput l) (W.foldl wstep g)
  | [], _, _, h => h
  | w :: W, _, _, h => Rep.steps W (h.step w)
theorem wput_len (l : List Wr) (w : Wr) : (wput l w).length ≤ l.length + 1 := by
  have : ∀ (l : List Wr) (d : Bool), (wlay w d l).length ≤ l.length + (if d = true then 0 else 1) := by
    intro l
    induction l with
    | nil => intro d; cases d <;> simp [wlay]
    | cons y l ih =>
      intro d
      have h1 := ih true
      have h2 := ih d
      unfold wlay
      split
      · rename_i hc; rw [hc.2]; simp at *; omega
      · split
        · cases d <;> simp at * <;> omega
        · simp at *; omega
  have := this l (!w.has)
  unfold wput
  split at this <;> omega
end Go.Proofs.Ytcghgnncmnoalaa
