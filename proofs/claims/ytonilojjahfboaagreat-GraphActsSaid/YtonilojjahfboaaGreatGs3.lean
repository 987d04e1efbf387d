/- Two graphs beside one another; what is laid, in whichever order. Conditions: each lemma's own premises. -/
import Derived.Test.YtonilojjahfboaaGreatGsA
namespace Go.Proofs.YtonilojjahfboaaGreat
open Go.RowKit Go.Maps

/-- blocks without cells are changed -/
theorem PsA.other {w w' : World} {S : Nat → Prop} {a : Option Addr} {c : Nat} {ps : List Pr} (h : PsA w a c ps) (hc : Chg w w' S) (hS : ∀ j, S j → ∀ o, w.cell? ⟨j, o, none⟩ = none) : PsA w' a c ps := by
  refine ⟨fun hp => ?_, h.nil⟩
  obtain ⟨b, off, e, hat⟩ := h.v hp
  refine ⟨b, off, e, hat.of_block (hc.block b hat.lt (fun hs => ?_))⟩
  obtain ⟨p, hp0⟩ : ∃ p, ps[0]? = some p := by
    cases ps with
    | nil => exact absurd rfl hp
    | cons p t => exact ⟨p, rfl⟩
  have := (hat.cells 0 p hp0).1
  rw [hS b hs] at this
  cases this
theorem snocInd {α : Type} {P : List α → Prop} (h0 : P []) (hs : ∀ l x, P l → P (l ++ [x])) (l : List α) : P l := by
  rw [← List.reverse_reverse l]
  induction l.reverse with
  | nil => exact h0
  | cons x t ih =>
    rw [List.reverse_cons]
    exact hs _ _ ih
theorem no_cell {w : World} {b : Nat} {k : TypeId} {n : Nat} {f : Lit → Option Value} (m : mapR w Tryz.prog k b n f) (o : Nat) : w.cell? ⟨b, o, none⟩ = none := by
  obtain ⟨_, ⟨_, _, hm, _⟩, _⟩ := m
  simp [World.cell?, hm]
section
variable {w w' : World} {gb vb eb ga va ea : Nat} {V Va : List Vt} {E Ea : List Eg}
theorem GrC.other {S : Nat → Prop} (h : GrC w gb vb eb V E) (hc : Chg w w' S) (hg : ¬ S gb ∧ ¬ S vb ∧ ¬ S eb) (hS : ∀ j, S j → ∀ o, w.cell? ⟨j, o, none⟩ = none) : GrC w' gb vb eb V E := by
  obtain ⟨f, m, hf⟩ := h.vm
  obtain ⟨g, n, hg'⟩ := h.em
  exact ⟨(hc.block _ h.lt hg.1).trans h.blk, ⟨f, m.of_block (hc.block _ m.lt hg.2.1), ⟨hf.no, fun v hv => by obtain ⟨a, c, h1, h2⟩ := hf.yes v hv; exact ⟨a, c, h1, h2.other hc hS⟩⟩⟩, ⟨g, n.of_block (hc.block _ n.lt hg.2.2), ⟨hg'.no, fun v hv => by obtain ⟨a, c, h1, h2⟩ := hg'.yes v hv; exact ⟨a, c, h1, h2.other hc hS⟩⟩⟩, h.ok, h.ne⟩
/-- two graphs, both made since a world -/
structure TwG (w0 w : World) (ga va ea gb vb eb : Nat) (Va : List Vt) (Ea : List Eg) (Vb : List Vt) (Eb : List Eg) : Prop where
  bel : Below w0.heap.size w0 w
  a : GrC w ga va ea Va Ea
  b : GrC w gb vb eb Vb Eb
  lo : w0.heap.size ≤ va ∧ w0.heap.size ≤ ea ∧ w0.heap.size ≤ vb ∧ w0.heap.size ≤ eb
  ap : va ≠ gb ∧ va ≠ vb ∧ va ≠ eb ∧ ea ≠ gb ∧ ea ≠ vb ∧ ea ≠ eb ∧ vb ≠ ga ∧ eb ≠ ga
variable {w0 : World} {Vb : List Vt} {Eb : List Eg}
theorem TwG.below (h : TwG w0 w ga va ea gb vb eb Va Ea Vb Eb) (hb : Below w.heap.size w w') : TwG w0 w' ga va ea gb vb eb Va Ea Vb Eb :=
  ⟨h.bel.trans (hb.mono h.bel.size), h.a.below hb, h.b.below hb, h.lo, h.ap⟩
theorem nocell_v (h : GrC w gb vb eb V E) : ∀ j, j = vb → ∀ o, w.cell? ⟨j, o, none⟩ = none := fun j hj o => by
  obtain ⟨f, m, _⟩ := h.vm
  rw [hj]
  exact no_cell m o
theorem nocell_e (h : GrC w gb vb eb V E) : ∀ j, j = eb → ∀ o, w.cell? ⟨j, o, none⟩ = none := fun j hj o => by
  obtain ⟨f, m, _⟩ := h.em
  rw [hj]
  exact no_cell m o
theorem TwG.addVa (h : TwG w0 w ga va ea gb vb eb Va Ea Vb Eb) (hg : GrC w' ga va ea V Ea) (hc : Chg w w' (fun i => i = va)) : TwG w0 w' ga va ea gb vb eb V Ea Vb Eb := by
  obtain ⟨q1, q2, q3, q4, q5, q6, q7, q8⟩ := h.ap
  exact ⟨h.bel.trans (hc.below h.bel.size (fun i hi => by rw [hi]; exact h.lo.1)), hg, h.b.other hc ⟨fun e => q1 e.symm, fun e => q2 e.symm, fun e => q3 e.symm⟩ (nocell_v h.a), h.lo, h.ap⟩
theorem TwG.addEa (h : TwG w0 w ga va ea gb vb eb Va Ea Vb Eb) (hg : GrC w' ga va ea Va E) (hc : Chg w w' (fun i => i = ea)) : TwG w0 w' ga va ea gb vb eb Va E Vb Eb := by
  obtain ⟨q1, q2, q3, q4, q5, q6, q7, q8⟩ := h.ap
  exact ⟨h.bel.trans (hc.below h.bel.size (fun i hi => by rw [hi]; exact h.lo.2.1)), hg, h.b.other hc ⟨fun e => q4 e.symm, fun e => q5 e.symm, fun e => q6 e.symm⟩ (nocell_e h.a), h.lo, h.ap⟩
theorem TwG.addVb (h : TwG w0 w ga va ea gb vb eb Va Ea Vb Eb) (hg : GrC w' gb vb eb V Eb) (hc : Chg w w' (fun i => i = vb)) : TwG w0 w' ga va ea gb vb eb Va Ea V Eb := by
  obtain ⟨q1, q2, q3, q4, q5, q6, q7, q8⟩ := h.ap
  exact ⟨h.bel.trans (hc.below h.bel.size (fun i hi => by rw [hi]; exact h.lo.2.2.1)), h.a.other hc ⟨fun e => q7 e.symm, fun e => q2 e, fun e => q5 e⟩ (nocell_v h.b), hg, h.lo, h.ap⟩
theorem TwG.addEb (h : TwG w0 w ga va ea gb vb eb Va Ea Vb Eb) (hg : GrC w' gb vb eb Vb E) (hc : Chg w w' (fun i => i = eb)) : TwG w0 w' ga va ea gb vb eb Va Ea Vb E := by
  obtain ⟨q1, q2, q3, q4, q5, q6, q7, q8⟩ := h.ap
  exact ⟨h.bel.trans (hc.below h.bel.size (fun i hi => by rw [hi]; exact h.lo.2.2.2)), h.a.other hc ⟨fun e => q8 e.symm, fun e => q3 e, fun e => q6 e⟩ (nocell_e h.b), hg, h.lo, h.ap⟩
theorem TwG.start {w1 w2 : World} (h1 : GrC w1 (w0.heap.size + 2) w0.heap.size (w0.heap.size + 1) [] []) (b1 : Below w0.heap.size w0 w1) (h2 : GrC w2 (w1.heap.size + 2) w1.heap.size (w1.heap.size + 1) [] []) (b2 : Below w1.heap.size w1 w2) :
    TwG w0 w2 (w0.heap.size + 2) w0.heap.size (w0.heap.size + 1) (w1.heap.size + 2) w1.heap.size (w1.heap.size + 1) [] [] [] [] := by
  have := h1.lt
  exact ⟨b1.trans (b2.mono b1.size), h1.below b2, h2, ⟨by omega, by omega, by omega, by omega⟩, by omega⟩
end
/-- vertices, edges laid one behind the other -/
noncomputable def layV (l : List Vt) : List Vt := l.foldl (fun V v => (addV V v).2) []
noncomputable def layE (V : List Vt) (l : List Eg) : List Eg := l.foldl (fun E e => (addE V E e).2) []
theorem layV_le (l : List Vt) : (layV l).length ≤ l.length := by
  refine snocInd (P := fun l => (layV l).length ≤ l.length) (Nat.le_refl _) (fun l v ih => ?_) l
  rw [show layV (l ++ [v]) = (addV (layV l) v).2 by unfold layV; rw [List.foldl_append]; rfl, List.length_append]
  unfold addV
  split
  · split
    · simp; omega
    · rw [len_insB]; simp; omega
  · simp; omega
theorem layE_le (V : List Vt) (l : List Eg) : (layE V l).length ≤ l.length := by
  refine snocInd (P := fun l => (layE V l).length ≤ l.length) (Nat.le_refl _) (fun l v ih => ?_) l
  rw [show layE V (l ++ [v]) = (addE V (layE V l) v).2 by unfold layE; rw [List.foldl_append]; rfl, List.length_append]
  unfold addE
  split
  · split
    · simp; omega
    · split
      · simp; omega
      · rw [len_insB]; simp; omega
  · simp; omega
theorem layV_snoc (l : List Vt) (v : Vt) : layV (l ++ [v]) = (addV (layV l) v).2 := by unfold layV; rw [List.foldl_append]; rfl
theorem layE_snoc (V : List Vt) (l : List Eg) (e : Eg) : layE V (l ++ [e]) = (addE V (layE V l) e).2 := by unfold layE; rw [List.foldl_append]; rfl
def Apart {α : Type} (key : α → Int) (l : List α) : Prop := l.Pairwise (fun a b => key a ≠ key b)
theorem layV_mem : ∀ (l : List Vt), Apart Vt.id l → (SortB Vt.id (layV l) ∧ ∀ y, y ∈ layV l ↔ y ∈ l ∧ checkR y.label y.ps [y.id] = 0) := by
  intro l
  refine snocInd (P := fun l => Apart Vt.id l → (SortB Vt.id (layV l) ∧ ∀ y, y ∈ layV l ↔ y ∈ l ∧ checkR y.label y.ps [y.id] = 0)) ?_ ?_ l
  · exact fun _ => ⟨List.Pairwise.nil, fun y => by simp [layV]⟩
  · intro l v ih hd
    obtain ⟨h1, _, h2⟩ := List.pairwise_append.1 hd
    obtain ⟨i1, i2⟩ := ih h1
    have hn : ∀ y ∈ layV l, y.id ≠ v.id := fun y hy => h2 y ((i2 y).1 hy).1 v (by simp)
    rw [layV_snoc]
    unfold addV
    by_cases hc : checkR v.label v.ps [v.id] = 0
    · rw [if_pos hc, findB_none.2 hn]
      simp only [Option.isSome_none, Bool.false_eq_true, if_false]
      refine ⟨sort_insB i1 hn, fun y => ?_⟩
      rw [mem_insB, i2, List.mem_append, List.mem_singleton]
      constructor
      · rintro (rfl | ⟨g1, g2⟩)
        · exact ⟨.inr rfl, hc⟩
        · exact ⟨.inl g1, g2⟩
      · rintro ⟨g1 | rfl, g2⟩
        · exact .inr ⟨g1, g2⟩
        · exact .inl rfl
    · rw [if_neg hc]
      refine ⟨i1, fun y => ?_⟩
      rw [i2, List.mem_append, List.mem_singleton]
      constructor
      · rintro ⟨g1, g2⟩
        exact ⟨.inl g1, g2⟩
      · rintro ⟨g1 | rfl, g2⟩
        · exact ⟨g1, g2⟩
        · exact absurd g2 hc
theorem layE_mem (V : List Vt) : ∀ (l : List Eg), Apart Eg.id l → (SortB Eg.id (layE V l) ∧ ∀ y, y ∈ layE V l ↔ y ∈ l ∧ checkR y.label y.ps [y.id, y.fr, y.to] = 0 ∧ ((findB Vt.id V y.fr).isNone || (findB Vt.id V y.to).isNone) = false) := by
  intro l
  refine snocInd (P := fun l => Apart Eg.id l → (SortB Eg.id (layE V l) ∧ ∀ y, y ∈ layE V l ↔ y ∈ l ∧ checkR y.label y.ps [y.id, y.fr, y.to] = 0 ∧ ((findB Vt.id V y.fr).isNone || (findB Vt.id V y.to).isNone) = false)) ?_ ?_ l
  · exact fun _ => ⟨List.Pairwise.nil, fun y => by simp [layE]⟩
  · intro l v ih hd
    obtain ⟨h1, _, h2⟩ := List.pairwise_append.1 hd
    obtain ⟨i1, i2⟩ := ih h1
    have hn : ∀ y ∈ layE V l, y.id ≠ v.id := fun y hy => h2 y ((i2 y).1 hy).1 v (by simp)
    rw [layE_snoc]
    unfold addE
    by_cases hc : checkR v.label v.ps [v.id, v.fr, v.to] = 0
    · rw [if_pos hc, findB_none.2 hn]
      simp only [Option.isSome_none, Bool.false_eq_true, if_false]
      cases he : ((findB Vt.id V v.fr).isNone || (findB Vt.id V v.to).isNone)
      · simp only [Bool.false_eq_true, if_false]
        refine ⟨sort_insB i1 hn, fun y => ?_⟩
        rw [mem_insB, i2, List.mem_append, List.mem_singleton]
        constructor
        · rintro (rfl | ⟨g1, g2⟩)
          · exact ⟨.inr rfl, hc, he⟩
          · exact ⟨.inl g1, g2⟩
        · rintro ⟨g1 | rfl, g2⟩
          · exact .inr ⟨g1, g2⟩
          · exact .inl rfl
      · simp only [if_true]
        refine ⟨i1, fun y => ?_⟩
        rw [i2, List.mem_append, List.mem_singleton]
        constructor
        · rintro ⟨g1, g2⟩
          exact ⟨.inl g1, g2⟩
        · rintro ⟨g1 | rfl, g2⟩
          · exact ⟨g1, g2⟩
          · rw [he] at g2; exact absurd g2.2 (by decide)
    · rw [if_neg hc]
      refine ⟨i1, fun y => ?_⟩
      rw [i2, List.mem_append, List.mem_singleton]
      constructor
      · rintro ⟨g1, g2⟩
        exact ⟨.inl g1, g2⟩
      · rintro ⟨g1 | rfl, g2⟩
        · exact ⟨g1, g2⟩
        · exact absurd g2.1 hc
theorem sortB_uniq {α : Type} {key : α → Int} : ∀ {a b : List α}, SortB key a → SortB key b → (∀ k, k ∈ a ↔ k ∈ b) → a = b
  | [], [], _, _, _ => rfl
  | [], y :: b, _, _, h => absurd ((h y).2 (List.mem_cons.2 (.inl rfl))) (fun e => by cases e)
  | x :: a, [], _, _, h => absurd ((h x).1 (List.mem_cons.2 (.inl rfl))) (fun e => by cases e)
  | x :: a, y :: b, ha, hb, h => by
    obtain ⟨ha1, ha2⟩ := List.pairwise_cons.1 ha
    obtain ⟨hb1, hb2⟩ := List.pairwise_cons.1 hb
    have e : x = y := Classical.byContradiction fun hn => by
      have h1 : x ∈ b := (List.mem_cons.1 ((h x).1 (List.mem_cons.2 (.inl rfl)))).resolve_left hn
      have h2 : y ∈ a := (List.mem_cons.1 ((h y).2 (List.mem_cons.2 (.inl rfl)))).resolve_left (fun e => hn e.symm)
      have := ha1 y h2
      have := hb1 x h1
      omega
    subst e
    rw [sortB_uniq ha2 hb2 (fun k => ⟨fun hk => (List.mem_cons.1 ((h k).1 (List.mem_cons.2 (.inr hk)))).resolve_left (fun e => by subst e; have := ha1 _ hk; omega),
      fun hk => (List.mem_cons.1 ((h k).2 (List.mem_cons.2 (.inr hk)))).resolve_left (fun e => by subst e; have := hb1 _ hk; omega)⟩)]
theorem layV_uniq {l m : List Vt} (hl : Apart Vt.id l) (hm : Apart Vt.id m) (h : ∀ y, y ∈ l ↔ y ∈ m) : layV l = layV m := by
  obtain ⟨a1, a2⟩ := layV_mem l hl
  obtain ⟨b1, b2⟩ := layV_mem m hm
  exact sortB_uniq a1 b1 (fun y => by rw [a2, b2, h])
theorem layE_uniq (V : List Vt) {l m : List Eg} (hl : Apart Eg.id l) (hm : Apart Eg.id m) (h : ∀ y, y ∈ l ↔ y ∈ m) : layE V l = layE V m := by
  obtain ⟨a1, a2⟩ := layE_mem V l hl
  obtain ⟨b1, b2⟩ := layE_mem V m hm
  exact sortB_uniq a1 b1 (fun y => by rw [a2, b2, h])
theorem apart_of {α β : Type} {f : α → β} {key : β → Int} {l : List α} (h : Apart key (l.map f)) : Apart (fun x => key (f x)) l := by
  unfold Apart at *
  exact (List.pairwise_map (R := fun a b => key a ≠ key b)).1 h
theorem apart_to {α β : Type} {f : α → β} {key : β → Int} {l : List α} (h : Apart (fun x => key (f x)) l) : Apart key (l.map f) := by
  unfold Apart at *
  exact (List.pairwise_map (R := fun a b => key a ≠ key b)).2 h
/-- a list from the end on, turned by t: what is left to lay are i -/
def rotL {α : Type} (l : List α) (t i : Nat) : List α := ((List.range l.length).drop i).reverse.filterMap (fun k => l[(k + t) % l.length]?)
section
variable {α : Type} {key : α → Int} {l : List α} {t i : Nat} {x : α}
theorem rotL_le (l : List α) (t i : Nat) : (rotL l t i).length ≤ l.length := by
  unfold rotL
  refine Nat.le_trans (List.length_filterMap_le _ _) ?_
  rw [List.length_reverse, List.length_drop, List.length_range]
  omega
theorem rotL_start : rotL l t l.length = [] := by
  unfold rotL
  rw [List.drop_of_length_le (by simp)]
  rfl
theorem rotL_step (hi : i < l.length) (hx : l[(i + t) % l.length]? = some x) : rotL l t i = rotL l t (i + 1) ++ [x] := by
  unfold rotL
  rw [List.drop_eq_getElem_cons (by simpa using hi), List.reverse_cons, List.filterMap_append]
  simp [hx]
theorem rot_inj {n a b t : Nat} (ha : a < n) (hb : b < n) (h : (a + t) % n = (b + t) % n) : a = b := by
  have h1 := Nat.sub_mod_eq_zero_of_mod_eq h
  have h2 := Nat.sub_mod_eq_zero_of_mod_eq h.symm
  rw [show a + t - (b + t) = a - b by omega] at h1
  rw [show b + t - (a + t) = b - a by omega] at h2
  rw [Nat.mod_eq_of_lt (by omega)] at h1 h2
  omega
theorem rotL_mem (y : α) : y ∈ rotL l t 0 ↔ y ∈ l := by
  unfold rotL
  rw [List.drop_zero, List.mem_filterMap]
  constructor
  · rintro ⟨k, _, h⟩
    exact List.mem_of_getElem? h
  · intro h
    obtain ⟨p, hp⟩ := List.getElem?_of_mem h
    have hpl := (List.getElem?_eq_some_iff.1 hp).1
    have hn : 0 < l.length := by omega
    have htn := Nat.mod_lt t hn
    refine ⟨(p + (l.length - t % l.length)) % l.length, ?_, ?_⟩
    · rw [List.mem_reverse, List.mem_range]
      exact Nat.mod_lt _ hn
    · have : ((p + (l.length - t % l.length)) % l.length + t) % l.length = p := by
        rw [Nat.mod_add_mod, ← Nat.add_mod_mod, show p + (l.length - t % l.length) + t % l.length = p + l.length by omega, Nat.add_mod_right, Nat.mod_eq_of_lt hpl]
      rw [this, hp]
theorem rotL_apart (h : Apart key l) : Apart key (rotL l t 0) := by
  have hne : ∀ a b x y, a < l.length → b < l.length → a ≠ b → l[a]? = some x → l[b]? = some y → key x ≠ key y := fun a b x y ha hb hab hx hy => by
    obtain ⟨_, rfl⟩ := List.getElem?_eq_some_iff.1 hx
    obtain ⟨_, rfl⟩ := List.getElem?_eq_some_iff.1 hy
    rcases Nat.lt_or_gt_of_ne hab with g | g
    · exact List.pairwise_iff_getElem.1 h a b ha hb g
    · exact fun e => List.pairwise_iff_getElem.1 h b a hb ha g e.symm
  unfold rotL Apart
  rw [List.drop_zero, List.pairwise_filterMap, List.pairwise_reverse]
  refine List.Pairwise.imp_of_mem ?_ List.pairwise_lt_range
  intro a b ha hb hab x hx y hy
  have hn : 0 < l.length := by have := List.mem_range.1 ha; omega
  exact hne _ _ x y (Nat.mod_lt _ hn) (Nat.mod_lt _ hn) (fun e => by have := rot_inj (List.mem_range.1 hb) (List.mem_range.1 ha) e; omega) hx hy
end
end Go.Proofs.YtonilojjahfboaaGreat
