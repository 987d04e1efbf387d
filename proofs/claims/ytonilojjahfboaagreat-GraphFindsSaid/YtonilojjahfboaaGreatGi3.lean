/- A graph's elements taken out, plainly and in the maps. Conditions: each lemma's own premises. -/
import Derived.Test.YtonilojjahfboaaGreatGiA
namespace Go.Proofs.YtonilojjahfboaaGreat
open Go.RowKit Go.Maps

section
variable {α : Type} {key : α → Int}
/-- one less, by its key -/
def offB (key : α → Int) (l : List α) (n : Int) : List α := l.filter (fun y => key y != n)
theorem mem_offB {l : List α} {n : Int} {y : α} : y ∈ offB key l n ↔ y ∈ l ∧ key y ≠ n := by
  unfold offB
  rw [List.mem_filter]
  simp
theorem sort_offB {l : List α} {n : Int} (h : SortB key l) : SortB key (offB key l n) := h.filter _
theorem find_offB {l : List α} {n m : Int} : findB key (offB key l n) m = if m = n then none else findB key l m := by
  by_cases e : m = n
  · rw [if_pos e]
    exact findB_none.2 (fun y hy h => (mem_offB.1 hy).2 (h.trans e))
  · rw [if_neg e]
    induction l with
    | nil => rfl
    | cons y t ih =>
      unfold offB findB at *
      by_cases h : key y = n
      · rw [List.filter_cons_of_neg (by simp [h]), List.find?_cons_of_neg (by simp [h, Ne.symm e]), ih]
      · rw [List.filter_cons_of_pos (by simp [h]), List.find?_cons, List.find?_cons, ih]
theorem len_offB {l : List α} {n : Int} (hs : SortB key l) : (offB key l n).length + (if (findB key l n).isSome then 1 else 0) = l.length := by
  induction l with
  | nil => rfl
  | cons y t ih =>
    obtain ⟨h1, h2⟩ := List.pairwise_cons.1 hs
    have := ih h2
    unfold offB findB at *
    by_cases h : key y = n
    · have hn : t.find? (fun z => key z == n) = none := List.find?_eq_none.2 (fun z hz => by have := h1 z hz; simp; omega)
      rw [hn] at this
      rw [List.filter_cons_of_neg (by simp [h]), List.find?_cons_of_pos (by simp [h])]
      simp at this ⊢
      omega
    · rw [List.filter_cons_of_pos (by simp [h]), List.find?_cons_of_neg (by simp [h])]
      simp only [List.length_cons]
      omega
theorem off_none {l : List α} {n : Int} (h : findB key l n = none) : offB key l n = l := by
  unfold offB
  rw [List.filter_eq_self]
  intro y hy
  simpa using findB_none.1 h y hy
end
/-- edges of which the ids are not these -/
def remE (E : List Eg) (ks : List Int) : List Eg := ks.foldl (offB Eg.id) E
theorem remE_snoc (E : List Eg) (ks : List Int) (k : Int) : remE E (ks ++ [k]) = offB Eg.id (remE E ks) k := by unfold remE; rw [List.foldl_append]; rfl
theorem remE_eq : ∀ (ks : List Int) (E : List Eg), remE E ks = E.filter (fun e => decide (e.id ∉ ks))
  | [], E => by
    show E = E.filter _
    rw [List.filter_eq_self.2]
    intro e _
    simp
  | k :: ks, E => by
    show remE (offB Eg.id E k) ks = _
    rw [remE_eq ks]
    unfold offB
    rw [List.filter_filter]
    congr 1
    funext e
    by_cases h : e.id = k <;> simp [h]
/-- is a vertex an edge's end? -/
def touchP (n : Int) (e : Eg) : Bool := outP n e || inP n e
theorem gone_eq {E : List Eg} (hs : SortB Eg.id E) (n : Int) : setI (idsE E (outP n) ++ idsE E (inP n)) = idsE E (touchP n) := by
  obtain ⟨h1, h2⟩ := setI_spec (idsE E (outP n) ++ idsE E (inP n))
  refine incI_uniq h1 (idsE_inc hs _) (fun k => ?_)
  rw [h2, List.mem_append]
  unfold idsE touchP
  simp only [List.mem_map, List.mem_filter, Bool.or_eq_true]
  constructor
  · rintro (⟨x, ⟨g1, g2⟩, g3⟩ | ⟨x, ⟨g1, g2⟩, g3⟩)
    · exact ⟨x, ⟨g1, .inl g2⟩, g3⟩
    · exact ⟨x, ⟨g1, .inr g2⟩, g3⟩
  · rintro ⟨x, ⟨g1, g2 | g2⟩, g3⟩
    · exact .inl ⟨x, ⟨g1, g2⟩, g3⟩
    · exact .inr ⟨x, ⟨g1, g2⟩, g3⟩
theorem rem_touch {E : List Eg} (hs : SortB Eg.id E) (n : Int) : remE E (idsE E (touchP n)) = E.filter (fun e => !touchP n e) := by
  rw [remE_eq]
  refine List.filter_congr (fun e he => ?_)
  have : e.id ∈ idsE E (touchP n) ↔ touchP n e = true := by
    unfold idsE
    simp only [List.mem_map, List.mem_filter]
    constructor
    · rintro ⟨x, ⟨g1, g2⟩, g3⟩
      rw [← sortB_inj hs g1 he g3]
      exact g2
    · intro g
      exact ⟨e, ⟨he, g⟩, rfl⟩
  by_cases h : touchP n e = true
  · simp [this.2 h, h]
  · have h2 : e.id ∉ idsE E (touchP n) := fun g => h (this.1 g)
    simp [h2, h]
theorem PGo.offE {V : List Vt} {E : List Eg} (h : PGo V E) (p : Eg → Bool) : PGo V (E.filter p) :=
  ⟨h.sv, h.se.filter p, h.v, fun e he => h.e e (List.mem_filter.1 he).1, fun e he => h.ends e (List.mem_filter.1 he).1⟩
theorem PGo.offV {V : List Vt} {E : List Eg} (h : PGo V E) (n : Int) : PGo (offB Vt.id V n) (E.filter (fun e => !touchP n e)) := by
  refine ⟨sort_offB h.sv, h.se.filter _, fun v hv => h.v v (mem_offB.1 hv).1, fun e he => h.e e (List.mem_filter.1 he).1, fun e he => ?_⟩
  obtain ⟨h1, h2⟩ := List.mem_filter.1 he
  obtain ⟨⟨a, ha, ea⟩, b, hb, eb⟩ := h.ends e h1
  simp [touchP, outP, inP] at h2
  exact ⟨⟨a, mem_offB.2 ⟨ha, by rw [ea]; exact h2.1⟩, ea⟩, b, mem_offB.2 ⟨hb, by rw [eb]; exact h2.2⟩, eb⟩
/-- what Drop answers, and leaves -/
noncomputable def dropG (V : List Vt) (E : List Eg) (edge : Bool) (n : Int) : Int × List Int × List Vt × List Eg :=
  if edge then (if (findB Eg.id E n).isSome then (0, [n], V, offB Eg.id E n) else (101, [], V, E))
  else if (findB Vt.id V n).isSome then (0, idsE E (touchP n), offB Vt.id V n, E.filter (fun e => !touchP n e)) else (101, [], V, E)
open Classical in
theorem VmOk.off {w : World} {f : Lit → Option Value} {V : List Vt} (h : VmOk w f V) (n : Int) : VmOk w (upd f (.int .i64 n) none) (offB Vt.id V n) := by
  refine ⟨fun m hm hf => ?_, fun y hy => ?_⟩
  · rw [find_offB] at hf
    unfold upd
    by_cases e : m = n
    · rw [e, if_pos rfl]
    · rw [if_neg e] at hf
      rw [if_neg (fun e2 => e (lit_int.1 e2))]
      exact h.no m hm hf
  · obtain ⟨h1, h2⟩ := mem_offB.1 hy
    obtain ⟨a, c, h3, h4⟩ := h.yes y h1
    refine ⟨a, c, ?_, h4⟩
    unfold upd
    rw [if_neg (fun e2 => h2 (lit_int.1 e2))]
    exact h3
open Classical in
theorem EmOk.off {w : World} {f : Lit → Option Value} {E : List Eg} (h : EmOk w f E) (n : Int) : EmOk w (upd f (.int .i64 n) none) (offB Eg.id E n) := by
  refine ⟨fun m hm hf => ?_, fun y hy => ?_⟩
  · rw [find_offB] at hf
    unfold upd
    by_cases e : m = n
    · rw [e, if_pos rfl]
    · rw [if_neg e] at hf
      rw [if_neg (fun e2 => e (lit_int.1 e2))]
      exact h.no m hm hf
  · obtain ⟨h1, h2⟩ := mem_offB.1 hy
    obtain ⟨a, c, h3, h4⟩ := h.yes y h1
    refine ⟨a, c, ?_, h4⟩
    unfold upd
    rw [if_neg (fun e2 => h2 (lit_int.1 e2))]
    exact h3
/-- a graph's maps in memory, of which edges may dangle -/
structure GrM (w : World) (gb vb eb : Nat) (V : List Vt) (E : List Eg) : Prop where
  blk : w.heap[gb]? = some (.cells #[.map (some vb), .map (some eb)] 166 (0, 0))
  vm : ∃ f, mapR w Tryz.prog 3 vb V.length f ∧ VmOk w f V
  em : ∃ f, mapR w Tryz.prog 3 eb E.length f ∧ EmOk w f E
  sv : SortB Vt.id V
  se : SortB Eg.id E
  ne : vb ≠ eb ∧ gb ≠ vb ∧ gb ≠ eb
section
variable {w w' : World} {gb vb eb : Nat} {V : List Vt} {E : List Eg}
theorem GrC.m (h : GrC w gb vb eb V E) : GrM w gb vb eb V E := ⟨h.blk, h.vm, h.em, h.ok.sv, h.ok.se, h.ne, h.neG⟩
theorem GrM.c (h : GrM w gb vb eb V E) (ok : PGo V E) : GrC w gb vb eb V E := ⟨h.blk, h.vm, h.em, ok, h.ne.1⟩
theorem GrM.lt (h : GrM w gb vb eb V E) : gb < w.heap.size := (Array.getElem?_eq_some_iff.1 h.blk).1
theorem GrM.below (h : GrM w gb vb eb V E) (hb : Below w.heap.size w w') : GrM w' gb vb eb V E := by
  obtain ⟨f, m, hf⟩ := h.vm
  obtain ⟨g, n, hg⟩ := h.em
  exact ⟨(hb.block _ h.lt).trans h.blk, ⟨f, m.of_block (hb.block _ m.lt), hf.below hb⟩, ⟨g, n.of_block (hb.block _ n.lt), hg.below hb⟩, h.sv, h.se, h.ne⟩
theorem GrM.dropV (h : GrM w gb vb eb V E) {n : Int} (hi : I64 n) {f : Lit → Option Value} (hf : VmOk w f V) {n' : Nat} (e1 : n' + (if (f (.int .i64 n)).isSome then 1 else 0) = V.length) (m2 : mapR w' Tryz.prog 3 vb n' (upd f (.int .i64 n) none)) (t2 : w.mapTurned w' vb) :
    GrM w' gb vb eb (offB Vt.id V n) E := by
  have hz := turned_size t2
  have hcl := turned_cell t2
  obtain ⟨g, k, hg⟩ := h.em
  have hl := len_offB (n := n) h.sv
  rw [hf.some hi] at e1
  have en : n' = (offB Vt.id V n).length := by omega
  rw [en] at m2
  exact ⟨(turned_block t2 h.ne.2.1).trans h.blk, ⟨_, m2, (hf.stay hcl (Nat.le_of_eq hz.symm)).off n⟩, ⟨g, k.of_block (turned_block t2 h.ne.1.symm), hg.stay hcl (Nat.le_of_eq hz.symm)⟩, sort_offB h.sv, h.se, h.ne⟩
theorem GrM.dropE (h : GrM w gb vb eb V E) {n : Int} (hi : I64 n) {f : Lit → Option Value} (hf : EmOk w f E) {n' : Nat} (e1 : n' + (if (f (.int .i64 n)).isSome then 1 else 0) = E.length) (m2 : mapR w' Tryz.prog 3 eb n' (upd f (.int .i64 n) none)) (t2 : w.mapTurned w' eb) :
    GrM w' gb vb eb V (offB Eg.id E n) := by
  have hz := turned_size t2
  have hcl := turned_cell t2
  obtain ⟨g, k, hg⟩ := h.vm
  have hl := len_offB (n := n) h.se
  rw [hf.some hi] at e1
  have en : n' = (offB Eg.id E n).length := by omega
  rw [en] at m2
  exact ⟨(turned_block t2 h.ne.2.2).trans h.blk, ⟨g, k.of_block (turned_block t2 h.ne.1), hg.stay hcl (Nat.le_of_eq hz.symm)⟩, ⟨_, m2, (hf.stay hcl (Nat.le_of_eq hz.symm)).off n⟩, h.sv, sort_offB h.se, h.ne⟩
end
end Go.Proofs.YtonilojjahfboaaGreat
