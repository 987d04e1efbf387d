/- A graph's cells: plain laws. Conditions: each lemma's own premises. -/
import Derived.Test.YtkbmipmegljidaaGreatSwPlain
import Derived.Test.YtkbmipmegljidaaGreatWsV
import Derived.Test.YtkbmipmegljidaaGreatGr2
namespace Go.Proofs.YtkbmipmegljidaaGreat

/-- a vertex's cell, an edge's cell -/
noncomputable def vw (v : Vt) : Wr := ⟨⟨1, v.id, 0, ⟨#[]⟩⟩, ⟨(textL v.label v.ps).toArray⟩, true⟩
noncomputable def ew (e : Eg) : Wr := ⟨⟨2, e.id, 0, ⟨#[]⟩⟩, ⟨(fiveL e.fr.toNat ++ fiveL e.to.toNat ++ textL e.label e.ps).toArray⟩, true⟩
noncomputable def wsOf (V : List Vt) (E : List Eg) : List Wr := V.map vw ++ E.map ew
theorem wsOf_has {V : List Vt} {E : List Eg} : ∀ x ∈ wsOf V E, x.has = true := fun x hx => by
  rcases List.mem_append.1 hx with h | h
  · obtain ⟨v, _, rfl⟩ := List.mem_map.1 h; rfl
  · obtain ⟨e, _, rfl⟩ := List.mem_map.1 h; rfl
theorem wsOf_len (V : List Vt) (E : List Eg) : (wsOf V E).length = V.length + E.length := by unfold wsOf; simp
theorem wsOf_v {V : List Vt} {E : List Eg} {k : Nat} {v : Vt} (h : V[k]? = some v) : (wsOf V E)[k]? = some (vw v) := by
  unfold wsOf
  rw [List.getElem?_append_left (by rw [List.length_map]; exact (List.getElem?_eq_some_iff.1 h).1), List.getElem?_map, h]
  rfl
theorem wsOf_e {V : List Vt} {E : List Eg} {j : Nat} {e : Eg} (h : E[j]? = some e) : (wsOf V E)[V.length + j]? = some (ew e) := by
  unfold wsOf
  rw [List.getElem?_append_right (by rw [List.length_map]; omega), List.length_map, List.getElem?_map, show V.length + j - V.length = j by omega, h]
  rfl
theorem cmpI_m1 {a b : Int} (h : a < b) : cmpI a b = -1 := by unfold cmpI; simp; omega
theorem ky_id_lt {n : Int} {a b : Int} (h : a < b) : Ky.cmp ⟨n, a, 0, ⟨#[]⟩⟩ ⟨n, b, 0, ⟨#[]⟩⟩ < 0 := by
  unfold Ky.cmp
  simp [orI, cmpI_self, cmpI_m1 h]
theorem ky_kind_lt {n m : Int} (h : n < m) (a b : Int) : Ky.cmp ⟨n, a, 0, ⟨#[]⟩⟩ ⟨m, b, 0, ⟨#[]⟩⟩ < 0 := by
  unfold Ky.cmp
  simp [orI, cmpI_m1 h]
theorem wsOf_sort {V : List Vt} {E : List Eg} (h : PGo V E) : WSort (wsOf V E) := by
  unfold WSort wsOf
  rw [List.pairwise_append]
  refine ⟨List.pairwise_map.2 (List.Pairwise.imp (fun {a b} hab => ?_) h.sv), List.pairwise_map.2 (List.Pairwise.imp (fun {a b} hab => ?_) h.se), fun x hx y hy => ?_⟩
  · exact ky_id_lt hab
  · exact ky_id_lt hab
  · obtain ⟨v, _, rfl⟩ := List.mem_map.1 hx
    obtain ⟨e, _, rfl⟩ := List.mem_map.1 hy
    exact ky_kind_lt (by decide) _ _
theorem insB_last {α : Type} {key : α → Int} {x : α} : ∀ {l : List α}, (∀ y ∈ l, key y < key x) → insB key x l = l ++ [x]
  | [], _ => rfl
  | z :: l, h => by
    unfold insB
    rw [if_pos (h z List.mem_cons_self), insB_last (fun y hy => h y (List.mem_cons_of_mem _ hy)), List.cons_append]
theorem take_lt {α : Type} {key : α → Int} {l : List α} (h : SortB key l) {k : Nat} {x : α} (hx : l[k]? = some x) : ∀ y ∈ l.take k, key y < key x := fun y hy => by
  obtain ⟨i, hi, rfl⟩ := List.getElem_of_mem hy
  obtain ⟨hk, rfl⟩ := List.getElem?_eq_some_iff.1 hx
  rw [List.getElem_take]
  exact List.pairwise_iff_getElem.1 h i k _ hk (by rw [List.length_take] at hi; omega)
theorem take_snoc {α : Type} {l : List α} {k : Nat} {x : α} (hx : l[k]? = some x) : l.take (k + 1) = l.take k ++ [x] := by
  obtain ⟨hk, rfl⟩ := List.getElem?_eq_some_iff.1 hx
  exact (List.take_append_getElem hk).symm
theorem addV_take {V : List Vt} {E : List Eg} (h : PGo V E) {k : Nat} {v : Vt} (hv : V[k]? = some v) : addV (V.take k) v = (0, V.take (k + 1)) := by
  have hl := take_lt h.sv hv
  have hn : findB Vt.id (V.take k) v.id = none := findB_none.2 (fun y hy => by have := hl y hy; omega)
  unfold addV
  rw [if_pos (h.v v (List.mem_of_getElem? hv)), hn, insB_last hl, take_snoc hv]
  rfl
theorem addE_take {V : List Vt} {E : List Eg} (h : PGo V E) {k : Nat} {e : Eg} (he : E[k]? = some e) : addE V (E.take k) e = (0, E.take (k + 1)) := by
  have hl := take_lt h.se he
  have hn : findB Eg.id (E.take k) e.id = none := findB_none.2 (fun y hy => by have := hl y hy; omega)
  obtain ⟨⟨a, ha, hae⟩, b, hb, hbe⟩ := h.ends e (List.mem_of_getElem? he)
  unfold addE
  rw [if_pos (h.e e (List.mem_of_getElem? he)), hn]
  have h1 : findB Vt.id V e.fr ≠ none := fun h => findB_none.1 h a ha hae
  have h2 : findB Vt.id V e.to ≠ none := fun h => findB_none.1 h b hb hbe
  have i1 : (findB Vt.id V e.fr).isNone = false := by cases hq : findB Vt.id V e.fr with | none => exact absurd hq h1 | some _ => rfl
  have i2 : (findB Vt.id V e.to).isNone = false := by cases hq : findB Vt.id V e.to with | none => exact absurd hq h2 | some _ => rfl
  rw [i1, i2, insB_last hl, take_snoc he]
  rfl
/-- labels and properties that can be laid as texts -/
structure FitG (V : List Vt) (E : List Eg) : Prop where
  v : ∀ v ∈ V, v.label.size ≤ 200 ∧ ∀ p ∈ v.ps, p.key.size ≤ 200 ∧ p.v.Ok
  e : ∀ e ∈ E, e.label.size ≤ 200 ∧ ∀ p ∈ e.ps, p.key.size ≤ 200 ∧ p.v.Ok
theorem wsOf_nil {V : List Vt} {E : List Eg} (h : PGo V E) (hV : V = []) : E = [] := by
  cases E with
  | nil => rfl
  | cons e E =>
    obtain ⟨⟨a, ha, _⟩, _⟩ := h.ends e List.mem_cons_self
    rw [hV] at ha; simp at ha
end Go.Proofs.YtkbmipmegljidaaGreat
