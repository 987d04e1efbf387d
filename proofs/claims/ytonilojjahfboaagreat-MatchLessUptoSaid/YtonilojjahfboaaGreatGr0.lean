/- A graph, plainly: lists of vertices and edges by rising ids. Conditions: each lemma's own premises. -/
import Derived.Test.YtonilojjahfboaaGreatGcA
namespace Go.Proofs.YtonilojjahfboaaGreat
open Go.RowKit Go.Maps

section
variable {α : Type} (key : α → Int)
/-- one more, by its key -/
def insB (x : α) : List α → List α
  | [] => [x]
  | y :: t => if key y < key x then y :: insB x t else x :: y :: t
def findB (l : List α) (n : Int) : Option α := l.find? (fun y => key y == n)
def SortB (l : List α) : Prop := l.Pairwise (fun a b => key a < key b)
variable {key}
theorem mem_insB {x : α} : ∀ {l : List α} {y : α}, y ∈ insB key x l ↔ y = x ∨ y ∈ l
  | [], y => by simp [insB]
  | z :: t, y => by
    unfold insB
    split
    · rw [List.mem_cons, mem_insB, List.mem_cons]
      constructor
      · rintro (h | h | h)
        · exact .inr (.inl h)
        · exact .inl h
        · exact .inr (.inr h)
      · rintro (h | h | h)
        · exact .inr (.inl h)
        · exact .inl h
        · exact .inr (.inr h)
    · rw [List.mem_cons]
theorem len_insB (x : α) : ∀ l : List α, (insB key x l).length = l.length + 1
  | [] => rfl
  | z :: t => by
    unfold insB
    split
    · simp [len_insB x t]
    · rfl
theorem findB_none {l : List α} {n : Int} : findB key l n = none ↔ ∀ y ∈ l, key y ≠ n := by
  unfold findB
  rw [List.find?_eq_none]
  constructor
  · intro h y hy e
    exact h y hy (by simp [e])
  · intro h y hy
    simp [h y hy]
theorem findB_some {l : List α} {n : Int} {x : α} (h : findB key l n = some x) : x ∈ l ∧ key x = n := by
  unfold findB at h
  exact ⟨List.mem_of_find?_eq_some h, by have := List.find?_some h; simpa using this⟩
theorem sort_insB {x : α} : ∀ {l : List α}, SortB key l → (∀ y ∈ l, key y ≠ key x) → SortB key (insB key x l)
  | [], _, _ => List.pairwise_singleton _ _
  | z :: t, h, hn => by
    obtain ⟨h1, h2⟩ := List.pairwise_cons.1 h
    have hz := hn z (List.mem_cons.2 (.inl rfl))
    unfold insB
    split
    · rename_i hlt
      refine List.pairwise_cons.2 ⟨fun y hy => ?_, sort_insB h2 (fun y hy => hn y (List.mem_cons.2 (.inr hy)))⟩
      rcases mem_insB.1 hy with rfl | hy
      · exact hlt
      · exact h1 y hy
    · rename_i hlt
      refine List.pairwise_cons.2 ⟨fun y hy => ?_, h⟩
      rcases List.mem_cons.1 hy with rfl | hy
      · omega
      · have := h1 y hy; omega
theorem find_insB {x : α} {n : Int} : ∀ {l : List α}, (∀ y ∈ l, key y ≠ key x) → findB key (insB key x l) n = if key x = n then some x else findB key l n
  | [], _ => by
    unfold findB insB
    by_cases e : key x = n
    · simp [e]
    · simp [e]
  | z :: t, hn => by
    have ih := find_insB (x := x) (n := n) (l := t) (fun y hy => hn y (List.mem_cons.2 (.inr hy)))
    have hz := hn z (List.mem_cons.2 (.inl rfl))
    unfold insB
    split
    · unfold findB at *
      rw [List.find?_cons, List.find?_cons]
      by_cases e : key z = n
      · have : ¬ key x = n := fun e2 => hz (by omega)
        simp [e, this]
      · have : (key z == n) = false := by simpa using e
        rw [this]
        exact ih
    · unfold findB
      rw [List.find?_cons]
      by_cases e : key x = n
      · simp [e]
      · have : (key x == n) = false := by simpa using e
        rw [this, if_neg e]
theorem sortB_nodup {l : List α} (h : SortB key l) : (l.map key).Pairwise (· < ·) := List.pairwise_map.2 h
theorem sortB_inj {l : List α} (h : SortB key l) {x y : α} (hx : x ∈ l) (hy : y ∈ l) (e : key x = key y) : x = y := by
  induction l with
  | nil => cases hx
  | cons z t ih =>
    obtain ⟨h1, h2⟩ := List.pairwise_cons.1 h
    rcases List.mem_cons.1 hx with rfl | hx'
    · rcases List.mem_cons.1 hy with rfl | hy'
      · rfl
      · have := h1 y hy'; omega
    · rcases List.mem_cons.1 hy with rfl | hy'
      · have := h1 x hx'; omega
      · exact ih h2 hx' hy'
theorem findB_mem {l : List α} (h : SortB key l) {x : α} (hx : x ∈ l) : findB key l (key x) = some x := by
  cases hf : findB key l (key x) with
  | none => exact absurd rfl (findB_none.1 hf x hx)
  | some y =>
    obtain ⟨h1, h2⟩ := findB_some hf
    rw [sortB_inj h h1 hx h2]
end
/-- a vertex, an edge -/
structure Vt where
  id : Int
  label : ByteArray
  ps : List Pr
structure Eg where
  id : Int
  label : ByteArray
  fr : Int
  to : Int
  ps : List Pr
/-- a vertex, an edge is laid -/
noncomputable def addV (V : List Vt) (v : Vt) : Int × List Vt :=
  if checkR v.label v.ps [v.id] = 0 then (if (findB Vt.id V v.id).isSome then (31, V) else (0, insB Vt.id v V)) else (checkR v.label v.ps [v.id], V)
noncomputable def addE (V : List Vt) (E : List Eg) (e : Eg) : Int × List Eg :=
  if checkR e.label e.ps [e.id, e.fr, e.to] = 0 then
    (if (findB Eg.id E e.id).isSome then (31, E) else if (findB Vt.id V e.fr).isNone || (findB Vt.id V e.to).isNone then (101, E) else (0, insB Eg.id e E))
  else (checkR e.label e.ps [e.id, e.fr, e.to], E)
end Go.Proofs.YtonilojjahfboaaGreat
