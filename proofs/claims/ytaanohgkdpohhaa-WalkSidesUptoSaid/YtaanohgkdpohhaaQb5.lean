/- Layer 17, plainly: who is next, on both sides; steps enough. No program here beyond plain lists. -/
import Derived.Test.YtaanohgkdpohhaaPb4
namespace Go.Proofs.Ytaanohgkdpohhaa
open Go.RowKit Go.Maps

/-- steps enough for c calls more have been used -/
def Rich (s c : Nat) : Prop := 1048576 ≤ s + 61 * c
theorem pay_next {s c : Nat} {E : List Eg} (p : Eg → Bool) (h : Rich s c) (hc : c ≤ 10000) (hE : E.length ≤ 60) : ∃ s', payS (some s) (1 + (idsE E p).length) = some s' ∧ Rich s' (c + 1) := by
  have h1 := idsE_len E p
  unfold Rich at *
  refine ⟨s - (1 + (idsE E p).length), ?_, by omega⟩
  show (if 1 + (idsE E p).length ≤ s then some (s - (1 + (idsE E p).length)) else none) = _
  rw [if_pos (by omega)]
theorem side_back {E : List Eg} (hs : SortB Eg.id E) {lab : ByteArray} {n x : Int} (h : x ∈ nextL E true lab n) : n ∈ nextL E false lab x ∧ x ∈ nextL E true noB n := by
  rw [mem_next hs] at h
  have h : edB E lab n x := by simpa using h
  refine ⟨(mem_next hs).2 (by simpa using h), (mem_next hs).2 ?_⟩
  obtain ⟨e, he, h1, h2, _⟩ := h
  have : edB E noB n x := ⟨e, he, h1, h2, .inl noB_nil⟩
  simpa using this
theorem side_any {E : List Eg} (hs : SortB Eg.id E) {n x : Int} (h : x ∈ nextL E true noB n) : ∃ e ∈ E, e.fr = n ∧ e.to = x := by
  rw [mem_next hs] at h
  have h : edB E noB n x := by simpa using h
  obtain ⟨e, he, h1, h2, _⟩ := h
  exact ⟨e, he, h1, h2⟩
theorem side_lab {E : List Eg} (hs : SortB Eg.id E) {e : Eg} (he : e ∈ E) {n x : Int} (h1 : e.fr = n) (h2 : e.to = x) : x ∈ nextL E true e.label n := by
  rw [mem_next hs]
  have : edB E e.label n x := ⟨e, he, h1, h2, .inr rfl⟩
  simpa using this
end Go.Proofs.Ytaanohgkdpohhaa
