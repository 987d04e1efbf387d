/- What an argument that can be read looks like in memory, by its type's shape: numbers, bools, strings, slices, structs. No condition beyond each lemma's premises. -/
import Derived.ChangeArms
import Derived.ChangeOld
import Derived.Deep.Slices
import Derived.DataReads
import Derived.Test.YtkbmipmegljidaaGreatWsA
namespace Go.Proofs.YtkbmipmegljidaaGreat
open Go.RowKit Go.Maps Go.Deep

/-- the cells cs can be read as a value of type t in the world w -/
def Mem (P : Program) (w : World) (t : TypeId) (cs : List Value) : Prop :=
  ∃ (H : Type) (enc : TypeId × Value → H) (fuel : Nat) (x : DataW H × List MemPlace), DataW.trod enc P w 0 (fun _ => true) true fuel t cs = some x

theorem add_none (g o j : Nat) : (⟨g, o, none⟩ : Addr).add j = ⟨g, o + j, none⟩ := by unfold Addr.add; split <;> simp_all

section
variable {P : Program} {w : World} {t : TypeId} {cs : List Value}

theorem Mem.int {k : IntKind} (ht : P.underlying t = some (.int k)) (h : Mem P w t cs) : ∃ n, cs = [.int k n] ∧ (Lit.int k n).wf = true := by
  obtain ⟨H, enc, fuel, x, h⟩ := h
  obtain ⟨n, h1, _, h2⟩ := DataW.trod_int ht h
  exact ⟨n, h1, h2⟩
theorem Mem.bool (ht : P.underlying t = some .bool) (h : Mem P w t cs) : ∃ b, cs = [.bool b] := by
  obtain ⟨H, enc, fuel, x, h⟩ := h
  obtain ⟨n, h1, _⟩ := DataW.trod_bool ht h
  exact ⟨n, h1⟩
theorem Mem.string (ht : P.underlying t = some .string) (h : Mem P w t cs) : ∃ s : ByteArray, cs = [.string s] ∧ s.size ≤ maxLen := by
  obtain ⟨H, enc, fuel, x, h⟩ := h
  obtain ⟨n, h1, _, h2⟩ := DataW.trod_string ht h
  exact ⟨n, h1, h2⟩
theorem Mem.struct {fs : Array Field} (ht : P.underlying t = some (.struct fs)) (h : Mem P w t cs) : cs.length = P.cellsOf t ∧ ∀ (i : Nat) (f : Field), fs[i]? = some f → Mem P w f.type ((cs.drop f.offset).take (P.cellsOf f.type)) := by
  obtain ⟨H, enc, fuel, x, h⟩ := h
  obtain ⟨xs, n, _, _, h1, h2, h3⟩ := DataW.trod_struct ht h
  refine ⟨h1, fun i f hf => ?_⟩
  have hi : i < xs.length := by rw [h2]; exact (Array.getElem?_eq_some_iff.1 hf).1
  exact ⟨H, enc, n, xs[i], by rw [h3 i f hf, List.getElem?_eq_getElem hi]⟩
/-- a slice: nil, or elements one behind the other, each of which can be read -/
theorem Mem.slice {e : TypeId} (ht : P.underlying t = some (.slice e)) (he : 0 < P.cellsOf e) (h : Mem P w t cs) :
    ∃ a len cap, cs = [.slice a len cap] ∧ len ≤ cap ∧ cap ≤ maxLen ∧ (0 < len → ∃ b off, a = some ⟨b, off, none⟩ ∧ b < w.heap.size ∧
      ∀ i, i < len → ∃ es : List Value, es.length = P.cellsOf e ∧ (∀ j, j < P.cellsOf e → w.cell? ⟨b, off + i * P.cellsOf e + j, none⟩ = es[j]?) ∧ Mem P w e es) := by
  obtain ⟨H, enc, fuel, x, h⟩ := h
  rcases open_slice ht h with ⟨h1, _⟩ | ⟨a, len, cap, m, n, D, Pl, h1, _, h2, h3, h4, _, h5⟩
  · exact ⟨none, 0, 0, h1, Nat.le_refl _, Nat.zero_le _, fun h => absurd h (Nat.lt_irrefl _)⟩
  · refine ⟨some a, len, cap, h1, h2, h3, fun hl => ?_⟩
    have hm : len ≤ m := by rw [h4]; split <;> omega
    obtain ⟨es0, he0, _⟩ := h5 0 (by omega)
    obtain ⟨_, _, c0⟩ := World.cells?_some he0
    have hc0 := c0 0 he
    obtain ⟨b, off, spot⟩ := a
    obtain ⟨_, hl0, _⟩ := World.cells?_some he0
    rw [List.getElem?_eq_getElem (by omega)] at hc0
    have hspot : spot = none := by simpa [Addr.add] using World.cell?_spot hc0
    subst hspot
    refine ⟨b, off, rfl, ?_, fun i hi => ?_⟩
    · have := World.block_lt_of_cell? w _ hc0
      simpa [Addr.add] using this
    · obtain ⟨es, hes, htr⟩ := h5 i (by omega)
      obtain ⟨_, hlen, hcell⟩ := World.cells?_some hes
      refine ⟨es, hlen, fun j hj => ?_, ⟨H, enc, n, _, htr⟩⟩
      have := hcell j hj
      rw [add_none, add_none] at this
      exact this
end
end Go.Proofs.YtkbmipmegljidaaGreat
