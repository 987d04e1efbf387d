/- Arguments of layer 21 in memory: arrays, values, properties. Conditions: each lemma's own premises. -/
import Derived.Test.YtcafedfldmcbiaaWb6
import Derived.OpenShut
import Derived.WideShapes
namespace Go.Proofs.Ytcafedfldmcbiaa
open Go.RowKit Go.Maps Go.Deep

theorem okWide_arr {P : Program} {w : World} {r : Reach} {base : Nat} {t : TypeId} {v : Value} {n : Nat} {e : TypeId} (ht : P.underlying t = some (.array n e)) (h : Value.okWide P w r base t v) : ∃ cs, v = .agg cs ∧ cs.size = P.cellsOf t := by
  simp only [Value.okWide, ht] at h
  obtain ⟨cs, h1, h2, _⟩ := h
  exact ⟨cs, h1, h2⟩
theorem Mem.array {P : Program} {w : World} {t : TypeId} {cs : List Value} {n : Nat} {e : TypeId} (ht : P.underlying t = some (.array n e)) (h : Mem P w t cs) : cs.length = P.cellsOf t ∧ ∀ i, i < n → Mem P w e ((cs.drop (i * P.cellsOf e)).take (P.cellsOf e)) := by
  obtain ⟨H, enc, fuel, x, h⟩ := h
  obtain ⟨xs, m, _, _, h1, h2, h3⟩ := DataW.trod_array ht h
  refine ⟨h1, fun i hi => ?_⟩
  exact ⟨H, enc, m, xs[i]'(by omega), by rw [h3 i hi, List.getElem?_eq_getElem (by omega)]⟩
theorem agg_of_list {c : Array Value} {l : List Value} (h : c.toList = l) : c = l.toArray := by rw [← h]
set_option maxRecDepth 100000 in
theorem strings2_at {w : World} {cs : List Value} (h : Mem Try.prog w 53 cs) : ∃ n m : ByteArray, cs = [.string n, .string m] ∧ n.size ≤ maxLen ∧ m.size ≤ maxLen := by
  obtain ⟨hl, hf⟩ := h.array Try.underlying53
  have e2 : Try.prog.cellsOf 53 = 2 := by kernel_rfl
  have e1 : Try.prog.cellsOf 9 = 1 := by kernel_rfl
  rw [e2] at hl
  rw [e1] at hf
  obtain ⟨p, q, rfl⟩ : ∃ p q, cs = [p, q] := by
    match cs, hl with
    | [p, q], _ => exact ⟨p, q, rfl⟩
  obtain ⟨s, hs, ws⟩ := (hf 0 (by omega)).string Try.underlying9
  obtain ⟨t, ht, wt⟩ := (hf 1 (by omega)).string Try.underlying9
  simp at hs ht
  subst hs ht
  exact ⟨s, t, rfl, ws, wt⟩
end Go.Proofs.Ytcafedfldmcbiaa
