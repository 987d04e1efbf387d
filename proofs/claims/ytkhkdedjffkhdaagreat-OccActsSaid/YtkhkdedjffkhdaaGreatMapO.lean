/- A map as read, opened. Conditions: none. -/
import Derived.Test.YtkhkdedjffkhdaaGreatBsA
namespace Go.Proofs.YtkhkdedjffkhdaaGreat
open Go.RowKit Go.Maps

/-- the map as read, opened -/
theorem mapR.open' {w : World} {P : Program} {k : TypeId} {b n : Nat} {f : Lit → Option Value} (h : mapR w P k b n f) : ∃ D : DataW Value, w.ownsMap P k rawElem b n D ∧ Maps.size D = n ∧ (∀ kl, WideAt.IsKeyLit kl → Maps.has D kl = (f kl).isSome) ∧ ∀ kl v, WideAt.IsKeyLit kl → (∀ z, D.atKey kl z = .held v) → f kl = some v := by
  obtain ⟨D, h1, h2, h3⟩ := h
  refine ⟨D, h1, h2, fun kl hk => (h3 kl hk).1, fun kl v hk hz => ?_⟩
  have h4 := (h3 kl hk).2
  cases hf : f kl with
  | none =>
    have e := h4 (.held (.bool true))
    have e2 := h4 (.held (.bool false))
    rw [hz, hf] at e e2
    have e' : DataW.held v = .held (.bool true) := e
    have e2' : DataW.held v = .held (.bool false) := e2
    rw [e'] at e2'
    cases e2'
  | some u =>
    have e := h4 .nil
    rw [hz, hf] at e
    have e' : DataW.held v = .held u := e
    injection e' with e'
    rw [e']
end Go.Proofs.YtkhkdedjffkhdaaGreat
