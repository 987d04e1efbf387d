/- Keys, and what was seen, of an argument in memory. Conditions: each lemma's own premises. -/
import Derived.Test.YtfkckdfldalceaaCell2
import Derived.Test.YtfkckdfldalceaaMem
import Derived.Test.YtfkckdfldalceaaArenaOncePlain
namespace Go.Proofs.Ytfkckdfldalceaa
open Go.RowKit Go.Maps

set_option maxRecDepth 100000 in
theorem key_at {w : World} {cs : List Value} (h : Mem Try.prog w 56 cs) : ∃ k : Ky, k.Ok ∧ cs = [.int .i64 k.kind, .int .i64 k.a, .int .i64 k.b, .string k.s] := by
  obtain ⟨hl, hf⟩ := h.struct Try.underlying56
  rw [cellsKey] at hl
  obtain ⟨x, hx, wx⟩ := (hf 0 _ rfl).int Try.underlying3
  obtain ⟨y, hy, wy⟩ := (hf 1 _ rfl).int Try.underlying3
  obtain ⟨z, hz, wz⟩ := (hf 2 _ rfl).int Try.underlying3
  obtain ⟨s, hs, ws⟩ := (hf 3 _ rfl).string Try.underlying9
  obtain ⟨p, q, r, t, rfl⟩ : ∃ p q r t, cs = [p, q, r, t] := by
    match cs, hl with
    | [p, q, r, t], _ => exact ⟨p, q, r, t, rfl⟩
  have e1 : Try.prog.cellsOf 3 = 1 := by kernel_rfl
  have e2 : Try.prog.cellsOf 9 = 1 := by kernel_rfl
  simp [e1, e2] at hx hy hz hs
  subst hx hy hz hs
  exact ⟨⟨x, y, z, s⟩, ⟨I64.of_wf wx, I64.of_wf wy, I64.of_wf wz, ws⟩, rfl⟩
theorem agg_of_list {c : Array Value} {l : List Value} (h : c.toList = l) : c = l.toArray := by rw [← h]
end Go.Proofs.Ytfkckdfldalceaa
