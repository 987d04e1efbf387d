/- Records, writes, blocks and bytes of an argument in memory. Conditions: each lemma's own premises. -/
import Derived.Test.YtkhkdedjffkhdaaGreatBsA
import Derived.Test.YtkhkdedjffkhdaaGreatRdX
namespace Go.Proofs.YtkhkdedjffkhdaaGreat
open Go.RowKit Go.Maps Go.WideMaps

set_option maxRecDepth 100000 in
theorem key_in {w : World} {cs : List Value} (h : Mem Tryz.prog w 47 cs) : ∃ k : Ky, k.Ok ∧ cs = [.int .i64 k.kind, .int .i64 k.a, .int .i64 k.b, .string k.s] := by
  obtain ⟨hl, hf⟩ := h.struct Tryz.underlying47
  have e4 : Tryz.prog.cellsOf 47 = 4 := by kernel_rfl
  have e2 : Tryz.prog.cellsOf 9 = 1 := by kernel_rfl
  have e1 : Tryz.prog.cellsOf 3 = 1 := by kernel_rfl
  rw [e4] at hl
  obtain ⟨i, hi, wi⟩ := (hf 0 _ rfl).int Tryz.underlying3
  obtain ⟨a, ha, wa⟩ := (hf 1 _ rfl).int Tryz.underlying3
  obtain ⟨b, hb, wb⟩ := (hf 2 _ rfl).int Tryz.underlying3
  obtain ⟨s, hs, ws⟩ := (hf 3 _ rfl).string Tryz.underlying9
  obtain ⟨p, q, r, t, rfl⟩ : ∃ p q r t, cs = [p, q, r, t] := by
    match cs, hl with
    | [p, q, r, t], _ => exact ⟨p, q, r, t, rfl⟩
  simp [e1, e2] at hi ha hb hs
  subst hi ha hb hs
  exact ⟨⟨i, a, b, s⟩, ⟨I64.of_wf wi, I64.of_wf wa, I64.of_wf wb, ws⟩, rfl⟩
end Go.Proofs.YtkhkdedjffkhdaaGreat
