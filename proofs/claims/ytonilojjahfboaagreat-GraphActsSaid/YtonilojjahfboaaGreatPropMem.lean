/- Values, properties of an argument in memory. Conditions: each lemma's own premises. -/
import Derived.Test.YtonilojjahfboaaGreatMem
import Derived.Test.YtonilojjahfboaaGreatGc7
namespace Go.Proofs.YtonilojjahfboaaGreat
open Go.RowKit Go.Maps

set_option maxRecDepth 100000 in
theorem valueM {w : World} {cs : List Value} (h : Mem Tryz.prog w 98 cs) : ∃ v : Vl, v.Ok ∧ cs = [.int .i64 v.kind, .int .i64 v.n, .string v.s] := by
  obtain ⟨hl, hf⟩ := h.struct Tryz.underlying98
  have e3 : Tryz.prog.cellsOf 98 = 3 := by kernel_rfl
  rw [e3] at hl
  obtain ⟨x, hx, wx⟩ := (hf 0 _ rfl).int Tryz.underlying3
  obtain ⟨y, hy, wy⟩ := (hf 1 _ rfl).int Tryz.underlying3
  obtain ⟨s, hs, ws⟩ := (hf 2 _ rfl).string Tryz.underlying9
  obtain ⟨p, q, r, rfl⟩ : ∃ p q r, cs = [p, q, r] := by
    match cs, hl with
    | [p, q, r], _ => exact ⟨p, q, r, rfl⟩
  have e1 : Tryz.prog.cellsOf 3 = 1 := by kernel_rfl
  have e2 : Tryz.prog.cellsOf 9 = 1 := by kernel_rfl
  simp [e1, e2] at hx hy hs
  subst hx hy hs
  exact ⟨⟨x, y, s⟩, ⟨I64.of_wf wx, I64.of_wf wy, ws⟩, rfl⟩
set_option maxRecDepth 100000 in
theorem propM {w : World} {cs : List Value} (h : Mem Tryz.prog w 137 cs) : ∃ p : Pr, (p.key.size ≤ maxLen ∧ p.v.Ok) ∧ cs = [.string p.key, .int .i64 p.v.kind, .int .i64 p.v.n, .string p.v.s] := by
  obtain ⟨hl, hf⟩ := h.struct Tryz.underlying137
  have e4 : Tryz.prog.cellsOf 137 = 4 := by kernel_rfl
  have e3 : Tryz.prog.cellsOf 98 = 3 := by kernel_rfl
  have e2 : Tryz.prog.cellsOf 9 = 1 := by kernel_rfl
  rw [e4] at hl
  obtain ⟨s, hs, ws⟩ := (hf 0 _ rfl).string Tryz.underlying9
  obtain ⟨v, hv, ev⟩ := valueM (hf 1 _ rfl)
  obtain ⟨p, q, r, t, rfl⟩ : ∃ p q r t, cs = [p, q, r, t] := by
    match cs, hl with
    | [p, q, r, t], _ => exact ⟨p, q, r, t, rfl⟩
  simp [e2, e3] at hs ev
  obtain ⟨rfl, rfl, rfl⟩ := ev
  subst hs
  exact ⟨⟨s, v⟩, ⟨ws, hv⟩, rfl⟩
set_option maxRecDepth 100000 in
theorem propsM {w : World} {cs : List Value} (h : Mem Tryz.prog w 26 cs) : ∃ (a : Option Addr) (ps : List Pr) (cap : Nat), cs = [.slice a ps.length cap] ∧ ps.length ≤ maxLen ∧ PrV w a ps := by
  obtain ⟨a, n, cap, rfl, h1, h2, h3⟩ := h.slice Tryz.underlying26 (of_decide_eq_true (by kernel_rfl))
  have e4 : Tryz.prog.cellsOf 137 = 4 := by kernel_rfl
  rw [e4] at h3
  have hall : ∀ i, i < n → ∃ p : Pr, (p.key.size ≤ maxLen ∧ p.v.Ok) ∧ ∀ b off, a = some ⟨b, off, none⟩ → w.cell? ⟨b, off + i * 4, none⟩ = some (.string p.key) ∧ w.cell? ⟨b, off + i * 4 + 1, none⟩ = some (.int .i64 p.v.kind) ∧ w.cell? ⟨b, off + i * 4 + 2, none⟩ = some (.int .i64 p.v.n) ∧ w.cell? ⟨b, off + i * 4 + 3, none⟩ = some (.string p.v.s) := by
    intro i hi
    obtain ⟨b, off, rfl, _, hat⟩ := h3 (by omega)
    obtain ⟨es, hl, hc, hm⟩ := hat i hi
    obtain ⟨p, hp, rfl⟩ := propM hm
    refine ⟨p, hp, fun b' off' e => ?_⟩
    injection e with e
    injection e with e1 e2
    subst e1 e2
    exact ⟨hc 0 (by omega), hc 1 (by omega), hc 2 (by omega), hc 3 (by omega)⟩
  obtain ⟨ps, hlen, hps⟩ : ∃ ps : List Pr, ps.length = n ∧ ∀ i p, ps[i]? = some p → (p.key.size ≤ maxLen ∧ p.v.Ok) ∧ ∀ b off, a = some ⟨b, off, none⟩ → w.cell? ⟨b, off + i * 4, none⟩ = some (.string p.key) ∧ w.cell? ⟨b, off + i * 4 + 1, none⟩ = some (.int .i64 p.v.kind) ∧ w.cell? ⟨b, off + i * 4 + 2, none⟩ = some (.int .i64 p.v.n) ∧ w.cell? ⟨b, off + i * 4 + 3, none⟩ = some (.string p.v.s) := by
    refine ⟨List.ofFn (fun i : Fin n => (hall i.1 i.2).choose), by simp, fun i p hp => ?_⟩
    rw [List.getElem?_ofFn] at hp
    split at hp
    · rename_i hi
      injection hp with hp
      subst hp
      exact (hall i hi).choose_spec
    · cases hp
  subst hlen
  refine ⟨a, ps, cap, rfl, by omega, fun hne => ?_⟩
  obtain ⟨b, off, rfl, hb, _⟩ := h3 (List.length_pos_iff.2 hne)
  refine ⟨b, off, rfl, ⟨fun p hp => ?_, fun i p hp => (hps i p hp).2 b off rfl, hb⟩⟩
  obtain ⟨i, hi⟩ := List.getElem?_of_mem hp
  exact (hps i p hi).1
end Go.Proofs.YtonilojjahfboaaGreat
