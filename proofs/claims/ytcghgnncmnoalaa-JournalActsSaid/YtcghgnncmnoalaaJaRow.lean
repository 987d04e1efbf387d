/- JournalActs, of any arguments. Conditions: none. -/
import Derived.Test.YtcghgnncmnoalaaJa16
namespace Go.Proofs.Ytcghgnncmnoalaa
open Go.RowKit Go.Maps

set_option maxRecDepth 100000 in
theorem act_in {w : World} {cs : List Value} (h : Mem Try.prog w 99 cs) : ∃ x : Ac, (x.st < 18446744073709551616 ∧ WsV w x.a x.ws ∧ x.ws.length ≤ maxLen ∧ I64 x.k) ∧ cs = [.int .i64 x.kd, .int .i64 x.k, .int .u64 x.st, .slice x.a x.ws.length x.cap] := by
  obtain ⟨hl, hf⟩ := h.struct Try.underlying99
  have e4 : Try.prog.cellsOf 99 = 4 := by kernel_rfl
  have e2 : Try.prog.cellsOf 35 = 2 := by kernel_rfl
  have e1 : Try.prog.cellsOf 3 = 1 := by kernel_rfl
  rw [e4] at hl
  obtain ⟨i, hi, _⟩ := (hf 0 _ rfl).int Try.underlying3
  obtain ⟨j, hj, wj⟩ := (hf 1 _ rfl).int Try.underlying3
  obtain ⟨st, ra, ws, rc, er, g1, g2, g3⟩ := record_in (hf 2 _ rfl)
  obtain ⟨p, q, r, t, rfl⟩ : ∃ p q r t, cs = [p, q, r, t] := by
    match cs, hl with
    | [p, q, r, t], _ => exact ⟨p, q, r, t, rfl⟩
  simp [e1, e2] at hi hj er
  obtain ⟨rfl, rfl⟩ := er
  subst hi hj
  exact ⟨⟨i, j, st, ra, rc, ws⟩, ⟨g1, g3, g2, I64.of_wf wj⟩, rfl⟩
set_option maxRecDepth 100000 in
theorem acts_in {w : World} {cs : List Value} (h : Mem Try.prog w 113 cs) : ∃ (a : Option Addr) (l : List Ac) (cap : Nat), cs = [.slice a l.length cap] ∧ l.length ≤ cap ∧ cap ≤ maxLen ∧ AcM w a l := by
  obtain ⟨a, n, cap, rfl, h1, h2, h3⟩ := h.slice Try.underlying113 (of_decide_eq_true (by kernel_rfl))
  have e6 : Try.prog.cellsOf 99 = 4 := by kernel_rfl
  rw [e6] at h3
  obtain ⟨xs, hlen, hx⟩ := list_of (n := n) (Q := fun i (x : Ac) => (x.st < 18446744073709551616 ∧ WsV w x.a x.ws ∧ x.ws.length ≤ maxLen ∧ I64 x.k) ∧ ∀ b off, a = some ⟨b, off, none⟩ → w.cell? ⟨b, off + i * 4, none⟩ = some (.int .i64 x.kd) ∧ w.cell? ⟨b, off + i * 4 + 1, none⟩ = some (.int .i64 x.k) ∧ w.cell? ⟨b, off + i * 4 + 2, none⟩ = some (.int .u64 x.st) ∧ w.cell? ⟨b, off + i * 4 + 3, none⟩ = some (.slice x.a x.ws.length x.cap)) (fun i hi => by
    obtain ⟨b, off, rfl, _, hat⟩ := h3 (by omega)
    obtain ⟨es, hl, hc, hm⟩ := hat i hi
    obtain ⟨x, hx, rfl⟩ := act_in hm
    refine ⟨x, hx, fun b' off' e => ?_⟩
    injection e with e
    injection e with e1 e2
    subst e1 e2
    exact ⟨hc 0 (by omega), hc 1 (by omega), hc 2 (by omega), hc 3 (by omega)⟩)
  subst hlen
  refine ⟨a, xs, cap, rfl, h1, h2, fun hne => ?_⟩
  obtain ⟨b, off, rfl, hb, _⟩ := h3 (List.length_pos_iff.2 hne)
  exact ⟨b, off, rfl, hb, fun i x hi => ⟨(hx i x hi).1, (hx i x hi).2 b off rfl⟩⟩
end Go.Proofs.Ytcghgnncmnoalaa
