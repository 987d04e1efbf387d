/- ArenaActs: the acts of the argument in memory. Conditions: the theorem's own premises. -/
import Derived.Test.YtfkckdfldalceaaActsLaw
import Derived.Test.YtfkckdfldalceaaMem
namespace Go.Proofs.Ytfkckdfldalceaa
open Go.RowKit Go.Maps

set_option maxRecDepth 100000 in
theorem handles_at {w : World} {cs : List Value} (h : Mem Try.prog w 28 cs) : ∃ ha hs hc, cs = [.slice ha hs.length hc] ∧ HsV w ha hs ∧ hs.length ≤ maxLen := by
  obtain ⟨ha, n, hc, rfl, h1, h2, h3⟩ := h.slice Try.underlying28 (of_decide_eq_true (by kernel_rfl))
  rcases Nat.eq_zero_or_pos n with rfl | hn
  · exact ⟨ha, [], hc, rfl, HsV.nil _ _, Nat.zero_le _⟩
  · obtain ⟨b, off, rfl, hb, hat⟩ := h3 hn
    have hat' : ∀ i, i < n → ∃ x g, I64 x ∧ I64 g ∧ w.cell? ⟨b, off + i * 2, none⟩ = some (.int .i64 x) ∧ w.cell? ⟨b, off + i * 2 + 1, none⟩ = some (.int .i64 g) := by
      intro i hi
      obtain ⟨es, hl, hc, hm⟩ := hat i hi
      have e2 : Try.prog.cellsOf 30 = 2 := by kernel_rfl
      rw [e2] at hl hc
      obtain ⟨_, hf⟩ := hm.struct Try.underlying30
      obtain ⟨x, hx, wx⟩ := (hf 0 _ rfl).int Try.underlying3
      obtain ⟨g, hg, wg⟩ := (hf 1 _ rfl).int Try.underlying3
      obtain ⟨p, q, rfl⟩ : ∃ p q, es = [p, q] := by
        match es, hl with
        | [p, q], _ => exact ⟨p, q, rfl⟩
      have e1 : Try.prog.cellsOf 3 = 1 := by kernel_rfl
      simp [e1] at hx hg
      subst hx hg
      have c0 := hc 0 (by omega)
      have c1 := hc 1 (by omega)
      simp at c0 c1
      exact ⟨x, g, I64.of_wf wx, I64.of_wf wg, c0, c1⟩
    have : ∃ hs : List (Int × Int), hs.length = n ∧ ∀ i p, hs[i]? = some p → I64 p.1 ∧ I64 p.2 ∧ w.cell? ⟨b, off + i * 2, none⟩ = some (.int .i64 p.1) ∧ w.cell? ⟨b, off + i * 2 + 1, none⟩ = some (.int .i64 p.2) := by
      clear hat h1 h2 h3 hn h
      induction n with
      | zero => exact ⟨[], rfl, by simp⟩
      | succ n ih =>
        obtain ⟨hs, hl, hh⟩ := ih (fun i hi => hat' i (by omega))
        obtain ⟨x, g, r⟩ := hat' n (by omega)
        refine ⟨hs ++ [(x, g)], by simp [hl], fun i p hp => ?_⟩
        rcases Nat.lt_or_ge i n with hi | hi
        · rw [List.getElem?_append_left (by omega)] at hp
          exact hh i p hp
        · rw [List.getElem?_append_right (by omega)] at hp
          have : i - hs.length = 0 := by
            rcases Nat.eq_zero_or_pos (i - hs.length) with h | h
            · exact h
            · rw [List.getElem?_eq_none (by simp; omega)] at hp; cases hp
          obtain rfl : i = n := by omega
          rw [this] at hp
          simp at hp
          subst hp
          exact r
    obtain ⟨hs, rfl, hh⟩ := this
    refine ⟨_, hs, hc, rfl, ⟨fun p hp => ?_, fun _ => ⟨b, off, rfl, ⟨fun p hp => ?_, fun i x g he => (hh i _ he).2.2, hb⟩⟩⟩, by omega⟩
    all_goals
      obtain ⟨i, hi⟩ := List.getElem?_of_mem hp
      exact ⟨(hh i p hi).1, (hh i p hi).2.1⟩

set_option maxRecDepth 100000 in
theorem acts_at {w : World} {a : Option Addr} {n cap : Nat} (h : Mem Try.prog w 43 [.slice a n cap]) : n ≤ maxLen ∧ ∀ i, i < n → ActAt w a i := by
  obtain ⟨a', n', cap', e, h1, h2, h3⟩ := h.slice Try.underlying43 (of_decide_eq_true (by kernel_rfl))
  simp only [List.cons.injEq, Value.slice.injEq, and_true] at e
  obtain ⟨rfl, rfl, rfl⟩ := e
  refine ⟨by omega, fun i hi => ?_⟩
  obtain ⟨b, off, rfl, hb, hat⟩ := h3 (by omega)
  obtain ⟨es, hl, hc, hm⟩ := hat i hi
  have e3 : Try.prog.cellsOf 47 = 3 := by kernel_rfl
  rw [e3] at hl hc
  obtain ⟨_, hf⟩ := hm.struct Try.underlying47
  obtain ⟨x, hx, wx⟩ := (hf 0 _ rfl).int Try.underlying3
  obtain ⟨g, hg, wg⟩ := (hf 1 _ rfl).int Try.underlying3
  obtain ⟨ha, hs, hcap, hh, hv, hml⟩ := handles_at (hf 2 _ rfl)
  obtain ⟨p, q, r, rfl⟩ : ∃ p q r, es = [p, q, r] := by
    match es, hl with
    | [p, q, r], _ => exact ⟨p, q, r, rfl⟩
  have e1 : Try.prog.cellsOf 3 = 1 := by kernel_rfl
  have e4 : Try.prog.cellsOf 28 = 1 := by kernel_rfl
  simp [e1, e4] at hx hg hh
  subst hx hg hh
  have c0 := hc 0 (by omega)
  have c1 := hc 1 (by omega)
  have c2 := hc 2 (by omega)
  simp at c0 c1 c2
  exact ⟨x, g, ha, hcap, hs, b, off, I64.of_wf wx, I64.of_wf wg, rfl, hb, c0, c1, c2, hv, hml⟩
end Go.Proofs.Ytfkckdfldalceaa
