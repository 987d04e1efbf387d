/- Records, writes, blocks and bytes of an argument in memory. Conditions: each lemma's own premises. -/
import Derived.Test.YtonilojjahfboaaMem
import Derived.Test.YtonilojjahfboaaRd10
namespace Go.Proofs.Ytonilojjahfboaa
open Go.RowKit Go.Maps Go.WideMaps

theorem aggL {c : Array Value} {l : List Value} (h : c.toList = l) : c = l.toArray := by rw [← h]
/-- elements that can each be read, as a list -/
theorem list_of {α : Type} {n : Nat} {Q : Nat → α → Prop} (h : ∀ i, i < n → ∃ x, Q i x) : ∃ xs : List α, xs.length = n ∧ ∀ (i : Nat) (x : α), xs[i]? = some x → Q i x := by
  refine ⟨List.ofFn (fun i : Fin n => (h i.1 i.2).choose), by simp, fun i p hp => ?_⟩
  rw [List.getElem?_ofFn] at hp
  split at hp
  · rename_i hi
    injection hp with hp
    subst hp
    exact (h i hi).choose_spec
  · cases hp
set_option maxRecDepth 100000 in
theorem key_in {w : World} {cs : List Value} (h : Mem Try.prog w 35 cs) : ∃ k : Ky, k.Ok ∧ cs = [.int .i64 k.kind, .int .i64 k.a, .int .i64 k.b, .string k.s] := by
  obtain ⟨hl, hf⟩ := h.struct Try.underlying35
  have e4 : Try.prog.cellsOf 35 = 4 := by kernel_rfl
  have e2 : Try.prog.cellsOf 9 = 1 := by kernel_rfl
  have e1 : Try.prog.cellsOf 3 = 1 := by kernel_rfl
  rw [e4] at hl
  obtain ⟨i, hi, wi⟩ := (hf 0 _ rfl).int Try.underlying3
  obtain ⟨a, ha, wa⟩ := (hf 1 _ rfl).int Try.underlying3
  obtain ⟨b, hb, wb⟩ := (hf 2 _ rfl).int Try.underlying3
  obtain ⟨s, hs, ws⟩ := (hf 3 _ rfl).string Try.underlying9
  obtain ⟨p, q, r, t, rfl⟩ : ∃ p q r t, cs = [p, q, r, t] := by
    match cs, hl with
    | [p, q, r, t], _ => exact ⟨p, q, r, t, rfl⟩
  simp [e1, e2] at hi ha hb hs
  subst hi ha hb hs
  exact ⟨⟨i, a, b, s⟩, ⟨I64.of_wf wi, I64.of_wf wa, I64.of_wf wb, ws⟩, rfl⟩
set_option maxRecDepth 100000 in
theorem write_in {w : World} {cs : List Value} (h : Mem Try.prog w 81 cs) : ∃ x : Wr, x.Ok ∧ cs = x.cells := by
  obtain ⟨hl, hf⟩ := h.struct Try.underlying81
  have e6 : Try.prog.cellsOf 81 = 6 := by kernel_rfl
  have e4 : Try.prog.cellsOf 35 = 4 := by kernel_rfl
  have e2 : Try.prog.cellsOf 9 = 1 := by kernel_rfl
  have e1 : Try.prog.cellsOf 4 = 1 := by kernel_rfl
  rw [e6] at hl
  obtain ⟨k, hk, ek⟩ := key_in (hf 0 _ rfl)
  obtain ⟨s, hs, ws⟩ := (hf 1 _ rfl).string Try.underlying9
  obtain ⟨b, hb⟩ := (hf 2 _ rfl).bool Try.underlying4
  obtain ⟨p, q, r, t, u, v, rfl⟩ : ∃ p q r t u v, cs = [p, q, r, t, u, v] := by
    match cs, hl with
    | [p, q, r, t, u, v], _ => exact ⟨p, q, r, t, u, v, rfl⟩
  simp [e1, e2, e4] at ek hs hb
  obtain ⟨rfl, rfl, rfl, rfl⟩ := ek
  subst hs hb
  exact ⟨⟨k, s, b⟩, ⟨hk, ws⟩, rfl⟩
set_option maxRecDepth 100000 in
theorem writes_in {w : World} {cs : List Value} (h : Mem Try.prog w 39 cs) : ∃ (a : Option Addr) (ws : List Wr) (cap : Nat), cs = [.slice a ws.length cap] ∧ ws.length ≤ maxLen ∧ WsV w a ws := by
  obtain ⟨a, n, cap, rfl, h1, h2, h3⟩ := h.slice Try.underlying39 (of_decide_eq_true (by kernel_rfl))
  have e6 : Try.prog.cellsOf 81 = 6 := by kernel_rfl
  rw [e6] at h3
  obtain ⟨xs, hlen, hx⟩ := list_of (n := n) (Q := fun i (x : Wr) => x.Ok ∧ ∀ b off, a = some ⟨b, off, none⟩ → ∀ (j : Nat) (v : Value), x.cells[j]? = some v → w.cell? ⟨b, off + i * 6 + j, none⟩ = some v) (fun i hi => by
    obtain ⟨b, off, rfl, _, hat⟩ := h3 (by omega)
    obtain ⟨es, hl, hc, hm⟩ := hat i hi
    obtain ⟨x, hx, rfl⟩ := write_in hm
    refine ⟨x, hx, fun b' off' e j v hv => ?_⟩
    injection e with e
    injection e with e1 e2
    subst e1 e2
    have hj : j < 6 := by
      have := (List.getElem?_eq_some_iff.1 hv).1
      rw [hl] at this; exact this
    rw [hc j hj, hv])
  subst hlen
  refine ⟨a, xs, cap, rfl, by omega, fun hne => ?_⟩
  obtain ⟨b, off, rfl, hb, _⟩ := h3 (List.length_pos_iff.2 hne)
  exact ⟨b, off, rfl, ⟨fun i x hi => ⟨(hx i x hi).1, (hx i x hi).2 b off rfl⟩, hb⟩⟩
end Go.Proofs.Ytonilojjahfboaa
