/- WebApart, of any arguments; vertices, edges and properties of an argument in memory. Conditions: each lemma's own premises. -/
import Derived.Test.YtcafedfldmcbiaaApartLaw2
namespace Go.Proofs.Ytcafedfldmcbiaa
open Go.RowKit Go.Maps

set_option maxRecDepth 100000 in
theorem prop_at {w : World} {cs : List Value} (h : Mem Try.prog w 79 cs) : ∃ p : Pr, (p.key.size ≤ maxLen ∧ p.v.Ok) ∧ cs = [.string p.key, .int .i64 p.v.kind, .int .i64 p.v.n, .string p.v.s] := by
  obtain ⟨hl, hf⟩ := h.struct Try.underlying79
  have e4 : Try.prog.cellsOf 79 = 4 := by kernel_rfl
  have e3 : Try.prog.cellsOf 42 = 3 := by kernel_rfl
  have e2 : Try.prog.cellsOf 9 = 1 := by kernel_rfl
  rw [e4] at hl
  obtain ⟨s, hs, ws⟩ := (hf 0 _ rfl).string Try.underlying9
  obtain ⟨v, hv, ev⟩ := value_at (hf 1 _ rfl)
  obtain ⟨p, q, r, t, rfl⟩ : ∃ p q r t, cs = [p, q, r, t] := by
    match cs, hl with
    | [p, q, r, t], _ => exact ⟨p, q, r, t, rfl⟩
  simp [e2, e3] at hs ev
  obtain ⟨rfl, rfl, rfl⟩ := ev
  subst hs
  exact ⟨⟨s, v⟩, ⟨ws, hv⟩, rfl⟩
set_option maxRecDepth 100000 in
theorem props_at {w : World} {cs : List Value} (h : Mem Try.prog w 22 cs) : ∃ (a : Option Addr) (ps : List Pr) (cap : Nat), cs = [.slice a ps.length cap] ∧ ps.length ≤ maxLen ∧ PrV w a ps := by
  obtain ⟨a, n, cap, rfl, h1, h2, h3⟩ := h.slice Try.underlying22 (of_decide_eq_true (by kernel_rfl))
  have e4 : Try.prog.cellsOf 79 = 4 := by kernel_rfl
  rw [e4] at h3
  have hall : ∀ i, i < n → ∃ p : Pr, (p.key.size ≤ maxLen ∧ p.v.Ok) ∧ ∀ b off, a = some ⟨b, off, none⟩ → w.cell? ⟨b, off + i * 4, none⟩ = some (.string p.key) ∧ w.cell? ⟨b, off + i * 4 + 1, none⟩ = some (.int .i64 p.v.kind) ∧ w.cell? ⟨b, off + i * 4 + 2, none⟩ = some (.int .i64 p.v.n) ∧ w.cell? ⟨b, off + i * 4 + 3, none⟩ = some (.string p.v.s) := by
    intro i hi
    obtain ⟨b, off, rfl, _, hat⟩ := h3 (by omega)
    obtain ⟨es, hl, hc, hm⟩ := hat i hi
    obtain ⟨p, hp, rfl⟩ := prop_at hm
    refine ⟨p, hp, fun b' off' e => ?_⟩
    injection e with e
    injection e with e1 e2
    subst e1 e2
    exact ⟨hc 0 (by omega), hc 1 (by omega), hc 2 (by omega), hc 3 (by omega)⟩
  obtain ⟨ps, hlen, hps⟩ : ∃ ps : List Pr, ps.length = n ∧ ∀ i p, ps[i]? = some p → (p.key.size ≤ maxLen ∧ p.v.Ok) ∧ ∀ b off, a = some ⟨b, off, none⟩ → w.cell? ⟨b, off + i * 4, none⟩ = some (.string p.key) ∧ w.cell? ⟨b, off + i * 4 + 1, none⟩ = some (.int .i64 p.v.kind) ∧ w.cell? ⟨b, off + i * 4 + 2, none⟩ = some (.int .i64 p.v.n) ∧ w.cell? ⟨b, off + i * 4 + 3, none⟩ = some (.string p.v.s) := by
    refine ⟨List.ofFn (fun i : Fin n => (hall i.1 i.2).choose), by simp, fun i p hp => ?_⟩
    rw [List.getElem?_ofFn] at hp
    split at hp
    · rename_i hi
      injection hp with hp
      subst hp
      exact (hall i hi).choose_spec
    · cases hp
  subst hlen
  refine ⟨a, ps, cap, rfl, by omega, fun hne => ?_⟩
  obtain ⟨b, off, rfl, hb, _⟩ := h3 (List.length_pos_iff.2 hne)
  refine ⟨b, off, rfl, ⟨fun p hp => ?_, fun i p hp => (hps i p hp).2 b off rfl, hb⟩⟩
  obtain ⟨i, hi⟩ := List.getElem?_of_mem hp
  exact (hps i p hi).1
set_option maxRecDepth 100000 in
theorem vertex_at {w : World} {cs : List Value} (h : Mem Try.prog w 24 cs) : ∃ (i : Int) (l : ByteArray) (a : Option Addr) (ps : List Pr) (cap : Nat), cs = [.int .i64 i, .string l, .slice a ps.length cap] ∧ I64 i ∧ l.size ≤ maxLen ∧ ps.length ≤ maxLen ∧ PrV w a ps := by
  obtain ⟨hl, hf⟩ := h.struct Try.underlying24
  have e3 : Try.prog.cellsOf 24 = 3 := by kernel_rfl
  have e2 : Try.prog.cellsOf 9 = 1 := by kernel_rfl
  have e1 : Try.prog.cellsOf 3 = 1 := by kernel_rfl
  have e4 : Try.prog.cellsOf 22 = 1 := by kernel_rfl
  rw [e3] at hl
  obtain ⟨i, hi, wi⟩ := (hf 0 _ rfl).int Try.underlying3
  obtain ⟨s, hs, ws⟩ := (hf 1 _ rfl).string Try.underlying9
  obtain ⟨a, ps, cap, ea, hm, hv⟩ := props_at (hf 2 _ rfl)
  obtain ⟨p, q, r, rfl⟩ : ∃ p q r, cs = [p, q, r] := by
    match cs, hl with
    | [p, q, r], _ => exact ⟨p, q, r, rfl⟩
  simp [e1, e2, e4] at hi hs ea
  subst hi hs ea
  exact ⟨i, s, a, ps, cap, rfl, I64.of_wf wi, ws, hm, hv⟩
set_option maxRecDepth 100000 in
theorem ints2_at {w : World} {cs : List Value} (h : Mem Try.prog w 25 cs) : ∃ n m : Int, cs = [.int .i64 n, .int .i64 m] ∧ I64 n ∧ I64 m := by
  obtain ⟨hl, hf⟩ := h.array Try.underlying25
  have e2 : Try.prog.cellsOf 25 = 2 := by kernel_rfl
  have e1 : Try.prog.cellsOf 3 = 1 := by kernel_rfl
  rw [e2] at hl
  rw [e1] at hf
  obtain ⟨p, q, rfl⟩ : ∃ p q, cs = [p, q] := by
    match cs, hl with
    | [p, q], _ => exact ⟨p, q, rfl⟩
  obtain ⟨s, hs, ws⟩ := (hf 0 (by omega)).int Try.underlying3
  obtain ⟨t, ht, wt⟩ := (hf 1 (by omega)).int Try.underlying3
  simp at hs ht
  subst hs ht
  exact ⟨s, t, rfl, I64.of_wf ws, I64.of_wf wt⟩
theorem apart_any (i1 i2 e0 e1 : Int) (l1 l2 : ByteArray) (a1 a2 : Option Addr) (c1 c2 : Nat) (x y : List Pr) (w : World) (hx : PrV w a1 x) (hy : PrV w a2 y) (lx : x.length ≤ maxLen) (ly : y.length ≤ maxLen) (s1 : l1.size ≤ maxLen) (s2 : l2.size ≤ maxLen)
    (g1 : I64 i1) (g2 : I64 i2) (g3 : I64 e0) (g4 : I64 e1) :
    Calls Try.prog 3 #[.agg #[.int .i64 i1, .string l1, .slice a1 x.length c1], .agg #[.int .i64 i2, .string l2, .slice a2 y.length c2], .agg #[.int .i64 e0, .int .i64 e1]] w fun e w' => e = .returned (.bool true) ∧ Below w.heap.size w w' := by
  by_cases h : smallP x = false ∨ smallP y = false ∨ 200 < l1.size ∨ 200 < l2.size
  · exact apart_out i1 i2 e0 e1 l1 l2 a1 a2 c1 c2 x y w hx hy lx ly s1 s2 h
  · have k1 : smallP x = true := by
      cases e : smallP x
      · exact absurd (.inl e) h
      · rfl
    have k2 : smallP y = true := by
      cases e : smallP y
      · exact absurd (.inr (.inl e)) h
      · rfl
    have k3 : l1.size ≤ 200 := Nat.le_of_not_lt fun e => h (.inr (.inr (.inl e)))
    have k4 : l2.size ≤ 200 := Nat.le_of_not_lt fun e => h (.inr (.inr (.inr e)))
    exact apart_in i1 i2 e0 e1 l1 l2 a1 a2 c1 c2 x y w hx hy k3 k4 g1 g2 g3 g4 k1 k2
end Go.Proofs.Ytcafedfldmcbiaa
