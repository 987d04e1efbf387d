/- WebTexts, of any arguments; an edge of an argument in memory. Conditions: each lemma's own premises. -/
import Derived.Test.YtcafedfldmcbiaaTextsLaw2
namespace Go.Proofs.Ytcafedfldmcbiaa
open Go.RowKit Go.Maps

set_option maxRecDepth 100000 in
theorem edge_at {w : World} {cs : List Value} (h : Mem Try.prog w 35 cs) : ∃ (i : Int) (l : ByteArray) (f t : Int) (a : Option Addr) (ps : List Pr) (cap : Nat), cs = [.int .i64 i, .string l, .int .i64 f, .int .i64 t, .slice a ps.length cap] ∧ I64 i ∧ I64 f ∧ I64 t ∧ l.size ≤ maxLen ∧ ps.length ≤ maxLen ∧ PrV w a ps := by
  obtain ⟨hl, hf⟩ := h.struct Try.underlying35
  have e3 : Try.prog.cellsOf 35 = 5 := by kernel_rfl
  have e2 : Try.prog.cellsOf 9 = 1 := by kernel_rfl
  have e1 : Try.prog.cellsOf 3 = 1 := by kernel_rfl
  have e4 : Try.prog.cellsOf 22 = 1 := by kernel_rfl
  rw [e3] at hl
  obtain ⟨i, hi, wi⟩ := (hf 0 _ rfl).int Try.underlying3
  obtain ⟨s, hs, ws⟩ := (hf 1 _ rfl).string Try.underlying9
  obtain ⟨f, hff, wf⟩ := (hf 2 _ rfl).int Try.underlying3
  obtain ⟨t, ht, wt⟩ := (hf 3 _ rfl).int Try.underlying3
  obtain ⟨a, ps, cap, ea, hm, hv⟩ := props_at (hf 4 _ rfl)
  obtain ⟨p, q, r, u, v, rfl⟩ : ∃ p q r u v, cs = [p, q, r, u, v] := by
    match cs, hl with
    | [p, q, r, u, v], _ => exact ⟨p, q, r, u, v, rfl⟩
  simp [e1, e2, e4] at hi hs hff ht ea
  subst hi hs hff ht ea
  exact ⟨i, s, f, t, a, ps, cap, rfl, I64.of_wf wi, I64.of_wf wf, I64.of_wf wt, ws, hm, hv⟩
theorem texts_any (i1 i2 f t : Int) (l1 l2 s : ByteArray) (a1 a2 : Option Addr) (c1 c2 : Nat) (x y : List Pr) (w : World) (hx : PrV w a1 x) (hy : PrV w a2 y) (lx : x.length ≤ maxLen) (ly : y.length ≤ maxLen) (s1 : l1.size ≤ maxLen) (s2 : l2.size ≤ maxLen) (s3 : s.size ≤ maxLen)
    (g1 : I64 i1) (g2 : I64 i2) (g3 : I64 f) (g4 : I64 t) :
    Calls Try.prog 6 #[.agg #[.int .i64 i1, .string l1, .slice a1 x.length c1], .agg #[.int .i64 i2, .string l2, .int .i64 f, .int .i64 t, .slice a2 y.length c2], .string s] w fun e w' => e = .returned (.bool true) ∧ Below w.heap.size w w' := by
  by_cases h : smallP x = false ∨ smallP y = false ∨ 2000 < s.size ∨ 200 < l1.size ∨ 200 < l2.size
  · exact texts_out i1 i2 f t l1 l2 s a1 a2 c1 c2 x y w hx hy lx ly s1 s2 s3 h
  · have k1 : smallP x = true := by
      cases e : smallP x
      · exact absurd (.inl e) h
      · rfl
    have k2 : smallP y = true := by
      cases e : smallP y
      · exact absurd (.inr (.inl e)) h
      · rfl
    have k5 : s.size ≤ 2000 := Nat.le_of_not_lt fun e => h (.inr (.inr (.inl e)))
    have k3 : l1.size ≤ 200 := Nat.le_of_not_lt fun e => h (.inr (.inr (.inr (.inl e))))
    have k4 : l2.size ≤ 200 := Nat.le_of_not_lt fun e => h (.inr (.inr (.inr (.inr e))))
    exact texts_in i1 i2 f t l1 l2 s a1 a2 c1 c2 x y w hx hy k3 k4 k5 g1 g2 g3 g4 k1 k2
end Go.Proofs.Ytcafedfldmcbiaa
