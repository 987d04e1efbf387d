/- JournalKeeps, of any arguments. Conditions: none. -/
import Derived.Test.YtcghgnncmnoalaaJk3
namespace Go.Proofs.Ytcghgnncmnoalaa
open Go.RowKit Go.Maps

set_option maxRecDepth 100000 in
theorem epochs_in {w : World} {cs : List Value} (h : Mem Try.prog w 106 cs) : ∃ (a : Option Addr) (l : List Ep) (cap : Nat), cs = [.slice a l.length cap] ∧ l.length ≤ cap ∧ cap ≤ maxLen ∧ EpM w a l := by
  obtain ⟨a, n, cap, rfl, h1, h2, h3⟩ := h.slice Try.underlying106 (of_decide_eq_true (by kernel_rfl))
  have e6 : Try.prog.cellsOf 30 = 1 := by kernel_rfl
  rw [e6] at h3
  obtain ⟨xs, hlen, hx⟩ := list_of (n := n) (Q := fun i (x : Ep) => (IsV w x.a x.l ∧ x.l.length ≤ maxLen) ∧ ∀ b off, a = some ⟨b, off, none⟩ → w.cell? ⟨b, off + i, none⟩ = some (.slice x.a x.l.length x.cap)) (fun i hi => by
    obtain ⟨b, off, rfl, _, hat⟩ := h3 (by omega)
    obtain ⟨es, hl, hc, hm⟩ := hat i hi
    obtain ⟨xa, xl, xc, rfl, g1, g2, g3, _⟩ := ints_in hm
    refine ⟨⟨xa, xc, xl⟩, ⟨g3, Nat.le_trans g1 g2⟩, fun b' off' e => ?_⟩
    injection e with e
    injection e with e1 e2
    subst e1 e2
    have := hc 0 (by omega)
    rw [Nat.mul_one, Nat.add_zero] at this
    exact this)
  subst hlen
  refine ⟨a, xs, cap, rfl, h1, h2, fun hne => ?_⟩
  obtain ⟨b, off, rfl, hb, _⟩ := h3 (List.length_pos_iff.2 hne)
  exact ⟨b, off, rfl, hb, fun i x hi => ⟨(hx i x hi).1.1, (hx i x hi).1.2, (hx i x hi).2 b off rfl⟩⟩
end Go.Proofs.Ytcghgnncmnoalaa
