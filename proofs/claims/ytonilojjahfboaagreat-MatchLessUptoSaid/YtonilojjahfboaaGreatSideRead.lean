/- Layer 17: parts of an argument of small bulk in memory. Conditions: each lemma's own premises. -/
import Derived.Test.YtonilojjahfboaaGreatPtA
import Derived.Test.YtonilojjahfboaaGreatQbA
namespace Go.Proofs.YtonilojjahfboaaGreat
open Go.RowKit Go.Maps

set_option maxRecDepth 100000 in
theorem parts7U {w : World} {cs : List Value} (h : MemU bulkM Tryz.prog w 90 cs) : ∃ (va : Option Addr) (VL : List Vr) (vc : Nat) (ea : Option Addr) (EL : List Er) (ec : Nat), cs = [.slice va VL.length vc, .slice ea EL.length ec] ∧ kVr.V w va VL ∧ kEr.V w ea EL ∧ (∀ x ∈ VL, VrOk w x) ∧ ∀ x ∈ EL, ErOk w x := by
  obtain ⟨hl, hf⟩ := h.struct Tryz.underlying90
  have e0 : Tryz.prog.cellsOf 90 = 2 := by kernel_rfl
  have e1 : Tryz.prog.cellsOf 36 = 1 := by kernel_rfl
  have e2 : Tryz.prog.cellsOf 37 = 1 := by kernel_rfl
  rw [e0] at hl
  obtain ⟨va, VL, vc, h1, _, _, h4, h5⟩ := rowU kVr Tryz.underlying36 (by kernel_rfl) (VrOk w) (vertexU w) (hf 0 _ rfl)
  obtain ⟨ea, EL, ec, g1, _, _, g4, g5⟩ := rowU kEr Tryz.underlying37 (by kernel_rfl) (ErOk w) (edgeU w) (hf 1 _ rfl)
  obtain ⟨p, q, rfl⟩ : ∃ p q, cs = [p, q] := by
    match cs, hl with
    | [p, q], _ => exact ⟨p, q, rfl⟩
  simp [e1, e2] at h1 g1
  subst h1 g1
  exact ⟨va, VL, vc, ea, EL, ec, rfl, h4, g4, h5, g5⟩
theorem ptIn7_of {w : World} {va ea : Option Addr} {VL : List Vr} {EL : List Er} (h1 : kVr.V w va VL) (h2 : kEr.V w ea EL) (h3 : ∀ x ∈ VL, VrOk w x) (h4 : ∀ x ∈ EL, ErOk w x) (hs : small7B VL EL = true) : PtIn w va ea VL EL := by
  unfold small7B at hs
  obtain ⟨s1, s2, s3, s4⟩ := of_decide_eq_true hs
  refine ⟨h1, h2, fun x hx => ?_, fun x hx => ?_, by omega, by omega⟩
  · obtain ⟨g1, g2, g3⟩ := h3 x hx
    exact ⟨g1, by have := (s3 x hx).1; omega, g2, by omega⟩
  · obtain ⟨g1, g2, g3⟩ := h4 x hx
    exact ⟨g1, by have := (s4 x hx).1; omega, g2, by omega⟩
end Go.Proofs.YtonilojjahfboaaGreat
