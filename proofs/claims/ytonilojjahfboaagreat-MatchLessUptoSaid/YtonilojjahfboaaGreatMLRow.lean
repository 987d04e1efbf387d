/- Layer 18: links of an argument have room. Conditions: the lemma's own premises. -/
import Derived.Test.YtonilojjahfboaaGreatMTRow
import Derived.Test.YtonilojjahfboaaGreatMq4
namespace Go.Proofs.YtonilojjahfboaaGreat
open Go.RowKit Go.Maps

set_option maxRecDepth 100000 in
theorem links_cap {w : World} {na la : Option Addr} {n nc l lc : Nat} (h : MemU bulkM Tryz.prog w 116 [.slice na n nc, .slice la l lc]) : l ≤ lc := by
  obtain ⟨_, hf⟩ := h.struct Tryz.underlying116
  have e1 : Tryz.prog.cellsOf 113 = 1 := by kernel_rfl
  have e2 : Tryz.prog.cellsOf 114 = 1 := by kernel_rfl
  have e3 : Tryz.prog.cellsOf 128 = 3 := by kernel_rfl
  obtain ⟨a, k, c, hc, h1, _⟩ := (hf 1 _ rfl).slice Tryz.underlying114 (by rw [e3]; decide)
  simp [e2] at hc
  omega
end Go.Proofs.YtonilojjahfboaaGreat
