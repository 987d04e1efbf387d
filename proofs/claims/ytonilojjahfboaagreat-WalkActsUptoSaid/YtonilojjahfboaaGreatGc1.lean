/- graph.Check. Conditions: each contract's own premises. -/
import Derived.Test.YtonilojjahfboaaGreatWb4
namespace Go.Proofs.YtonilojjahfboaaGreat
open Go.RowKit Go.Maps

/-- what Check says -/
noncomputable def checkR (label : ByteArray) (ps : List Pr) (ids : List Int) : Int := if ids.any idB = true then 2 else if badS label = true then 30 else if rightPs ps = true then 0 else 10
set_option maxHeartbeats 400000 in
theorem check_any (label : ByteArray) (pa ia : Option Addr) (pc ic : Nat) (ps : List Pr) (ids : List Int) (w : World) (hl : label.size ≤ maxLen) (hp : PsV w pa ps) (hi : IsV w ia ids) (lp : ps.length ≤ 100000) (li : ids.length ≤ 100000) :
    Calls Tryz.prog 150 #[.string label, .slice pa ps.length pc, .slice ia ids.length ic] w fun e w' => e = .returned (.int .i64 (checkR label ps ids)) ∧ Below w.heap.size w w' := by
  have HL := Lib.hid hl
  clear hl
  go_enter Tryz.func150, Tryz.ntmps150
  go_wp2_with fail
  refine (conIs_any ia ic ids _ hi li).mono ?_
  rintro e w1 ⟨rfl, hb1⟩
  clear hi
  obtain ⟨b1, h1⟩ : ∃ b1, ids.any idB = b1 := ⟨_, rfl⟩
  rw [h1]
  have H1 := Lib.hid h1
  clear h1
  cases b1
  · go_wp2_with fail
    refine (lright_one w1.heap.size 1 label 9 (0, 0) _ (heap_new w1 _) HL.out).mono ?_
    rintro e w2 ⟨rfl, hb2⟩
    have hB2 := below_then (below_al hb1 _) hb2
    obtain ⟨b2, h2⟩ : ∃ b2, badS label = b2 := ⟨_, rfl⟩
    rw [h2]
    have H2 := Lib.hid h2
    clear h2 hb1 hb2
    cases b2
    · go_wp2_with fail
      refine (pright_any pa pc ps _ (hp.below hB2) lp).mono ?_
      rintro e w3 ⟨rfl, hb3⟩
      obtain ⟨b3, h3⟩ : ∃ b3, rightPs ps = b3 := ⟨_, rfl⟩
      rw [h3]
      have H3 := Lib.hid h3
      clear h3 hp
      cases b3
      · go_wp2_with fail
        go_ret
        exact ⟨ret_int (by unfold checkR; rw [H1.out, H2.out, H3.out]; rfl), below_then hB2 hb3⟩
      · go_wp2_with fail
        go_ret
        exact ⟨ret_int (by unfold checkR; rw [H1.out, H2.out, H3.out]; rfl), below_then hB2 hb3⟩
    · go_wp2_with fail
      go_ret
      exact ⟨ret_int (by unfold checkR; rw [H1.out, H2.out]; rfl), hB2⟩
  · go_wp2_with fail
    go_ret
    exact ⟨ret_int (by unfold checkR; rw [H1.out]; rfl), hb1⟩
end Go.Proofs.YtonilojjahfboaaGreat
