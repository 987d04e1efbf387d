/- graph.Clone. Conditions: each contract's own premises. -/
import Derived.Test.YtonilojjahfboaaGreatGrA
import Derived.Shelf.SlMaps.Clone
import Derived.Deep.RegionHeld3
namespace Go.Proofs.YtonilojjahfboaaGreat
open Go.RowKit Go.Maps

set_option maxRecDepth 100000 in
set_option maxHeartbeats 2000000 in
theorem mcloneV_any {w : World} {b n : Nat} {f : Lit → Option Value} (h : mapR w Tryz.prog 3 b n f) :
    Calls Tryz.prog 145 #[.map (some b)] w fun e w' => e = .returned (.map (some w.heap.size)) ∧ mapR w' Tryz.prog 3 w.heap.size n f ∧ Below w.heap.size w w' := by
  obtain ⟨D, ⟨es, clock, hb, F, hs, hD⟩, h2, h3⟩ := h
  have hq := fun w => run_eql_map_nil_sl (P := Tryz.prog) w 163 _ _ (some b) Tryz.underlying163
  have HF : Hid (mapR (w.alloc (.map es clock)) Tryz.prog 3 w.heap.size n f) := Lib.hid ⟨D, ⟨es, clock, heap_new _ _, F, hs, hD⟩, h2, h3⟩
  clear h2 h3 F hs hD
  go_enter Tryz.func145, Tryz.ntmps145
  go_wp2
  rw [run_callFunc_extern Tryz.func238 (by kernel_rfl) (by kernel_rfl) (by kernel_rfl) (e := Extern.MapsClone.clone) (by kernel_rfl), run_maps_clone_sl w 163 hb]
  simp only [Result.andThen]
  rw [Oper.upon_value]
  go_wp2
  rw [run_typeAssert_map_sl _ 163 20 _ _ _ Tryz.underlying163]
  simp only [Result.andThen]
  rw [Oper.upon_value]
  go_wp2
  go_ret
  exact ⟨rfl, HF.out, below_box w _⟩
set_option maxRecDepth 100000 in
set_option maxHeartbeats 2000000 in
theorem mcloneE_any {w : World} {b n : Nat} {f : Lit → Option Value} (h : mapR w Tryz.prog 3 b n f) :
    Calls Tryz.prog 146 #[.map (some b)] w fun e w' => e = .returned (.map (some w.heap.size)) ∧ mapR w' Tryz.prog 3 w.heap.size n f ∧ Below w.heap.size w w' := by
  obtain ⟨D, ⟨es, clock, hb, F, hs, hD⟩, h2, h3⟩ := h
  have hq := fun w => run_eql_map_nil_sl (P := Tryz.prog) w 164 _ _ (some b) Tryz.underlying164
  have HF : Hid (mapR (w.alloc (.map es clock)) Tryz.prog 3 w.heap.size n f) := Lib.hid ⟨D, ⟨es, clock, heap_new _ _, F, hs, hD⟩, h2, h3⟩
  clear h2 h3 F hs hD
  go_enter Tryz.func146, Tryz.ntmps146
  go_wp2
  rw [run_callFunc_extern Tryz.func238 (by kernel_rfl) (by kernel_rfl) (by kernel_rfl) (e := Extern.MapsClone.clone) (by kernel_rfl), run_maps_clone_sl w 164 hb]
  simp only [Result.andThen]
  rw [Oper.upon_value]
  go_wp2
  rw [run_typeAssert_map_sl _ 164 20 _ _ _ Tryz.underlying164]
  simp only [Result.andThen]
  rw [Oper.upon_value]
  go_wp2
  go_ret
  exact ⟨rfl, HF.out, below_box w _⟩
/-- what Clone leaves: another graph, the same -/
def GcnPost (w : World) (V : List Vt) (E : List Eg) (e : Ending) (w' : World) : Prop :=
  ∃ gb vb eb, e = .returned (.pointer (some ⟨gb, 0, none⟩)) ∧ GrC w' gb vb eb V E ∧ Below w.heap.size w w' ∧ w.heap.size ≤ gb ∧ w.heap.size ≤ vb ∧ w.heap.size ≤ eb
set_option maxRecDepth 100000 in
set_option maxHeartbeats 2000000 in
theorem gclone_any (gb vb eb : Nat) (V : List Vt) (E : List Eg) (w : World) (h : GrC w gb vb eb V E) :
    Calls Tryz.prog 63 #[.pointer (some ⟨gb, 0, none⟩)] w (GcnPost w V E) := by
  have HG := Lib.hid h
  have HFC : Hid (∀ u, Below w.heap.size w u → u.cell? ⟨gb, 0, none⟩ = some (.map (some vb)) ∧ u.cell? ⟨gb, 1, none⟩ = some (.map (some eb)) ∧ gb < u.heap.size) := Lib.hid (fun u hu => by
    have e := (h.below hu).blk
    exact ⟨by rw [cell_of_blk e]; rfl, by rw [cell_of_blk e]; rfl, (h.below hu).lt⟩)
  obtain ⟨f, m, hf⟩ := h.vm
  obtain ⟨g, k, hg⟩ := h.em
  have HCV := Lib.hid (mcloneV_any (m.of_block (w' := w.drew) rfl))
  have HCE : Hid (∀ u, Below w.heap.size w u → Calls Tryz.prog 146 #[.map (some eb)] u fun e w' => e = .returned (.map (some u.heap.size)) ∧ mapR w' Tryz.prog 3 u.heap.size E.length g ∧ Below u.heap.size u w') := Lib.hid (fun u hu => mcloneE_any (k.of_block (hu.block _ k.lt)))
  have HVM := Lib.hid hf
  have HEM := Lib.hid hg
  obtain ⟨c0, c1, zl⟩ := HFC.out w (Below.refl _ _)
  clear h m hf k hg
  go_enter Tryz.func63, Tryz.ntmps63
  go_upto_region 1 with fail
  go_region_held3 (fun u => Below w.heap.size w u ∧ u.cell? ⟨gb, 0, none⟩ = some (.map (some vb)) ∧ u.cell? ⟨gb, 1, none⟩ = some (.map (some eb)) ∧ gb < u.heap.size)
    (first | exact ⟨(Below.refl _ _).drew, HFC.out _ (Below.refl _ _).drew⟩ | exact ⟨HBB.out, HFC.out _ HBB.out⟩ | exact ⟨HBA.out, HFC.out _ HBA.out⟩ | exact ⟨below_then HBB.out (below_box _ _), HFC.out _ (below_then HBB.out (below_box _ _))⟩)
    (first | (go_at_call 145; (with_reducible refine HCV.out.mono ?_); rintro e w1 ⟨rfl, m1, b1⟩; have HM1 := Lib.hid m1; have HBA := Lib.hid (show Below w.heap.size w w1 from below_then (below_drewN (Below.refl w.heap.size w) 1) b1); have HCE1 := Lib.hid (HCE.out w1 HBA.out); clear m1 b1) | (go_at_call 146; (with_reducible refine HCE1.out.mono ?_); rintro e w2 ⟨rfl, m2, b2⟩; have HM2 := Lib.hid m2; have HB2 := Lib.hid b2; have HBB := Lib.hid (below_then HBA.out b2); clear m2 b2) | fail)
  all_goals
    have hv1 : w.heap.size < w1.heap.size := HM1.out.lt
    have hv2 : w1.heap.size < w2.heap.size := HM2.out.lt
    have hbx := below_box w2 (.cells #[.map (some w.heap.size), .map (some w1.heap.size)] 166)
    have hG : GrC (w2.alloc (.cells #[.map (some w.heap.size), .map (some w1.heap.size)] 166)) w2.heap.size w.heap.size w1.heap.size V E := ⟨heap_new w2 _, ⟨_, HM1.out.of_block ((hbx.block _ (Nat.lt_trans hv1 hv2)).trans (HB2.out.block _ hv1)), HVM.out.below (below_then HBB.out hbx)⟩, ⟨_, HM2.out.of_block (hbx.block _ hv2), HEM.out.below (below_then HBB.out hbx)⟩, HG.out.ok, by omega⟩
    have HG9 := Lib.hid hG
    clear hv1 hv2 hbx hG
    go_wp2_with fail
    go_ret
    exact ⟨_, _, _, rfl, HG9.out, below_then HBB.out (below_box _ _), by have := HBB.out.size; omega, Nat.le_refl _, HBA.out.size⟩
end Go.Proofs.YtonilojjahfboaaGreat
