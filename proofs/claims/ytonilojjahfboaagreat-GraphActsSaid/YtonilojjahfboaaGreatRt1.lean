/- Reference 16: Labeled. Conditions: the contract's own premises. -/
import Derived.Test.YtonilojjahfboaaGreatGlA
import Derived.Test.YtonilojjahfboaaGreatRgA
import Derived.Test.YtonilojjahfboaaGreatGfA
import Derived.Deep.Cut
namespace Go.Proofs.YtonilojjahfboaaGreat
open Go.RowKit Go.Maps

theorem labL_take {VL : List Vr} {j : Nat} {x : Vr} (lab : ByteArray) (hx : VL[j]? = some x) : labL ((VL.take (j + 1)).map Vr.v) lab = labL ((VL.take j).map Vr.v) lab ++ (if x.v.label = lab then [x.v.id] else []) := by
  unfold labL
  rw [List.take_add_one, hx, List.map_append, List.filter_append, List.map_append]
  congr 1
  by_cases h : x.v.label = lab <;> simp [h]
set_option maxRecDepth 100000 in
set_option maxHeartbeats 2000000 in
theorem r16labeled_any {w : World} {rb : Nat} {VL : List Vr} {va : Option Addr} {vc : Nat} (c0 : w.cell? ⟨rb, 0, none⟩ = some (.slice va VL.length vc)) (hv : kVr.V w va VL) (hl : VL.length ≤ 1000000) (lab : ByteArray) :
    Calls Tryz.prog 147 #[.pointer (some ⟨rb, 0, none⟩), .string lab] w (LbPost w (labL (VL.map Vr.v) lab)) := by
  obtain ⟨m, hm⟩ : ∃ m, m = VL.length := ⟨_, rfl⟩
  have hz := block_lt_of_cell c0
  have HC : Hid (∀ u, Below w.heap.size w u → u.cell? ⟨rb, 0, none⟩ = some (.slice va m vc) ∧ rb < u.heap.size ∧ kVr.V u va VL) := Lib.hid (fun u hu => ⟨by rw [hm]; exact below_cell hu 0 hz c0, Nat.lt_of_lt_of_le hz hu.size, hv.below hu⟩)
  have HM : Hid (m = VL.length ∧ m ≤ 1000000) := Lib.hid ⟨hm, by omega⟩
  clear c0 hv hl hm hz
  go_enter Tryz.func147, Tryz.ntmps147
  go_wp2_with fail
  go_loopw [5, 6] (fun v i wr => ∃ j : Nat, i = .int .i64 j ∧ j ≤ m ∧ kI.Own wr w.heap.size v (labL ((VL.take j).map Vr.v) lab) ∧ Below w.heap.size w wr) (fun _ i _ => m - (intOf i).toNat)
  case atStart => exact ⟨0, rfl, Nat.zero_le _, RowK.Own.nil kI _ _, Below.refl _ _⟩
  case round =>
    obtain ⟨j, rfl, hj, hO, hB⟩ := hrel
    have hml := HM.out.2
    obtain ⟨oa, oc, rfl⟩ := hO.shape
    obtain ⟨acc, hacc⟩ : ∃ l, l = labL ((VL.take j).map Vr.v) lab := ⟨_, rfl⟩
    rw [← hacc] at hO ⊢
    have HAC := Lib.hid hacc
    have HO := Lib.hid hO
    have HB := Lib.hid hB
    have HAL : Hid (acc.length ≤ j) := Lib.hid (by rw [hacc]; refine Nat.le_trans (labL_len _ _) ?_; rw [List.length_map, List.length_take]; omega)
    obtain ⟨d1, hz, hv⟩ := HC.out wr hB
    clear hacc hO hB
    by_cases hlt : j < m
    · obtain ⟨x, hx⟩ : ∃ x, VL[j]? = some x := ⟨_, List.getElem?_eq_getElem (by have := HM.out; omega)⟩
      obtain ⟨b, off, rfl, hat⟩ := hv (fun e => by rw [e] at hx; simp at hx)
      obtain ⟨x0, x1, _⟩ := kVr_cells hat hx
      have hbl := hat.lt
      have HT := Lib.hid (labL_take lab hx)
      have tj : decide ((j : Int) < (m : Int)) = true := decide_eq_true (by omega)
      have hjz : (j : Int) < (m : Int) := by omega
      clear hat hx hv
      have HXV := Lib.hid (int_new wr wr.heap.size rfl x.v.id)
      have HOA := Lib.hid (HO.out.alloc (.cells #[.int .i64 x.v.id] 3))
      have HZW := Lib.hid HB.out.size
      obtain ⟨xl, hxl⟩ : ∃ l, l = x.v.label := ⟨_, rfl⟩
      rw [← hxl] at x1
      by_cases he : xl = lab
      · have t1 : (xl.toList == lab.toList) = true := by simp [he]
        have HP : Hid (acc ++ [x.v.id] = labL ((VL.take (j + 1)).map Vr.v) lab) := Lib.hid (by rw [HT.out, ← HAC.out, if_pos (hxl.symm.trans he)])
        clear he hxl
        go_wp2_with (first | (at_builtin; refine RowK.wpList_app (k := kI) rfl (.tmp 26) (.tmp 35) rfl rfl HOA.out (some ⟨wr.heap.size, 0, none⟩) 1 [x.v.id] 1 rfl rfl HXV.out (fun e => by cases e) (by have := HAL.out; simp; omega) (by have := HZW.out; simp; omega) ?_; intro v8 w8 hA; have HA8 := Lib.hid hA; clear hA) | fail)
        obtain ⟨oA, gA, kA⟩ := HA8.out
        refine ⟨⟨j + 1, by simp, hlt, by rw [← HP.out]; exact oA, (HB.out.alloc HZW.out _).grown gA (by have := HZW.out; simp; omega) (fun q hq => (HOA.out.lt q hq).1)⟩, by simp [intOf]; omega⟩
      · have t1 : (xl.toList == lab.toList) = false := by simpa using fun e => he (by cases xl; cases lab; simp only [ByteArray.toList_eq] at e; congr 1; exact Array.toList_inj.1 e)
        have HP : Hid (acc = labL ((VL.take (j + 1)).map Vr.v) lab) := Lib.hid (by rw [HT.out, ← HAC.out, if_neg (fun e => he (hxl.trans e)), List.append_nil])
        clear he hxl
        go_wp2_with fail
        exact ⟨⟨j + 1, by simp, hlt, by rw [← HP.out]; exact HO.out, HB.out⟩, by simp [intOf]; omega⟩
    · have hjm : j = m := by omega
      have tj : decide ((j : Int) < (m : Int)) = false := decide_eq_false (by omega)
      have HEND : Hid (acc = labL (VL.map Vr.v) lab) := Lib.hid (by rw [HAC.out, List.take_of_length_le (by rw [← HM.out.1]; omega)])
      clear hjm
      go_wp2_with fail
      go_ret
      exact ⟨_, rfl, by rw [← HEND.out]; exact HO.out, HB.out⟩
end Go.Proofs.YtonilojjahfboaaGreat
