/- Layer 19: the law's examples, the walk. Conditions: none. -/
import Derived.Test.YtaanohgkdpohhaaPb4
import Derived.Test.YtaanohgkdpohhaaPb5
import Derived.BigRegion
namespace Go.Proofs.Ytaanohgkdpohhaa
open Go.RowKit Go.Maps

set_option maxRecDepth 100000 in
set_option maxHeartbeats 4000000 in
theorem awake19_any (w : World) : Calls Try.prog 52 #[] w fun e w' => e = .returned (.bool true) ∧ Below w.heap.size w w' := by
  obtain ⟨pb, hpb⟩ : ∃ pb, pb = w.heap.size := ⟨_, rfl⟩
  obtain ⟨W, hW⟩ : ∃ W, W = w.alloc (.cells #[.slice none 0 0, .slice none 0 0] 105) := ⟨_, rfl⟩
  have HI0 : Hid (AwI w pb W none 0 0 none 0 0) := Lib.hid ⟨by rw [hW, hpb]; exact heap_new _ _, RowK.Own.nil kVr _ _, RowK.Own.nil kEr _ _, by rw [hW]; exact below_box _ _, hpb⟩
  have HW := Lib.hid hW.symm
  have HPB := Lib.hid hpb
  clear hW
  go_enter Try.func52, Try.ntmps52
  go_upto_region 2 with fail
  rw [HW.out, ← HPB.out]
  clear hpb
  go_wp2_with fail
  go_loopw [2] (fun i wr => ∃ (k : Nat) (va : Option Addr) (vc : Nat), i = .int .i64 ((k : Int) + 1) ∧ k ≤ 4 ∧ Hid (AwI w pb wr va vc k none 0 0)) (fun i _ => 5 - (intOf i).toNat)
  case atStart => exact ⟨0, none, 0, rfl, Nat.zero_le _, HI0⟩
  case round =>
    obtain ⟨k, va, vc, rfl, hk, HI⟩ := hrel
    by_cases hlt : k < 4
    · have b0 := cell_of_blk HI.out.box 0
      simp at b0
      have hz : pb < wr.heap.size := HI.out.size
      have HCA := Lib.hid (HI.out.alloc (.cells #[.int .i64 ((k : Int) + 1), .string ⟨#[97]⟩, .slice none 0 0] 83))
      have HXV : Hid (kVr.V (wr.alloc (.cells #[.int .i64 ((k : Int) + 1), .string ⟨#[97]⟩, .slice none 0 0] 83)) (some ⟨wr.heap.size, 0, none⟩) [vA k]) := Lib.hid (fun _ => ⟨_, 0, rfl, RowK.new_at (k := kVr) (heap_new wr _) (by simp [RowK.cells, kVr, Vr.enc, vA])⟩)
      go_wp2_with (first | (at_builtin; refine RowK.wpList_app (k := kVr) (B := pb + 1) (v := .slice va k vc) (l := VA k) rfl (.tmp 17) (.tmp 20) rfl rfl HCA.out.oV (some ⟨wr.heap.size, 0, none⟩) 1 [vA k] 1 rfl rfl HXV.out (fun e => by cases e) (by rw [VA_len]; simp; omega) HCA.out.size ?_; intro v8 w8 hA; obtain ⟨va8, vc8, hv8⟩ := hA.1.shape; rw [show (VA k ++ [vA k]).length = k + 1 by rw [← VA_succ, VA_len]] at hv8; subst hv8; have hP := HCA.out.putV hA; have y0 := cell_of_blk hP.1 0; have f0 := frozen_of_blk hP.1 0; have z0 : pb < w8.heap.size := (Array.getElem?_eq_some_iff.1 hP.1).1; simp at y0; have HP := Lib.hid hP.2; clear hA hP) | fail)
      exact ⟨⟨k + 1, va8, vc8, by simp, hlt, HP⟩, by simp [intOf]; omega⟩
    · obtain ⟨i4, hi4⟩ : ∃ i : Int, i = (k : Int) + 1 := ⟨_, rfl⟩
      rw [← hi4]
      have t4 : decide (i4 ≤ 4) = false := by simp; omega
      have h4 : ¬ i4 ≤ 4 := by omega
      obtain rfl : k = 4 := by omega
      clear hi4
      go_wp2_with fail
      clear hlt hk t4 h4
      obtain ⟨xb, hxb⟩ : ∃ xb, xb = wr.heap.size := ⟨_, rfl⟩
      obtain ⟨W2, hW2⟩ : ∃ W2, W2 = wr.alloc (.cells #[.int .i64 1, .int .i64 2, .int .i64 1, .int .i64 3, .int .i64 2, .int .i64 4, .int .i64 3, .int .i64 4] 117) := ⟨_, rfl⟩
      have HX0 : Hid (W2.heap[xb]? = some (.cells #[.int .i64 1, .int .i64 2, .int .i64 1, .int .i64 3, .int .i64 2, .int .i64 4, .int .i64 3, .int .i64 4] 117 (0, 0))) := Lib.hid (by rw [hW2, hxb]; exact heap_new _ _)
      have HI2 : Hid (AwI w pb W2 va vc 4 none 0 0) := Lib.hid (by rw [hW2]; exact HI.out.alloc _)
      rw [← hW2, ← hxb]
      have HXP : Hid (pb < xb) := Lib.hid (by rw [hxb]; exact HI.out.size)
      clear hW2 hxb HI
      go_loopw [4] (fun i wr => ∃ (k : Nat) (ea : Option Addr) (ec : Nat), i = .int .i64 (k : Int) ∧ k ≤ 4 ∧ Hid (AwI w pb wr va vc 4 ea ec k) ∧ Hid (wr.heap[xb]? = some (.cells #[.int .i64 1, .int .i64 2, .int .i64 1, .int .i64 3, .int .i64 2, .int .i64 4, .int .i64 3, .int .i64 4] 117 (0, 0)))) (fun i _ => 4 - (intOf i).toNat)
      case atStart => exact ⟨0, none, 0, rfl, Nat.zero_le _, HI2, HX0⟩
      case round =>
        obtain ⟨k, ea, ec, rfl, hk, HI, HX⟩ := hrel
        by_cases hlt : k < 4
        · have b1 := cell_of_blk HI.out.box 1
          simp at b1
          have hz : pb < wr.heap.size := HI.out.size
          have hzx : xb < wr.heap.size := (Array.getElem?_eq_some_iff.1 HX.out).1
          have x0 : wr.cell? ⟨xb, k * 2, none⟩ = some (.int .i64 (fA k)) := by
            rw [cell_of_blk HX.out]
            rcases (by omega : k = 0 ∨ k = 1 ∨ k = 2 ∨ k = 3) with rfl | rfl | rfl | rfl <;> rfl
          have x1 : wr.cell? ⟨xb, k * 2 + 1, none⟩ = some (.int .i64 (tA k)) := by
            rw [cell_of_blk HX.out]
            rcases (by omega : k = 0 ∨ k = 1 ∨ k = 2 ∨ k = 3) with rfl | rfl | rfl | rfl <;> rfl
          have HCA : Hid (AwI w pb (wr.drew.alloc (.cells #[.int .i64 (k : Int), .string ⟨#[120]⟩, .int .i64 (fA k), .int .i64 (tA k), .slice none 0 0] 86)) va vc 4 ea ec k) := Lib.hid ((HI.out.drewN 1).alloc _)
          have HXV : Hid (kEr.V (wr.drew.alloc (.cells #[.int .i64 (k : Int), .string ⟨#[120]⟩, .int .i64 (fA k), .int .i64 (tA k), .slice none 0 0] 86)) (some ⟨wr.heap.size, 0, none⟩) [eA k]) := Lib.hid (fun _ => ⟨_, 0, rfl, RowK.new_at (k := kEr) (heap_new wr.drew _) (by simp [RowK.cells, kEr, Er.enc, eA])⟩)
          have HX2 : Hid ((wr.drew.alloc (.cells #[.int .i64 (k : Int), .string ⟨#[120]⟩, .int .i64 (fA k), .int .i64 (tA k), .slice none 0 0] 86)).heap[xb]? = some (.cells #[.int .i64 1, .int .i64 2, .int .i64 1, .int .i64 3, .int .i64 2, .int .i64 4, .int .i64 3, .int .i64 4] 117 (0, 0))) := Lib.hid ((Below.heap_alloc wr.drew _ xb hzx).trans HX.out)
          go_upto_region 10 with fail
          go_region_law (first | (refine RowK.step_app (k := kEr) (B := pb + 1) (v := .slice ea k ec) (l := EA k) rfl (.tmp 35) (.tmp 48) rfl rfl HCA.out.oE (some ⟨wr.heap.size, 0, none⟩) 1 [eA k] 1 rfl rfl HXV.out (fun e => by cases e) (by rw [EA_len]; simp; omega) HCA.out.size ?_; intro v8 w8 hA; obtain ⟨ea8, ec8, hv8⟩ := hA.1.shape; rw [show (EA k ++ [eA k]).length = k + 1 by rw [← EA_succ, EA_len]] at hv8; subst hv8; have hP := HCA.out.putE hA; have y0 := cell_of_blk hP.1 1; have f0 := frozen_of_blk hP.1 1; have z0 : pb < w8.heap.size := (Array.getElem?_eq_some_iff.1 hP.1).1; have HX8 : Hid ((w8.setCell ⟨pb, 1, none⟩ (.slice ea8 (k + 1) ec8)).heap[xb]? = some (.cells #[.int .i64 1, .int .i64 2, .int .i64 1, .int .i64 3, .int .i64 2, .int .i64 4, .int .i64 3, .int .i64 4] 117 (0, 0))) := Lib.hid ((Below.heap_setCell _ _ _ _ (by have := HXP.out; show xb ≠ pb; omega)).trans ((hA.2.1.block xb (Array.getElem?_eq_some_iff.1 HX2.out).1 (own_ty HCA.out.oE HX2.out (by decide))).trans HX2.out)); simp at y0; have HP := Lib.hid hP.2; clear hA hP) | fail)
          all_goals (
            clear x0 x1 b1
            go_wp2_with fail
            exact ⟨⟨k + 1, ea8, ec8, by simp, hlt, HP, HX8⟩, by simp [intOf]; omega⟩)
        · obtain rfl : k = 4 := by omega
          have b0 := cell_of_blk HI.out.box 0
          have b1 := cell_of_blk HI.out.box 1
          simp at b0 b1
          have hz : pb < wr.heap.size := HI.out.size
          have HBT : Hid (Calls Try.prog 54 #[.agg #[.slice va 4 vc, .slice ea 4 ec]] wr (BtPost wr (VA 4) (EA 4))) := Lib.hid (by
            have := built19_any va ea vc ec (VA 4) (EA 4) wr ⟨HI.out.oV.toV, HI.out.oE.toV, fun x hx => ?_, fun x hx => ?_, by rw [VA_len]; decide, by rw [EA_len]; decide⟩
            · rw [VA_len, EA_len] at this
              exact this
            · obtain ⟨j, hj, rfl⟩ := List.mem_map.1 hx
              have hj := List.mem_range.1 hj
              exact ⟨psA_nil _, by show 0 ≤ 100000; omega, by show I64 ((j : Int) + 1); unfold I64; omega, by show 1 ≤ 2000000; omega⟩
            · obtain ⟨j, hj, rfl⟩ := List.mem_map.1 hx
              have hj := List.mem_range.1 hj
              have h1 := fA_in j
              have h2 := tA_in j
              exact ⟨psA_nil _, by show 0 ≤ 100000; omega, ⟨by show I64 (j : Int); unfold I64; omega, by show I64 (fA j); unfold I64; omega, by show I64 (tA j); unfold I64; omega⟩, by show 1 ≤ 2000000; omega⟩)
          have HBW : Hid (Below w.heap.size w wr) := Lib.hid HI.out.bel
          clear HI HX
          go_wp2_with fail
          refine HBT.out.mono ?_
          rintro e w3 ⟨gb, vb, eb, rb, B, rfl, hg, _, hb⟩
          rw [awV 4 (Nat.le_refl _), show adE ((VA 4).map Vr.v) [] ((EA 4).map Er.e) = E4 from awE 4 (Nat.le_refl _)] at hg
          have HG : Hid (GrC w3 gb vb eb V4 E4) := Lib.hid hg
          have HB3 : Hid (Below w.heap.size w w3) := Lib.hid (HBW.out.trans (hb.mono HBW.out.size))
          clear hg hb b0 b1 hz
          go_wp2_with fail
          refine (run19_any gb vb eb V4 E4 ⟨1, 4, noB, 9⟩ 100 w3 HG.out (by decide) (by decide) (by show I64 1; unfold I64; omega) (by show I64 4; unfold I64; omega) (by decide) (by decide)).mono ?_
          rintro e w4 ⟨v1, l1, code1, rfl, o1, k1, r1⟩
          obtain ⟨rfl, rfl⟩ := aw_one r1
          obtain ⟨a1, c1, rfl⟩ := o1.shape
          have HO1 := Lib.hid o1
          have HB4 : Hid (Below w.heap.size w w4) := Lib.hid (HB3.out.trans (k1.mono HB3.out.size))
          have HG4 := Lib.hid (HG.out.below k1)
          clear r1 o1 k1
          go_wp2_with fail
          refine (run19_any gb vb eb V4 E4 ⟨1, 4, noB, 1⟩ 100 w4 HG4.out (by decide) (by decide) (by show I64 1; unfold I64; omega) (by show I64 4; unfold I64; omega) (by decide) (by decide)).mono ?_
          rintro e w5 ⟨v2, l2, code2, rfl, _, k2, r2⟩
          obtain rfl := aw_two r2
          have HO5 := Lib.hid (HO1.out.below k2)
          have HB5 : Hid (Below w.heap.size w w5) := Lib.hid (HB4.out.trans (k2.mono HB4.out.size))
          clear r2 k2
          obtain ⟨a2, c2, rfl⟩ : ∃ a2 c2, v2 = .slice a2 l2.length c2 := by
            rename_i o2
            exact o2.shape
          have HI5 : Hid (Calls Try.prog 57 #[.slice a1 3 c1, .slice (some ⟨w5.heap.size, 0, none⟩) 3 3] (w5.alloc (.cells #[.int .i64 1, .int .i64 2, .int .i64 4] 3)) (fun e w' => e = .returned (.bool true) ∧ Below w5.heap.size w5 w')) := Lib.hid ((ints10_any a1 (some ⟨w5.heap.size, 0, none⟩) c1 3 [1, 2, 4] [1, 2, 4] _ ((HO5.out.alloc _).toV) (fun _ => ⟨_, 0, rfl, RowK.new_at (k := kI) (heap_new w5 _) rfl⟩) (by decide)).mono (fun e w' h => ⟨h.1, (below_box w5 _).trans (h.2.mono (by simp))⟩))
          go_wp2_with fail
          refine HI5.out.mono ?_
          rintro e w6 ⟨rfl, b6⟩
          have HB6 : Hid (Below w.heap.size w w6) := Lib.hid (HB5.out.trans (b6.mono HB5.out.size))
          clear b6
          go_wp2_with fail
          go_ret
          exact ⟨rfl, HB6.out⟩
end Go.Proofs.Ytaanohgkdpohhaa
