/- Layer 16: the law's example. Conditions: none. -/
import Derived.Test.YtonilojjahfboaaGreatGjA
import Derived.Test.YtonilojjahfboaaGreatPb5
namespace Go.Proofs.YtonilojjahfboaaGreat
open Go.RowKit Go.Maps

def aw1 : Vt := ⟨1, ⟨#[97]⟩, []⟩
def aw2 : Vt := ⟨2, ⟨#[97]⟩, []⟩
def ae5 : Eg := ⟨5, ⟨#[120]⟩, 1, 2, []⟩
theorem badZ_a : badS ⟨#[97]⟩ = false := by kernel_rfl
theorem badZ_x : badS ⟨#[120]⟩ = false := by kernel_rfl
open Classical in
theorem rightZ : rightPs [] = true := decide_eq_true ⟨fun _ hi => absurd hi (Nat.not_lt_zero _), Nat.zero_le _⟩
theorem checkZ {label : ByteArray} {ids : List Int} (hb : badS label = false) (hi : ∀ n ∈ ids, 0 ≤ n ∧ n < 1000) : checkR label [] ids = 0 := by
  unfold checkR
  rw [if_neg, if_neg (by rw [hb]; simp), if_pos rightZ]
  intro h
  obtain ⟨n, hn, h2⟩ := List.any_eq_true.1 h
  have := hi n hn
  unfold idB at h2
  simp at h2
  omega
theorem aw_add1 : addV [] aw1 = (0, [aw1]) := by
  unfold addV
  rw [if_pos (show checkR aw1.label aw1.ps [aw1.id] = 0 from checkZ badZ_a (by simp [aw1]))]
  rfl
theorem aw_add2 : addV [aw1] aw2 = (0, [aw1, aw2]) := by
  unfold addV
  rw [if_pos (show checkR aw2.label aw2.ps [aw2.id] = 0 from checkZ badZ_a (by simp [aw2]))]
  rfl
theorem aw_adde : addE [aw1, aw2] [] ae5 = (0, [ae5]) := by
  unfold addE
  rw [if_pos (show checkR ae5.label ae5.ps [ae5.id, ae5.fr, ae5.to] = 0 from checkZ badZ_x (by simp [ae5]))]
  rfl
theorem aw_drop : dropG [aw1, aw2] [ae5] false 1 = (0, [5], [aw2], []) := by
  unfold dropG
  rw [if_neg (by decide), if_pos (by rfl)]
  rfl
theorem ints5_any (a : Option Addr) (c : Nat) (u : World) (h : kI.V u a [5]) :
    Calls Tryz.prog 44 #[.slice a 1 c, .slice (some ⟨u.heap.size, 0, none⟩) 1 1] (u.alloc (.cells #[.int .i64 5] 3)) fun e w' => e = .returned (.bool true) ∧ Below u.heap.size u w' := by
  have := ints10_any a (some ⟨u.heap.size, 0, none⟩) c 1 [5] [5] (u.alloc (.cells #[.int .i64 5] 3)) (h.below (below_box u _)) (fun _ => ⟨_, 0, rfl, RowK.new_at (k := kI) (heap_new u _) rfl⟩) (by decide)
  rw [decide_eq_true (rfl : [(5 : Int)] = [5])] at this
  refine this.mono ?_
  rintro e w' ⟨rfl, hb⟩
  exact ⟨rfl, below_then (below_box u _) hb⟩
set_option maxRecDepth 100000 in
set_option maxHeartbeats 4000000 in
theorem awake16_any (w : World) : Calls Tryz.prog 14 #[] w fun e w' => e = .returned (.bool true) ∧ Below w.heap.size w w' := by
  go_enter Tryz.func14, Tryz.ntmps14
  go_wp2_with fail
  refine (gnew_any w).mono ?_
  rintro e w1 ⟨rfl, h1, b1⟩
  obtain ⟨gb, hgb⟩ : ∃ gb, gb = w.heap.size + 2 := ⟨_, rfl⟩
  obtain ⟨vb, hvb⟩ : ∃ vb, vb = w.heap.size := ⟨_, rfl⟩
  obtain ⟨eb, heb⟩ : ∃ eb, eb = w.heap.size + 1 := ⟨_, rfl⟩
  rw [← hgb, ← heb] at h1
  rw [show GrC w1 gb w.heap.size eb [] [] = GrC w1 gb vb eb [] [] by rw [hvb]] at h1
  rw [← hgb]
  have HSB : Hid (w.heap.size ≤ vb ∧ w.heap.size ≤ eb) := Lib.hid (by omega)
  have HG1 := Lib.hid h1
  have HB1 := Lib.hid b1
  clear h1 b1 hgb hvb heb
  have H1 := gaddV_any gb vb eb [] [] aw1 none 0 w1 HG1.out (psA_nil _) (by decide) (by unfold I64; decide) (by decide) (by decide)
  change Calls _ _ #[.pointer (some ⟨gb, 0, none⟩), .agg #[.int .i64 1, .string ⟨#[97]⟩, .slice none 0 0]] _ _ at H1
  go_wp2_with fail
  refine H1.mono ?_
  rintro e w2 ⟨rfl, h2, c2⟩
  rw [aw_add1] at h2 ⊢
  have HG2 : Hid (GrC w2 gb vb eb [aw1] []) := Lib.hid h2
  have HB2 : Hid (Below w.heap.size w w2) := Lib.hid (HB1.out.trans (c2.below HB1.out.size (fun i hi => by rw [hi]; exact HSB.out.1)))
  clear h2 c2 H1
  have H2 := gaddV_any gb vb eb [aw1] [] aw2 none 0 w2 HG2.out (psA_nil _) (by decide) (by unfold I64; decide) (by decide) (by decide)
  change Calls _ _ #[.pointer (some ⟨gb, 0, none⟩), .agg #[.int .i64 2, .string ⟨#[97]⟩, .slice none 0 0]] _ _ at H2
  go_wp2_with fail
  refine H2.mono ?_
  rintro e w3 ⟨rfl, h2, c2⟩
  rw [aw_add2] at h2 ⊢
  have HG3 : Hid (GrC w3 gb vb eb [aw1, aw2] []) := Lib.hid h2
  have HB3 : Hid (Below w.heap.size w w3) := Lib.hid (HB2.out.trans (c2.below HB2.out.size (fun i hi => by rw [hi]; exact HSB.out.1)))
  clear h2 c2 H2
  have H3 := gaddE_any gb vb eb [aw1, aw2] [] ae5 none 0 w3 HG3.out (psA_nil _) (by decide) (by unfold I64; decide) (by decide) (by decide)
  change Calls _ _ #[.pointer (some ⟨gb, 0, none⟩), .agg #[.int .i64 5, .string ⟨#[120]⟩, .int .i64 1, .int .i64 2, .slice none 0 0]] _ _ at H3
  go_wp2_with fail
  refine H3.mono ?_
  rintro e w4 ⟨rfl, h2, c2⟩
  rw [aw_adde] at h2 ⊢
  have HG4 : Hid (GrC w4 gb vb eb [aw1, aw2] [ae5]) := Lib.hid h2
  have HB4 : Hid (Below w.heap.size w w4) := Lib.hid (HB3.out.trans (c2.below HB3.out.size (fun i hi => by rw [hi]; exact HSB.out.2)))
  clear h2 c2 H3
  go_wp2_with fail
  refine (gout_any gb vb eb [aw1, aw2] [ae5] 1 w4 HG4.out (by decide)).mono ?_
  rintro e w5 ⟨v5, rfl, o5, b5⟩
  have o5' : kI.Own w5 w4.heap.size v5 [5] := o5
  obtain ⟨a5, c5, rfl⟩ := o5'.shape
  have HO5 := Lib.hid o5'
  have HG5 := Lib.hid (HG4.out.below b5)
  have HB5 : Hid (Below w.heap.size w w5) := Lib.hid (HB4.out.trans (b5.mono HB4.out.size))
  clear o5 o5' b5
  go_wp2_with fail
  refine (gin_any gb vb eb [aw1, aw2] [ae5] 2 w5 HG5.out (by decide)).mono ?_
  rintro e w6 ⟨v6, rfl, o6, b6⟩
  have o6' : kI.Own w6 w5.heap.size v6 [5] := o6
  obtain ⟨a6, c6, rfl⟩ := o6'.shape
  have HO6 := Lib.hid o6'
  have HO5b := Lib.hid (HO5.out.below b6)
  have HG6 := Lib.hid (HG5.out.below b6)
  have HB6 : Hid (Below w.heap.size w w6) := Lib.hid (HB5.out.trans (b6.mono HB5.out.size))
  clear o6 o6' b6
  have HLT : Hid ((∀ j, (Value.slice a5 [(5 : Int)].length c5).ownBlock = some j → j ≠ vb ∧ j ≠ eb) ∧ ∀ j, (Value.slice a6 [(5 : Int)].length c6).ownBlock = some j → j ≠ vb ∧ j ≠ eb) := Lib.hid (by
    have hv := HG4.out.ltV
    have he := HG4.out.ltE
    have hv5 := HG5.out.ltV
    have he5 := HG5.out.ltE
    exact ⟨fun j hj => by have := (HO5.out.lt j hj).1; omega, fun j hj => by have := (HO6.out.lt j hj).1; omega⟩)
  go_wp2_with fail
  refine (gdrop_any gb vb eb [aw1, aw2] [ae5] false 1 w6 HG6.out (by unfold I64; decide) (by decide)).mono ?_
  rintro e w7 ⟨v7, rfl, o7, h7, c7⟩
  rw [aw_drop] at o7 h7 ⊢
  obtain ⟨a7, c7', rfl⟩ := o7.shape
  have HO7 : Hid (kI.Own w7 w6.heap.size (.slice a7 [(5 : Int)].length c7') [5]) := Lib.hid o7
  have HG7 : Hid (GrC w7 gb vb eb [aw2] []) := Lib.hid h7
  have HO5c := Lib.hid (HO5b.out.chg c7 (fun j hj e => by have := HLT.out.1 j hj; omega))
  have HO6c := Lib.hid (HO6.out.chg c7 (fun j hj e => by have := HLT.out.2 j hj; omega))
  have HB7 : Hid (Below w.heap.size w w7) := Lib.hid (HB6.out.trans (c7.below HB6.out.size (fun i hi => by have := HSB.out; omega)))
  clear o7 h7 c7
  go_wp2_with fail
  refine (gedge_any gb vb eb [aw2] [] 5 w7 HG7.out (by unfold I64; decide)).mono ?_
  rintro e w8 ⟨a8, c8, rfl, _, b8⟩
  change Hid _ at HO7
  have hge : getE [] 5 = Eg.zero := rfl
  have hfe : (findB Eg.id [] 5).isSome = false := rfl
  rw [hge, hfe]
  unfold Eg.zero Eg.val
  obtain ⟨W8, hW8⟩ : ∃ W8, W8 = w8.alloc (.cells #[.int .i64 0, .string ⟨#[]⟩, .int .i64 0, .int .i64 0, .slice a8 0 c8] 30) := ⟨_, rfl⟩
  have hb8 : Below w7.heap.size w7 W8 := by rw [hW8]; exact b8.alloc b8.size _
  have HO5d := Lib.hid (HO5c.out.below hb8)
  have HO6d := Lib.hid (HO6c.out.below hb8)
  have HO7d := Lib.hid (HO7.out.below hb8)
  have HB8 : Hid (Below w.heap.size w W8) := Lib.hid (HB7.out.trans (hb8.mono HB7.out.size))
  have HW8 := Lib.hid hW8.symm
  clear hge hfe hW8 hb8 b8
  go_upto_region 7 with fail
  rw [HW8.out]
  go_wp2_with fail
  refine (ints5_any a5 c5 W8 HO5d.out.toV).mono ?_
  rintro e w9 ⟨rfl, b9⟩
  have HO6e := Lib.hid (HO6d.out.below b9)
  have HO7e := Lib.hid (HO7d.out.below b9)
  have HB9 : Hid (Below w.heap.size w w9) := Lib.hid (HB8.out.trans (b9.mono HB8.out.size))
  clear b9
  go_wp2_with fail
  refine (ints5_any a6 c6 w9 HO6e.out.toV).mono ?_
  rintro e w10 ⟨rfl, b9⟩
  have HO7f := Lib.hid (HO7e.out.below b9)
  have HB10 : Hid (Below w.heap.size w w10) := Lib.hid (HB9.out.trans (b9.mono HB9.out.size))
  clear b9
  go_wp2_with fail
  refine (ints5_any a7 c7' w10 HO7f.out.toV).mono ?_
  rintro e w11 ⟨rfl, b9⟩
  have HB11 : Hid (Below w.heap.size w w11) := Lib.hid (HB10.out.trans (b9.mono HB10.out.size))
  clear b9
  go_wp2_with fail
  go_ret
  exact ⟨rfl, HB11.out⟩
end Go.Proofs.YtonilojjahfboaaGreat
