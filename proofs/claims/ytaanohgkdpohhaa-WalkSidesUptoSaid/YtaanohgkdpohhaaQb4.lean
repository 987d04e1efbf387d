/- Layer 17: the law's example. Conditions: none. -/
import Derived.Test.YtaanohgkdpohhaaPb4
import Derived.Test.YtaanohgkdpohhaaPb5
import Derived.Test.YtaanohgkdpohhaaQb1
import Derived.Test.YtaanohgkdpohhaaWk4
namespace Go.Proofs.Ytaanohgkdpohhaa
open Go.RowKit Go.Maps

def e5 : Er := ⟨⟨5, ⟨#[120]⟩, 1, 2, []⟩, none, 0⟩
def V2 : List Vt := (VA 2).map Vr.v
def E1 : List Eg := [e5.e]
theorem has2 {n : Int} (h : 1 ≤ n ∧ n ≤ 2) : HasV V2 n := ⟨(vA (n - 1).toNat).v, List.mem_map.2 ⟨_, List.mem_map.2 ⟨(n - 1).toNat, List.mem_range.2 (by omega), rfl⟩, rfl⟩, by show (((n - 1).toNat : Nat) : Int) + 1 = n; omega⟩
theorem awE1 : adE V2 [] [e5.e] = E1 := by
  show (addE V2 [] e5.e).2 = E1
  rw [addE_end (checkR_nil bad_x (fun m hm => by
    rcases (by simpa [e5] using hm : m = 5 ∨ m = 1 ∨ m = 2) with rfl | rfl | rfl <;> omega)) (fun y hy => by cases hy) (has2 (by decide)) (has2 (by decide))]
  rfl
theorem inc_single {l : List Int} {a : Int} (h : IncI l) (hm : ∀ x, x ∈ l ↔ x = a) : l = [a] := by
  match l, h, hm with
  | [], _, hm => exact absurd ((hm a).2 rfl) (by simp)
  | [x], _, hm => rw [(hm x).1 (by simp)]
  | x :: y :: t, h, hm =>
    have h1 := (hm x).1 (by simp)
    have h2 := (hm y).1 (by simp)
    have h3 := (List.pairwise_cons.1 h).1 y (by simp)
    omega
theorem next1 (hs : SortB Eg.id E1) : nextL E1 true noB 1 = [2] := inc_single (next_inc _ _ _ _) (fun x => by
  rw [mem_next hs]
  show edB E1 noB 1 x ↔ _
  constructor
  · rintro ⟨e, he, _, h2, _⟩
    obtain rfl : e = e5.e := by simpa [E1] using he
    exact h2.symm
  · rintro rfl
    exact ⟨e5.e, by simp [E1], rfl, rfl, .inl noB_nil⟩)
theorem pay1 : payS (some 2) (1 + (idsE E1 (sideP true 1)).length) = some 0 := by
  have : (idsE E1 (sideP true 1)).length = 1 := by rfl
  rw [this]
  rfl
set_option maxRecDepth 100000 in
set_option maxHeartbeats 4000000 in
theorem awake17_any (w : World) : Calls Try.prog 45 #[] w fun e w' => e = .returned (.bool true) ∧ Below w.heap.size w w' := by
  obtain ⟨W, hW⟩ : ∃ W, W = (w.alloc (.cells #[.int .i64 1, .string ⟨#[97]⟩, .slice none 0 0, .int .i64 2, .string ⟨#[97]⟩, .slice none 0 0] 83)).alloc (.cells #[.int .i64 5, .string ⟨#[120]⟩, .int .i64 1, .int .i64 2, .slice none 0 0] 86) := ⟨_, rfl⟩
  have HWW : Hid (Below w.heap.size w W) := Lib.hid (by rw [hW]; exact (below_box w _).alloc (by simp) _)
  have HBT : Hid (Calls Try.prog 47 #[.agg #[.slice (some ⟨w.heap.size, 0, none⟩) 2 2, .slice (some ⟨w.heap.size + 1, 0, none⟩) 1 1]] W (Bt7Post W (VA 2) [e5])) := Lib.hid (by
    refine built17_any (some ⟨w.heap.size, 0, none⟩) (some ⟨w.heap.size + 1, 0, none⟩) 2 1 (VA 2) [e5] W ⟨fun _ => ⟨_, 0, rfl, ?_⟩, fun _ => ⟨_, 0, rfl, ?_⟩, fun x hx => ?_, fun x hx => ?_, by decide, by decide⟩
    · rw [hW]
      exact RowK.new_at (k := kVr) ((Below.heap_alloc _ _ _ (by simp)).trans (heap_new w _)) (by simp [RowK.cells, kVr, Vr.enc, VA, vA, List.range_succ])
    · rw [hW]
      exact RowK.new_at (k := kEr) (heap_new2 w _ _) (by simp [RowK.cells, kEr, Er.enc, e5])
    · obtain ⟨j, hj, rfl⟩ := List.mem_map.1 hx
      have hj := List.mem_range.1 hj
      exact ⟨psA_nil _, by show 0 ≤ 100000; omega, by show I64 ((j : Int) + 1); unfold I64; omega, by show 1 ≤ 2000000; omega⟩
    · obtain rfl : x = e5 := by simpa using hx
      exact ⟨psA_nil _, by show 0 ≤ 100000; omega, ⟨by show I64 5; unfold I64; omega, by show I64 1; unfold I64; omega, by show I64 2; unfold I64; omega⟩, by show 1 ≤ 2000000; omega⟩)
  have HW := Lib.hid hW.symm
  clear hW
  go_enter Try.func45, Try.ntmps45
  go_wp2_with fail
  rw [HW.out]
  refine HBT.out.mono ?_
  rintro e w1 ⟨gb, vb, eb, rb, B, rfl, hg, hr, b1⟩
  rw [awV 2 (by decide), show adE ((VA 2).map Vr.v) [] ([e5].map Er.e) = E1 from awE1] at hg hr
  have HG : Hid (GrC w1 gb vb eb V2 E1) := Lib.hid hg
  have HB1 : Hid (Below w.heap.size w w1) := Lib.hid (HWW.out.trans (b1.mono HWW.out.size))
  obtain ⟨va5, vc5, ea5, ec5, hbk⟩ : ∃ va vc ea ec, w1.heap[rb]? = some (.cells #[.slice va 2 vc, .slice ea 1 ec] 103 (0, 0)) := by
    obtain ⟨VL, EL, ⟨⟨va, vc, ea, ec, h1, _, _⟩, _, _, _⟩, h4, h5⟩ := hr
    refine ⟨va, vc, ea, ec, ?_⟩
    have l1 := congrArg List.length h4
    have l2 := congrArg List.length h5
    rw [List.length_map] at l1 l2
    rw [h1, l1, l2]
    rfl
  have g1 := cell_of_blk hbk 1
  have zg : rb < w1.heap.size := (Array.getElem?_eq_some_iff.1 hbk).1
  simp at g1
  clear hg hr b1 hbk
  go_wp2_with fail
  refine (wnew_any gb 2 w1).mono ?_
  rintro e w2 hp
  unfold WnPost at hp
  rw [if_neg (by omega)] at hp
  obtain ⟨rfl, hw⟩ := hp
  have HWK : Hid (WkS w1 w2 w1.heap.size gb (some 2)) := Lib.hid hw
  have HBA : Hid (Below w1.heap.size w1 w2) := Lib.hid hw.bel
  clear hw g1 zg
  go_wp2_with fail
  refine (wnext_any w1 w2 w1.heap.size gb vb eb V2 E1 (some 2) 1 true noB HG.out HWK.out (by decide)).mono ?_
  rintro e w3 ⟨v, rfl, o3, s3, k3⟩
  rw [pay1] at o3 s3
  simp only [Option.isSome_some, if_true] at o3
  rw [next1 HG.out.ok.se] at o3
  obtain ⟨va, vc, rfl⟩ := o3.shape
  have HO3 := Lib.hid o3
  have HS3 := Lib.hid s3
  clear o3 s3 k3
  go_wp2_with fail
  refine (left_any w1 w3 w1.heap.size gb (some 0) HS3.out).mono ?_
  rintro e w4 ⟨rfl, rfl⟩
  go_wp2_with fail
  refine (wvertex_any w1 w3 w1.heap.size gb vb eb V2 E1 (some 0) 1 HG.out HS3.out (by unfold I64; omega)).mono ?_
  rintro e w5 ⟨a5, c5, rfl, s5, k5⟩
  rw [show payS (some 0) 1 = none from rfl] at s5 ⊢
  simp only [Option.isSome_none, Bool.false_eq_true, if_false, Bool.false_and]
  obtain ⟨W5, hW5⟩ : ∃ W5, W5 = (w5.alloc (.cells #[.int .i64 Vt.zero.id, .string Vt.zero.label, .slice a5 Vt.zero.ps.length c5] 83)).alloc (.cells #[.int .i64 2] 3) := ⟨_, rfl⟩
  have HS5 : Hid (WkS w1 W5 w1.heap.size gb none) := Lib.hid (by rw [hW5]; exact s5.below (below_then (below_box _ _) (below_box _ _)))
  have HI : Hid (Calls Try.prog 57 #[.slice va 1 vc, .slice (some ⟨w5.heap.size + 1, 0, none⟩) 1 1] W5 fun e w' => e = .returned (.bool true) ∧ Below W5.heap.size W5 w') := Lib.hid (by
    have ho : kI.Own W5 w2.heap.size (.slice va 1 vc) [2] := by rw [hW5]; exact ((HO3.out.chg k5 (fun j hj e => by have := (HO3.out.lt j hj).1; have := HWK.out.lt; omega)).alloc _).alloc _
    exact ints10_any va (some ⟨w5.heap.size + 1, 0, none⟩) vc 1 [2] [2] W5 ho.toV (fun _ => ⟨_, 0, rfl, RowK.new_at (k := kI) (by rw [hW5]; exact heap_new2 w5 _ _) rfl⟩) (by decide))
  have HW5 := Lib.hid hW5.symm
  clear s5 k5 hW5
  unfold Vt.val
  go_wp2_with fail
  rw [HW5.out]
  refine HI.out.mono ?_
  rintro e w6 ⟨rfl, b6⟩
  have HS6 : Hid (WkS w1 w6 w1.heap.size gb none) := Lib.hid (HS5.out.below b6)
  clear b6
  go_wp2_with fail
  refine (spent_any w1 w6 w1.heap.size gb none HS6.out).mono ?_
  rintro e w7 ⟨rfl, rfl⟩
  go_wp2_with fail
  go_ret
  exact ⟨rfl, HB1.out.trans (HS6.out.bel.mono HB1.out.size)⟩
end Go.Proofs.Ytaanohgkdpohhaa
