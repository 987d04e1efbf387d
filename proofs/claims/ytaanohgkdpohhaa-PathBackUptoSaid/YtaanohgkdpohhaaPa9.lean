/- Layer 19: path.Run of any question, of no walk; the law's run. Conditions: each contract's own premises. -/
import Derived.Test.YtaanohgkdpohhaaPa8
import Derived.Test.YtaanohgkdpohhaaWk4
namespace Go.Proofs.Ytaanohgkdpohhaa
open Go.RowKit Go.Maps

/-- what is looked for -/
structure PA where
  fr : Int
  t : Int
  lab : ByteArray
  most : Int
def PA.val (a : PA) : Value := .agg #[.int .i64 a.fr, .int .i64 a.t, .string a.lab, .int .i64 a.most]
def badA (a : PA) : Prop := (a.lab.toList ≠ [] ∧ badS a.lab = true) ∨ a.most < 0 ∨ 64 < a.most
set_option maxRecDepth 100000 in
set_option maxHeartbeats 1000000 in
theorem run_nil (a : PA) (w : World) : Calls Try.prog 60 #[.pointer none, a.val] w fun e w' => e = .returned (.tuple #[.slice none 0 0, .int .i64 1]) ∧ Below w.heap.size w w' := by
  unfold PA.val
  go_enter Try.func60, Try.ntmps60
  go_wp2_with fail
  go_ret2
  exact ⟨rfl, below_box w _⟩
def R2Post (w : World) (e : Ending) (w' : World) : Prop := e = .returned (.tuple #[.slice none 0 0, .int .i64 2]) ∧ Below w.heap.size w w'
set_option maxRecDepth 100000 in
set_option maxHeartbeats 2000000 in
theorem run_bad (wb : Nat) (a : PA) (w : World) (hb : badA a) (hls : a.lab.size ≤ maxLen) : Calls Try.prog 60 #[.pointer (some ⟨wb, 0, none⟩), a.val] w (R2Post w) := by
  obtain ⟨fr, t, lab, most⟩ := a
  unfold PA.val
  obtain ⟨W, hW⟩ : ∃ W, W = w.alloc (.cells #[.int .i64 fr, .int .i64 t, .string lab, .int .i64 most] 107) := ⟨_, rfl⟩
  have HWB : Hid (W.heap[w.heap.size]? = some (.cells #[.int .i64 fr, .int .i64 t, .string lab, .int .i64 most] 107 (0, 0))) := Lib.hid (by rw [hW]; exact heap_new _ _)
  have HWW : Hid (Below w.heap.size w W) := Lib.hid (by rw [hW]; exact below_box _ _)
  have HW := Lib.hid hW.symm
  have HB := Lib.hid hb
  have HLS := Lib.hid hls
  clear hW hb hls
  go_enter Try.func60, Try.ntmps60
  go_upto_region 3 with fail
  rw [HW.out]
  have b2 := cell_of_blk HWB.out 2
  have b3 := cell_of_blk HWB.out 3
  simp at b2 b3
  have fin : ∀ u, Below W.heap.size W u → R2Post w (.returned (.tuple #[.slice none 0 0, .int .i64 2])) u := fun u hu => ⟨rfl, HWW.out.trans (hu.mono HWW.out.size)⟩
  have HFIN := Lib.hid fin
  clear fin
  by_cases hl : lab.toList = []
  · have t3 : lab.toList.isEmpty = true := by simp [hl]
    have HO : most < 0 ∨ 64 < most := by
      rcases HB.out with h | h
      · exact absurd hl h.1
      · exact h
    clear hl
    by_cases h1 : most < 0
    · have t1 : decide (most < 0) = true := decide_eq_true h1
      go_wp2_with fail
      go_ret2
      exact HFIN.out _ (Below.refl _ _)
    · have t1 : decide (most < 0) = false := decide_eq_false h1
      have t2 : decide (64 < most) = true := decide_eq_true (HO.resolve_left h1)
      clear h1 HO
      go_wp2_with fail
      go_ret2
      exact HFIN.out _ (Below.refl _ _)
  · have t3 : lab.toList.isEmpty = false := by simpa using hl
    have HL := Lib.hid hl
    clear hl
    go_wp2_with fail
    refine (lright_one _ _ lab _ _ _ (heap_new W _) HLS.out).mono ?_
    rintro e u ⟨rfl, hu⟩
    have hu2 : Below W.heap.size W u := (below_box W _).trans (hu.mono (by simp))
    have b3 := cell_of_blk ((hu2.block _ (Array.getElem?_eq_some_iff.1 HWB.out).1).trans HWB.out) 3
    simp at b3
    have HU := Lib.hid hu2
    clear hu hu2 b2
    cases hbs : badS lab
    · have HO : most < 0 ∨ 64 < most := by
        rcases HB.out with h | h
        · have h2 : badS lab = true := h.2
          rw [hbs] at h2
          cases h2
        · exact h
      clear hbs
      by_cases h1 : most < 0
      · have t1 : decide (most < 0) = true := decide_eq_true h1
        go_wp2_with fail
        go_ret2
        exact HFIN.out _ HU.out
      · have t1 : decide (most < 0) = false := decide_eq_false h1
        have t2 : decide (64 < most) = true := decide_eq_true (HO.resolve_left h1)
        clear h1 HO
        go_wp2_with fail
        go_ret2
        exact HFIN.out _ HU.out
    · clear hbs
      go_wp2_with fail
      go_ret2
      exact HFIN.out _ HU.out
/-- what Run answers, of any question -/
def RnM (V : List Vt) (E : List Eg) (a : PA) (st0 : Option Nat) (code : Int) (l : List Int) : Prop :=
  (badA a ∧ code = 2 ∧ l = []) ∨ (¬ badA a ∧ RunM V E a.lab a.fr a.t a.most.toNat st0 code l)
def R19P (w : World) (V : List Vt) (E : List Eg) (a : PA) (n : Nat) (e : Ending) (w' : World) : Prop :=
  ∃ v l code, e = .returned (.tuple #[v, .int .i64 code]) ∧ kI.Own w' w.heap.size v l ∧ Below w.heap.size w w' ∧ RnM V E a (some n) code l
set_option maxRecDepth 100000 in
set_option maxHeartbeats 2000000 in
theorem run19_any (gb vb eb : Nat) (V : List Vt) (E : List Eg) (a : PA) (n : Nat) (w : World) (hG : GrC w gb vb eb V E) (hE : E.length ≤ 1000000) (hV : V.length ≤ 1000000) (hf : I64 a.fr) (ht : I64 a.t) (hls : a.lab.size ≤ maxLen) (hn : n ≤ 1073741824) :
    Calls Try.prog 55 #[.pointer (some ⟨gb, 0, none⟩), .int .i64 (n : Int), a.val] w (R19P w V E a n) := by
  obtain ⟨W, hW⟩ : ∃ W, W = w.alloc (.cells #[.int .i64 a.fr, .int .i64 a.t, .string a.lab, .int .i64 a.most] 107) := ⟨_, rfl⟩
  have HWB : Hid (W.heap[w.heap.size]? = some (.cells #[.int .i64 a.fr, .int .i64 a.t, .string a.lab, .int .i64 a.most] 107 (0, 0))) := Lib.hid (by rw [hW]; exact heap_new _ _)
  have HWW : Hid (Below w.heap.size w W) := Lib.hid (by rw [hW]; exact below_box _ _)
  have HGW : Hid (GrC W gb vb eb V E) := Lib.hid (hG.below HWW.out)
  have HW := Lib.hid hW.symm
  have HNW : Hid (∀ e w', WnPost W gb (n : Int) e w' → e = .returned (.tuple #[.pointer (some ⟨W.heap.size, 0, none⟩), .int .i64 0]) ∧ WkS W w' W.heap.size gb (some n)) := Lib.hid (fun e w' h => by
    unfold WnPost at h
    rw [if_neg (by omega)] at h
    exact h)
  have HR : Hid (∀ w1, WkS W w1 W.heap.size gb (some n) → Calls Try.prog 60 #[.pointer (some ⟨W.heap.size, 0, none⟩), a.val] w1 (R19P w V E a n)) := Lib.hid (fun w1 hw => by
    have hb1 : Below w.heap.size w w1 := HWW.out.trans (hw.bel.mono HWW.out.size)
    by_cases hb : badA a
    · refine (run_bad _ a w1 hb hls).mono ?_
      rintro e w' ⟨rfl, h2⟩
      exact ⟨_, _, _, rfl, RowK.Own.nil kI _ _, hb1.trans (h2.mono hb1.size), .inl ⟨hb, rfl, rfl⟩⟩
    · have hm : 0 ≤ a.most ∧ a.most ≤ 64 := by
        unfold badA at hb
        omega
      have hl : a.lab.toList = [] ∨ badS a.lab = false := by
        by_cases h1 : a.lab.toList = []
        · exact .inl h1
        · refine .inr (Bool.eq_false_iff.2 fun h2 => hb (.inl ⟨h1, h2⟩))
      have := run_any W w1 W.heap.size gb vb eb V E a.lab a.fr a.t a.most.toNat (some n) HGW.out hw hE hV (by omega) hf ht hls hl rfl
      rw [show ((a.most.toNat : Nat) : Int) = a.most by omega] at this
      refine this.mono ?_
      rintro e w' ⟨v, l, code, st, rfl, h1, h2, h3, h4⟩
      exact ⟨v, l, code, rfl, h1.mono hb1.size, HWW.out.trans (h2.bel.mono HWW.out.size), .inr ⟨hb, h4⟩⟩)
  clear hW hG hE hV hf ht hls hn
  unfold PA.val at *
  go_enter Try.func55, Try.ntmps55
  go_wp2_with fail
  rw [HW.out]
  refine (wnew_any gb (n : Int) W).mono ?_
  rintro e w1 hp
  obtain ⟨rfl, hw⟩ := HNW.out _ _ hp
  have hbx := (hw.bel.block _ (Array.getElem?_eq_some_iff.1 HWB.out).1).trans HWB.out
  have b0 := cell_of_blk hbx 0
  have b1 := cell_of_blk hbx 1
  have b2 := cell_of_blk hbx 2
  have b3 := cell_of_blk hbx 3
  simp at b0 b1 b2 b3
  have hz : w.heap.size < w1.heap.size := (Array.getElem?_eq_some_iff.1 hbx).1
  have HWK := Lib.hid hw
  clear hw hbx hp
  go_wp2_with fail
  refine (HR.out w1 HWK.out).mono ?_
  rintro e w' ⟨v, l, code, rfl, h1, h2, h3⟩
  have H1 := Lib.hid h1
  have H2 := Lib.hid h2
  have H3 := Lib.hid h3
  clear h1 h2 h3
  go_wp2_with fail
  go_ret2
  exact ⟨v, l, code, rfl, H1.out, H2.out, H3.out⟩
end Go.Proofs.Ytaanohgkdpohhaa
