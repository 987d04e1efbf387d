/- Layer 17: the law's built. Conditions: each contract's own premises. Layer 17: small. Conditions: the contract's own premises. Layer 17: the law's example. Conditions: none. -/
import Derived.Test.YtonilojjahfboaaGreatRg4
import Derived.Test.YtonilojjahfboaaGreatGrA
import Derived.Test.YtonilojjahfboaaGreatPbX
import Derived.Test.YtonilojjahfboaaGreatWkA
import Derived.Test.YtonilojjahfboaaGreatPb5
namespace Go.Proofs.YtonilojjahfboaaGreat
open Go.RowKit Go.Maps

def Bt7Post (w : World) (VL : List Vr) (EL : List Er) (e : Ending) (w' : World) : Prop :=
  ∃ gb vb eb rb B, e = .returned (.tuple #[.pointer (some ⟨gb, 0, none⟩), .pointer (some ⟨rb, 0, none⟩)]) ∧ GrC w' gb vb eb (adV [] (VL.map Vr.v)) (adE (adV [] (VL.map Vr.v)) [] (EL.map Er.e)) ∧ RgC w' rb B (adV [] (VL.map Vr.v)) (adE (adV [] (VL.map Vr.v)) [] (EL.map Er.e)) ∧ Below w.heap.size w w'
set_option maxRecDepth 100000 in
set_option maxHeartbeats 4000000 in
theorem built17_any (va ea : Option Addr) (vc ec : Nat) (VL : List Vr) (EL : List Er) (w : World) (h : PtIn w va ea VL EL) :
    Calls Tryz.prog 38 #[.agg #[.slice va VL.length vc, .slice ea EL.length ec]] w (Bt7Post w VL EL) := by
  obtain ⟨nv, hnv⟩ : ∃ n, n = VL.length := ⟨_, rfl⟩
  obtain ⟨ne, hne⟩ : ∃ n, n = EL.length := ⟨_, rfl⟩
  have HNV : Hid (nv = VL.length ∧ nv ≤ 1000) := Lib.hid ⟨hnv, by rw [hnv]; exact h.nv⟩
  have HNE : Hid (ne = EL.length ∧ ne ≤ 1000) := Lib.hid ⟨hne, by rw [hne]; exact h.ne⟩
  have H17 : Hid (∀ u, Below w.heap.size w u → Calls Tryz.prog 70 #[.slice va nv vc, .slice ea ne ec] u (B17 u VL EL)) := Lib.hid (fun u hu => by rw [hnv, hne]; exact r17built_any va ea vc ec VL EL u (h.below hu))
  rw [← hnv, ← hne]
  clear hnv hne
  obtain ⟨pb, hpb⟩ : ∃ pb, pb = w.heap.size := ⟨_, rfl⟩
  obtain ⟨W, hW⟩ : ∃ W, W = w.alloc (.cells #[.slice va nv vc, .slice ea ne ec] 90) := ⟨_, rfl⟩
  have HW := Lib.hid hW.symm
  have HWB : Hid (W.heap[pb]? = some (.cells #[.slice va nv vc, .slice ea ne ec] 90 (0, 0))) := Lib.hid (by rw [hW, hpb]; exact heap_new _ _)
  have HBW : Hid (Below w.heap.size w W) := Lib.hid (by rw [hW]; exact below_box _ _)
  have HPB := Lib.hid hpb
  have HP := Lib.hid h
  clear hW h
  go_enter Tryz.func38, Tryz.ntmps38
  go_wp2_with fail
  rw [HW.out, ← HPB.out]
  clear hpb
  refine (gnew_any W).mono ?_
  rintro e w1 ⟨rfl, hg, hb⟩
  obtain ⟨gb, hgb⟩ : ∃ gb, gb = W.heap.size + 2 := ⟨_, rfl⟩
  obtain ⟨vb, hvb⟩ : ∃ vb, vb = W.heap.size := ⟨_, rfl⟩
  obtain ⟨eb, heb⟩ : ∃ eb, eb = W.heap.size + 1 := ⟨_, rfl⟩
  rw [← heb, ← hgb, ← hvb] at hg
  rw [← hgb]
  have HG0 : Hid (GrC w1 gb vb eb (adV [] (([] : List Vr).map Vr.v)) []) := Lib.hid hg
  have HB1 : Hid (Below W.heap.size W w1) := Lib.hid hb
  have HVB : Hid (W.heap.size ≤ vb ∧ W.heap.size ≤ eb) := Lib.hid ⟨by omega, by omega⟩
  clear hgb hvb heb hg hb
  go_wp2_with fail
  go_loopw [5] (fun i wr => ∃ k : Nat, i = .int .i64 (k : Int) ∧ k ≤ nv ∧ Hid (GrC wr gb vb eb (adV [] ((VL.take k).map Vr.v)) []) ∧ Hid (Below W.heap.size W wr)) (fun i _ => nv - (intOf i).toNat)
  case atStart => exact ⟨0, rfl, Nat.zero_le _, by simpa using HG0, HB1⟩
  case round =>
    obtain ⟨k, rfl, hk, HR, HB⟩ := hrel
    have hnv2 := HNV.out.2
    have hbx := (HB.out.block _ (Array.getElem?_eq_some_iff.1 HWB.out).1).trans HWB.out
    have b0 := cell_of_blk hbx 0
    have b1 := cell_of_blk hbx 1
    simp at b0 b1
    have hz : pb < wr.heap.size := (Array.getElem?_eq_some_iff.1 hbx).1
    clear hbx
    by_cases hlt : k < nv
    · obtain ⟨x, hx⟩ : ∃ x, VL[k]? = some x := ⟨_, List.getElem?_eq_getElem (by have := HNV.out.1; omega)⟩
      have hp := HP.out.below (HBW.out.trans (HB.out.mono HBW.out.size))
      obtain ⟨b, off, rfl, hat⟩ := hp.vV (fun e => by rw [e] at hx; simp at hx)
      have c0 := hat.cells k x hx 0 _ rfl
      have c1 := hat.cells k x hx 1 _ rfl
      have c2 := hat.cells k x hx 2 _ rfl
      simp [kVr] at c0 c1 c2
      have hbl := hat.lt
      obtain ⟨p1, p2, p3, p4⟩ := hp.pv x (List.mem_of_getElem? hx)
      have HC : Hid (Calls Tryz.prog 79 #[.pointer (some ⟨gb, 0, none⟩), x.v.val x.a x.c] wr (AvPost wr gb vb eb (adV [] ((VL.take k).map Vr.v)) [] x.v)) := Lib.hid (gaddV_any gb vb eb _ _ x.v x.a x.c wr HR.out p1 p2 p3 (Nat.le_trans p4 (by decide)) (by
        have := adV_len ((VL.take k).map Vr.v) []
        have h9 : 1000 < maxLen := by decide
        simp at this ⊢
        omega))
      have HX : Hid (adV [] ((VL.take (k + 1)).map Vr.v) = (addV (adV [] ((VL.take k).map Vr.v)) x.v).2) := Lib.hid (by
        rw [List.take_add_one, hx, Option.toList_some, List.map_append, List.map_singleton, adV_snoc])
      clear hx hp hat p1 p2 p3 p4
      unfold Vt.val at HC
      go_wp2_with fail
      refine HC.out.mono ?_
      rintro e w3 ⟨rfl, h2, h3⟩
      have HR3 : Hid (GrC w3 gb vb eb (adV [] ((VL.take (k + 1)).map Vr.v)) []) := Lib.hid (by rw [HX.out]; exact h2)
      have HB3 : Hid (Below W.heap.size W w3) := Lib.hid (HB.out.trans (h3.below HB.out.size (fun i e => by rw [e]; exact HVB.out.1)))
      clear h2 h3 c0 c1 c2 hbl b0 b1 hz
      go_wp2_with fail
      exact ⟨⟨k + 1, by simp, hlt, HR3, HB3⟩, by simp [intOf]; omega⟩
    · have tj : decide ((k : Int) < (nv : Int)) = false := decide_eq_false (by omega)
      have HV : Hid (GrC wr gb vb eb (adV [] (VL.map Vr.v)) (adE (adV [] (VL.map Vr.v)) [] (([] : List Er).map Er.e))) := Lib.hid (by
        have h1 := HR.out
        rw [List.take_of_length_le (by have := HNV.out.1; omega)] at h1
        exact h1)
      clear HR
      go_wp2_with fail
      clear tj
      obtain ⟨V, hV⟩ : ∃ V, V = adV [] (VL.map Vr.v) := ⟨_, rfl⟩
      rw [← hV] at HV
      have HVV := Lib.hid hV
      clear hV hk hnv2 hlt b0 b1 hz
      obtain ⟨wo, rfl⟩ : ∃ wo : World, wo = wr := ⟨_, rfl⟩
      go_loopw [6] (fun i wr => ∃ k : Nat, i = .int .i64 (k : Int) ∧ k ≤ ne ∧ Hid (GrC wr gb vb eb V (adE V [] ((EL.take k).map Er.e))) ∧ Hid (Below W.heap.size W wr)) (fun i _ => ne - (intOf i).toNat)
      case atStart => exact ⟨0, rfl, Nat.zero_le _, by simpa using HV, HB⟩
      case round =>
        obtain ⟨k, rfl, hk, HR, HB⟩ := hrel
        have hne2 := HNE.out.2
        have hbx := (HB.out.block _ (Array.getElem?_eq_some_iff.1 HWB.out).1).trans HWB.out
        have b0 := cell_of_blk hbx 0
        have b1 := cell_of_blk hbx 1
        simp at b0 b1
        have hz : pb < wr.heap.size := (Array.getElem?_eq_some_iff.1 hbx).1
        clear hbx
        by_cases hlt : k < ne
        · obtain ⟨x, hx⟩ : ∃ x, EL[k]? = some x := ⟨_, List.getElem?_eq_getElem (by have := HNE.out.1; omega)⟩
          have hp := HP.out.below (HBW.out.trans (HB.out.mono HBW.out.size))
          obtain ⟨b, off, rfl, hat⟩ := hp.vE (fun e => by rw [e] at hx; simp at hx)
          have c0 := hat.cells k x hx 0 _ rfl
          have c1 := hat.cells k x hx 1 _ rfl
          have c2 := hat.cells k x hx 2 _ rfl
          have c3 := hat.cells k x hx 3 _ rfl
          have c4 := hat.cells k x hx 4 _ rfl
          simp [kEr] at c0 c1 c2 c3 c4
          have hbl := hat.lt
          obtain ⟨p1, p2, p3, p4⟩ := hp.pe x (List.mem_of_getElem? hx)
          have HC : Hid (Calls Tryz.prog 80 #[.pointer (some ⟨gb, 0, none⟩), x.e.val x.a x.c] wr (AePost wr gb vb eb V (adE V [] ((EL.take k).map Er.e)) x.e)) := Lib.hid (gaddE_any gb vb eb _ _ x.e x.a x.c wr HR.out p1 p2 p3 (Nat.le_trans p4 (by decide)) (by
            have := adE_len V ((EL.take k).map Er.e) []
            have h9 : 1000 < maxLen := by decide
            simp at this ⊢
            omega))
          have HX : Hid (adE V [] ((EL.take (k + 1)).map Er.e) = (addE V (adE V [] ((EL.take k).map Er.e)) x.e).2) := Lib.hid (by
            rw [List.take_add_one, hx, Option.toList_some, List.map_append, List.map_singleton, adE_snoc])
          clear hx hp hat p1 p2 p3 p4
          unfold Eg.val at HC
          go_wp2_with fail
          refine HC.out.mono ?_
          rintro e w3 ⟨rfl, h2, h3⟩
          have HR3 : Hid (GrC w3 gb vb eb V (adE V [] ((EL.take (k + 1)).map Er.e))) := Lib.hid (by rw [HX.out]; exact h2)
          have HB3 : Hid (Below W.heap.size W w3) := Lib.hid (HB.out.trans (h3.below HB.out.size (fun i e => by rw [e]; exact HVB.out.2)))
          clear h2 h3 c0 c1 c2 c3 c4 hbl b0 b1 hz
          go_wp2_with fail
          exact ⟨⟨k + 1, by simp, hlt, HR3, HB3⟩, by simp [intOf]; omega⟩
        · have tj : decide ((k : Int) < (ne : Int)) = false := decide_eq_false (by omega)
          have HBF : Hid (Below w.heap.size w wr) := Lib.hid (HBW.out.trans (HB.out.mono HBW.out.size))
          have HGF : Hid (GrC wr gb vb eb V (adE V [] (EL.map Er.e))) := Lib.hid (by
            have h1 := HR.out
            rw [List.take_of_length_le (by have := HNE.out.1; omega)] at h1
            exact h1)
          go_wp2_with fail
          refine (H17.out wr HBF.out).mono ?_
          rintro e w5 ⟨rfl, h1, h2⟩
          have H1 := Lib.hid h1
          have H2 := Lib.hid h2
          clear h1 h2 b0 b1
          go_wp2_with fail
          go_ret2
          refine ⟨gb, vb, eb, wr.heap.size, wr.heap.size + 1, rfl, ?_, H1.out, HBF.out.trans (H2.out.mono HBF.out.size)⟩
          have := HGF.out.below H2.out
          rw [HVV.out] at this
          exact this
end Go.Proofs.YtonilojjahfboaaGreat
namespace Go.Proofs.YtonilojjahfboaaGreat
open Go.RowKit Go.Maps

open Classical in
noncomputable def small7B (VL : List Vr) (EL : List Er) : Bool := decide (VL.length ≤ 40 ∧ EL.length ≤ 60 ∧ (∀ x ∈ VL, x.v.ps.length ≤ 20 ∧ x.v.label.size ≤ 100) ∧ ∀ x ∈ EL, x.e.ps.length ≤ 20 ∧ x.e.label.size ≤ 100)
set_option maxRecDepth 100000 in
set_option maxHeartbeats 4000000 in
theorem small17_any (va ea : Option Addr) (vc ec : Nat) (VL : List Vr) (EL : List Er) (w : World) (hv : kVr.V w va VL) (he : kEr.V w ea EL) :
    Calls Tryz.prog 37 #[.agg #[.slice va VL.length vc, .slice ea EL.length ec]] w fun e w' => e = .returned (.bool (small7B VL EL)) ∧ Below w.heap.size w w' := by
  obtain ⟨nv, hnv⟩ : ∃ n, n = VL.length := ⟨_, rfl⟩
  obtain ⟨ne, hne⟩ : ∃ n, n = EL.length := ⟨_, rfl⟩
  have HNV := Lib.hid hnv
  have HNE := Lib.hid hne
  rw [← hnv, ← hne]
  clear hnv hne
  obtain ⟨pb, hpb⟩ : ∃ pb, pb = w.heap.size := ⟨_, rfl⟩
  obtain ⟨W, hW⟩ : ∃ W, W = w.alloc (.cells #[.slice va nv vc, .slice ea ne ec] 90) := ⟨_, rfl⟩
  have HW := Lib.hid hW.symm
  have HWB : Hid (W.heap[pb]? = some (.cells #[.slice va nv vc, .slice ea ne ec] 90 (0, 0))) := Lib.hid (by rw [hW, hpb]; exact heap_new _ _)
  have HBW : Hid (Below w.heap.size w W) := Lib.hid (by rw [hW]; exact below_box _ _)
  have HPB := Lib.hid hpb
  have HV := Lib.hid (hv.below HBW.out)
  have HE := Lib.hid (he.below HBW.out)
  clear hW hv he
  have b0 := cell_of_blk HWB.out 0
  have b1 := cell_of_blk HWB.out 1
  simp at b0 b1
  have hz : pb < W.heap.size := (Array.getElem?_eq_some_iff.1 HWB.out).1
  have no : ∀ h : ¬ (VL.length ≤ 40 ∧ EL.length ≤ 60 ∧ (∀ x ∈ VL, x.v.ps.length ≤ 20 ∧ x.v.label.size ≤ 100) ∧ ∀ x ∈ EL, x.e.ps.length ≤ 20 ∧ x.e.label.size ≤ 100), small7B VL EL = false := fun h => decide_eq_false h
  have NO := Lib.hid no
  clear no
  go_enter Tryz.func37, Tryz.ntmps37
  go_upto_region 1 with fail
  rw [HW.out, ← HPB.out]
  clear hpb
  by_cases h1 : 40 < nv
  · have t1 : decide ((40 : Int) < (nv : Int)) = true := decide_eq_true (by omega)
    have HF := Lib.hid (NO.out (fun h => by have := h.1; have := HNV.out; omega))
    go_wp2_with fail
    go_ret
    exact ⟨by rw [HF.out]; rfl, HBW.out⟩
  have t1 : decide ((40 : Int) < (nv : Int)) = false := decide_eq_false (by omega)
  by_cases h2 : 60 < ne
  · have t2 : decide ((60 : Int) < (ne : Int)) = true := decide_eq_true (by omega)
    have HF := Lib.hid (NO.out (fun h => by have := h.2.1; have := HNE.out; omega))
    go_wp2_with fail
    go_ret
    exact ⟨by rw [HF.out]; rfl, HBW.out⟩
  have t2 : decide ((60 : Int) < (ne : Int)) = false := decide_eq_false (by omega)
  go_wp2_with fail
  clear t1 t2

  go_loopw [3] (fun i wr => ∃ j : Nat, i = .int .i64 (j : Int) ∧ W = wr ∧ j ≤ nv ∧ Hid (∀ j' x, j' < j → VL[j']? = some x → x.v.ps.length ≤ 20 ∧ x.v.label.size ≤ 100)) (fun i _ => nv - (intOf i).toNat)
  case atStart => exact ⟨0, rfl, rfl, Nat.zero_le _, Lib.hid (fun _ _ h => absurd h (Nat.not_lt_zero _))⟩
  case round =>
    obtain ⟨j, rfl, rfl, hj, HOK⟩ := hrel
    by_cases hlt : j < nv
    · obtain ⟨x, hx⟩ : ∃ x, VL[j]? = some x := ⟨_, List.getElem?_eq_getElem (by have := HNV.out; omega)⟩
      obtain ⟨b, off, rfl, hat⟩ := HV.out (fun e => by rw [e] at hx; simp at hx)
      have c1 := hat.cells j x hx 1 _ rfl
      have c2 := hat.cells j x hx 2 _ rfl
      simp [kVr] at c1 c2
      have hbl := hat.lt
      have HX := Lib.hid hx
      clear hx hat
      by_cases h3 : 20 < x.v.ps.length
      · have t3 : decide ((20 : Int) < (x.v.ps.length : Int)) = true := decide_eq_true (by omega)
        have HF := Lib.hid (NO.out (fun h => by have := (h.2.2.1 x (List.mem_of_getElem? HX.out)).1; omega))
        go_wp2_with fail
        go_ret
        exact ⟨by rw [HF.out]; rfl, HBW.out⟩
      have t3 : decide ((20 : Int) < (x.v.ps.length : Int)) = false := decide_eq_false (by omega)
      by_cases h4 : 100 < x.v.label.size
      · have t4 : decide ((100 : Int) < (x.v.label.size : Int)) = true := decide_eq_true (by omega)
        have HF := Lib.hid (NO.out (fun h => by have := (h.2.2.1 x (List.mem_of_getElem? HX.out)).2; omega))
        go_wp2_with fail
        go_ret
        exact ⟨by rw [HF.out]; rfl, HBW.out⟩
      have t4 : decide ((100 : Int) < (x.v.label.size : Int)) = false := decide_eq_false (by omega)
      have HH : Hid (x.v.ps.length ≤ 20 ∧ x.v.label.size ≤ 100) := Lib.hid ⟨by omega, by omega⟩
      clear h3 h4
      go_wp2_with fail
      refine ⟨⟨j + 1, by simp, by first | rfl | trivial, hlt, Lib.hid (fun j' y hj' hy => ?_)⟩, by simp [intOf]; omega⟩
      by_cases e : j' < j
      · exact HOK.out j' y e hy
      · obtain rfl : j' = j := by omega
        rw [HX.out] at hy
        injection hy with hy
        subst hy
        exact HH.out
    · have HALLv : Hid (∀ x ∈ VL, x.v.ps.length ≤ 20 ∧ x.v.label.size ≤ 100) := Lib.hid (fun x hx => by
        obtain ⟨i, hi, e⟩ := List.getElem_of_mem hx
        exact HOK.out i x (by have := HNV.out; omega) (by rw [List.getElem?_eq_getElem hi, e]))
      have tj : decide ((j : Int) < (nv : Int)) = false := decide_eq_false (by omega)

      go_wp2_with fail
      clear tj hlt hj HOK
      go_loopw [4] (fun i wr => ∃ j : Nat, i = .int .i64 (j : Int) ∧ W = wr ∧ j ≤ ne ∧ Hid (∀ j' x, j' < j → EL[j']? = some x → x.e.ps.length ≤ 20 ∧ x.e.label.size ≤ 100)) (fun i _ => ne - (intOf i).toNat)
      case atStart => exact ⟨0, rfl, rfl, Nat.zero_le _, Lib.hid (fun _ _ h => absurd h (Nat.not_lt_zero _))⟩
      case round =>
        obtain ⟨j, rfl, rfl, hj, HOK⟩ := hrel
        by_cases hlt : j < ne
        · obtain ⟨x, hx⟩ : ∃ x, EL[j]? = some x := ⟨_, List.getElem?_eq_getElem (by have := HNE.out; omega)⟩
          obtain ⟨b, off, rfl, hat⟩ := HE.out (fun e => by rw [e] at hx; simp at hx)
          have c1 := hat.cells j x hx 1 _ rfl
          have c2 := hat.cells j x hx 4 _ rfl
          simp [kEr] at c1 c2
          have hbl := hat.lt
          have HX := Lib.hid hx
          clear hx hat
          by_cases h3 : 20 < x.e.ps.length
          · have t3 : decide ((20 : Int) < (x.e.ps.length : Int)) = true := decide_eq_true (by omega)
            have HF := Lib.hid (NO.out (fun h => by have := (h.2.2.2 x (List.mem_of_getElem? HX.out)).1; omega))
            go_wp2_with fail
            go_ret
            exact ⟨by rw [HF.out]; rfl, HBW.out⟩
          have t3 : decide ((20 : Int) < (x.e.ps.length : Int)) = false := decide_eq_false (by omega)
          by_cases h4 : 100 < x.e.label.size
          · have t4 : decide ((100 : Int) < (x.e.label.size : Int)) = true := decide_eq_true (by omega)
            have HF := Lib.hid (NO.out (fun h => by have := (h.2.2.2 x (List.mem_of_getElem? HX.out)).2; omega))
            go_wp2_with fail
            go_ret
            exact ⟨by rw [HF.out]; rfl, HBW.out⟩
          have t4 : decide ((100 : Int) < (x.e.label.size : Int)) = false := decide_eq_false (by omega)
          have HH : Hid (x.e.ps.length ≤ 20 ∧ x.e.label.size ≤ 100) := Lib.hid ⟨by omega, by omega⟩
          clear h3 h4
          go_wp2_with fail
          refine ⟨⟨j + 1, by simp, by first | rfl | trivial, hlt, Lib.hid (fun j' y hj' hy => ?_)⟩, by simp [intOf]; omega⟩
          by_cases e : j' < j
          · exact HOK.out j' y e hy
          · obtain rfl : j' = j := by omega
            rw [HX.out] at hy
            injection hy with hy
            subst hy
            exact HH.out
        · have HALLe : Hid (∀ x ∈ EL, x.e.ps.length ≤ 20 ∧ x.e.label.size ≤ 100) := Lib.hid (fun x hx => by
            obtain ⟨i, hi, e⟩ := List.getElem_of_mem hx
            exact HOK.out i x (by have := HNE.out; omega) (by rw [List.getElem?_eq_getElem hi, e]))
          have tj : decide ((j : Int) < (ne : Int)) = false := decide_eq_false (by omega)

          have HF : Hid (small7B VL EL = true) := Lib.hid (decide_eq_true ⟨by have := HNV.out; omega, by have := HNE.out; omega, HALLv.out, HALLe.out⟩)
          go_wp2_with fail
          go_ret
          exact ⟨by rw [HF.out]; rfl, HBW.out⟩
end Go.Proofs.YtonilojjahfboaaGreat
namespace Go.Proofs.YtonilojjahfboaaGreat
open Go.RowKit Go.Maps

def e5 : Er := ⟨⟨5, ⟨#[120]⟩, 1, 2, []⟩, none, 0⟩
def V2 : List Vt := (VA 2).map Vr.v
def E1 : List Eg := [e5.e]
theorem has2 {n : Int} (h : 1 ≤ n ∧ n ≤ 2) : HasV V2 n := ⟨(vA (n - 1).toNat).v, List.mem_map.2 ⟨_, List.mem_map.2 ⟨(n - 1).toNat, List.mem_range.2 (by omega), rfl⟩, rfl⟩, by show (((n - 1).toNat : Nat) : Int) + 1 = n; omega⟩
theorem awE1 : adE V2 [] [e5.e] = E1 := by
  show (addE V2 [] e5.e).2 = E1
  rw [addE_end (checkR_nil bad_x (fun m hm => by
    rcases (by simpa [e5] using hm : m = 5 ∨ m = 1 ∨ m = 2) with rfl | rfl | rfl <;> omega)) (fun y hy => by cases hy) (has2 (by decide)) (has2 (by decide))]
  rfl
theorem inc_single {l : List Int} {a : Int} (h : IncI l) (hm : ∀ x, x ∈ l ↔ x = a) : l = [a] := by
  match l, h, hm with
  | [], _, hm => exact absurd ((hm a).2 rfl) (by simp)
  | [x], _, hm => rw [(hm x).1 (by simp)]
  | x :: y :: t, h, hm =>
    have h1 := (hm x).1 (by simp)
    have h2 := (hm y).1 (by simp)
    have h3 := (List.pairwise_cons.1 h).1 y (by simp)
    omega
theorem next1 (hs : SortB Eg.id E1) : nextL E1 true noB 1 = [2] := inc_single (next_inc _ _ _ _) (fun x => by
  rw [mem_next hs]
  show edB E1 noB 1 x ↔ _
  constructor
  · rintro ⟨e, he, _, h2, _⟩
    obtain rfl : e = e5.e := by simpa [E1] using he
    exact h2.symm
  · rintro rfl
    exact ⟨e5.e, by simp [E1], rfl, rfl, .inl noB_nil⟩)
theorem pay1 : payS (some 2) (1 + (idsE E1 (sideP true 1)).length) = some 0 := by
  have : (idsE E1 (sideP true 1)).length = 1 := by rfl
  rw [this]
  rfl
set_option maxRecDepth 100000 in
set_option maxHeartbeats 4000000 in
theorem awake17_any (w : World) : Calls Tryz.prog 36 #[] w fun e w' => e = .returned (.bool true) ∧ Below w.heap.size w w' := by
  obtain ⟨W, hW⟩ : ∃ W, W = (w.alloc (.cells #[.int .i64 1, .string ⟨#[97]⟩, .slice none 0 0, .int .i64 2, .string ⟨#[97]⟩, .slice none 0 0] 28)).alloc (.cells #[.int .i64 5, .string ⟨#[120]⟩, .int .i64 1, .int .i64 2, .slice none 0 0] 30) := ⟨_, rfl⟩
  have HWW : Hid (Below w.heap.size w W) := Lib.hid (by rw [hW]; exact (below_box w _).alloc (by simp) _)
  have HBT : Hid (Calls Tryz.prog 38 #[.agg #[.slice (some ⟨w.heap.size, 0, none⟩) 2 2, .slice (some ⟨w.heap.size + 1, 0, none⟩) 1 1]] W (Bt7Post W (VA 2) [e5])) := Lib.hid (by
    refine built17_any (some ⟨w.heap.size, 0, none⟩) (some ⟨w.heap.size + 1, 0, none⟩) 2 1 (VA 2) [e5] W ⟨fun _ => ⟨_, 0, rfl, ?_⟩, fun _ => ⟨_, 0, rfl, ?_⟩, fun x hx => ?_, fun x hx => ?_, by decide, by decide⟩
    · rw [hW]
      exact RowK.new_at (k := kVr) ((Below.heap_alloc _ _ _ (by simp)).trans (heap_new w _)) (by simp [RowK.cells, kVr, Vr.enc, VA, vA, List.range_succ])
    · rw [hW]
      exact RowK.new_at (k := kEr) (heap_new2 w _ _) (by simp [RowK.cells, kEr, Er.enc, e5])
    · obtain ⟨j, hj, rfl⟩ := List.mem_map.1 hx
      have hj := List.mem_range.1 hj
      exact ⟨psA_nil _, by show 0 ≤ 100000; omega, by show I64 ((j : Int) + 1); unfold I64; omega, by show 1 ≤ 2000000; omega⟩
    · obtain rfl : x = e5 := by simpa using hx
      exact ⟨psA_nil _, by show 0 ≤ 100000; omega, ⟨by show I64 5; unfold I64; omega, by show I64 1; unfold I64; omega, by show I64 2; unfold I64; omega⟩, by show 1 ≤ 2000000; omega⟩)
  have HW := Lib.hid hW.symm
  clear hW
  go_enter Tryz.func36, Tryz.ntmps36
  go_wp2_with fail
  rw [HW.out]
  refine HBT.out.mono ?_
  rintro e w1 ⟨gb, vb, eb, rb, B, rfl, hg, hr, b1⟩
  rw [awV 2 (by decide), show adE ((VA 2).map Vr.v) [] ([e5].map Er.e) = E1 from awE1] at hg hr
  have HG : Hid (GrC w1 gb vb eb V2 E1) := Lib.hid hg
  have HB1 : Hid (Below w.heap.size w w1) := Lib.hid (HWW.out.trans (b1.mono HWW.out.size))
  obtain ⟨va5, vc5, ea5, ec5, hbk⟩ : ∃ va vc ea ec, w1.heap[rb]? = some (.cells #[.slice va 2 vc, .slice ea 1 ec] 39 (0, 0)) := by
    obtain ⟨VL, EL, ⟨⟨va, vc, ea, ec, h1, _, _⟩, _, _, _⟩, h4, h5⟩ := hr
    refine ⟨va, vc, ea, ec, ?_⟩
    have l1 := congrArg List.length h4
    have l2 := congrArg List.length h5
    rw [List.length_map] at l1 l2
    rw [h1, l1, l2]
    rfl
  have g1 := cell_of_blk hbk 1
  have zg : rb < w1.heap.size := (Array.getElem?_eq_some_iff.1 hbk).1
  simp at g1
  clear hg hr b1 hbk
  go_wp2_with fail
  refine (wnew_any gb 2 w1).mono ?_
  rintro e w2 hp
  unfold WnPost at hp
  rw [if_neg (by omega)] at hp
  obtain ⟨rfl, hw⟩ := hp
  have HWK : Hid (WkS w1 w2 w1.heap.size gb (some 2)) := Lib.hid hw
  have HBA : Hid (Below w1.heap.size w1 w2) := Lib.hid hw.bel
  clear hw g1 zg
  go_wp2_with fail
  refine (wnext_any w1 w2 w1.heap.size gb vb eb V2 E1 (some 2) 1 true noB HG.out HWK.out (by decide)).mono ?_
  rintro e w3 ⟨v, rfl, o3, s3, k3⟩
  rw [pay1] at o3 s3
  simp only [Option.isSome_some, if_true] at o3
  rw [next1 HG.out.ok.se] at o3
  obtain ⟨va, vc, rfl⟩ := o3.shape
  have HO3 := Lib.hid o3
  have HS3 := Lib.hid s3
  clear o3 s3 k3
  go_wp2_with fail
  refine (left_any w1 w3 w1.heap.size gb (some 0) HS3.out).mono ?_
  rintro e w4 ⟨rfl, rfl⟩
  go_wp2_with fail
  refine (wvertex_any w1 w3 w1.heap.size gb vb eb V2 E1 (some 0) 1 HG.out HS3.out (by unfold I64; omega)).mono ?_
  rintro e w5 ⟨a5, c5, rfl, s5, k5⟩
  rw [show payS (some 0) 1 = none from rfl] at s5 ⊢
  simp only [Option.isSome_none, Bool.false_eq_true, if_false, Bool.false_and]
  obtain ⟨W5, hW5⟩ : ∃ W5, W5 = (w5.alloc (.cells #[.int .i64 Vt.zero.id, .string Vt.zero.label, .slice a5 Vt.zero.ps.length c5] 28)).alloc (.cells #[.int .i64 2] 3) := ⟨_, rfl⟩
  have HS5 : Hid (WkS w1 W5 w1.heap.size gb none) := Lib.hid (by rw [hW5]; exact s5.below (below_then (below_box _ _) (below_box _ _)))
  have HI : Hid (Calls Tryz.prog 44 #[.slice va 1 vc, .slice (some ⟨w5.heap.size + 1, 0, none⟩) 1 1] W5 fun e w' => e = .returned (.bool true) ∧ Below W5.heap.size W5 w') := Lib.hid (by
    have ho : kI.Own W5 w2.heap.size (.slice va 1 vc) [2] := by rw [hW5]; exact ((HO3.out.chg k5 (fun j hj e => by have := (HO3.out.lt j hj).1; have := HWK.out.lt; omega)).alloc _).alloc _
    exact ints10_any va (some ⟨w5.heap.size + 1, 0, none⟩) vc 1 [2] [2] W5 ho.toV (fun _ => ⟨_, 0, rfl, RowK.new_at (k := kI) (by rw [hW5]; exact heap_new2 w5 _ _) rfl⟩) (by decide))
  have HW5 := Lib.hid hW5.symm
  clear s5 k5 hW5
  unfold Vt.val
  go_wp2_with fail
  rw [HW5.out]
  refine HI.out.mono ?_
  rintro e w6 ⟨rfl, b6⟩
  have HS6 : Hid (WkS w1 w6 w1.heap.size gb none) := Lib.hid (HS5.out.below b6)
  clear b6
  go_wp2_with fail
  refine (spent_any w1 w6 w1.heap.size gb none HS6.out).mono ?_
  rintro e w7 ⟨rfl, rfl⟩
  go_wp2_with fail
  go_ret
  exact ⟨rfl, HB1.out.trans (HS6.out.bel.mono HB1.out.size)⟩
end Go.Proofs.YtonilojjahfboaaGreat
