/- Layer 18: the law's built. Conditions: each contract's own premises. Layer 18: small. Conditions: the contract's own premises. match.Bound and the reference's, for few vertices and edges. Conditions: each contract's own premises. Layer 18: the law's example. Conditions: none. Layer 18: what the laws stand on. Conditions: each lemma's own premises. -/
import Derived.Test.YtonilojjahfboaaGreatRg4
import Derived.Test.YtonilojjahfboaaGreatGrA
import Derived.Test.YtonilojjahfboaaGreatMaC
import Derived.Test.YtonilojjahfboaaGreatMrA
import Derived.Test.YtonilojjahfboaaGreatMaE
import Derived.Test.YtonilojjahfboaaGreatMrB
import Derived.Test.YtonilojjahfboaaGreatPbX
import Derived.Test.YtonilojjahfboaaGreatPb5
import Derived.Test.YtonilojjahfboaaGreatSideRead
namespace Go.Proofs.YtonilojjahfboaaGreat
open Go.RowKit Go.Maps

def Bt8Post (w : World) (VL : List Vr) (EL : List Er) (e : Ending) (w' : World) : Prop :=
  ∃ gb vb eb rb B, e = .returned (.tuple #[.pointer (some ⟨gb, 0, none⟩), .pointer (some ⟨rb, 0, none⟩)]) ∧ GrC w' gb vb eb (adV [] (VL.map Vr.v)) (adE (adV [] (VL.map Vr.v)) [] (EL.map Er.e)) ∧ RgC w' rb B (adV [] (VL.map Vr.v)) (adE (adV [] (VL.map Vr.v)) [] (EL.map Er.e)) ∧ Below w.heap.size w w'
set_option maxRecDepth 100000 in
set_option maxHeartbeats 4000000 in
theorem built18_any (va ea : Option Addr) (vc ec : Nat) (VL : List Vr) (EL : List Er) (w : World) (h : PtIn w va ea VL EL) :
    Calls Tryz.prog 50 #[.agg #[.slice va VL.length vc, .slice ea EL.length ec]] w (Bt8Post w VL EL) := by
  obtain ⟨nv, hnv⟩ : ∃ n, n = VL.length := ⟨_, rfl⟩
  obtain ⟨ne, hne⟩ : ∃ n, n = EL.length := ⟨_, rfl⟩
  have HNV : Hid (nv = VL.length ∧ nv ≤ 1000) := Lib.hid ⟨hnv, by rw [hnv]; exact h.nv⟩
  have HNE : Hid (ne = EL.length ∧ ne ≤ 1000) := Lib.hid ⟨hne, by rw [hne]; exact h.ne⟩
  have H17 : Hid (∀ u, Below w.heap.size w u → Calls Tryz.prog 70 #[.slice va nv vc, .slice ea ne ec] u (B17 u VL EL)) := Lib.hid (fun u hu => by rw [hnv, hne]; exact r17built_any va ea vc ec VL EL u (h.below hu))
  rw [← hnv, ← hne]
  clear hnv hne
  obtain ⟨pb, hpb⟩ : ∃ pb, pb = w.heap.size := ⟨_, rfl⟩
  obtain ⟨W, hW⟩ : ∃ W, W = w.alloc (.cells #[.slice va nv vc, .slice ea ne ec] 112) := ⟨_, rfl⟩
  have HW := Lib.hid hW.symm
  have HWB : Hid (W.heap[pb]? = some (.cells #[.slice va nv vc, .slice ea ne ec] 112 (0, 0))) := Lib.hid (by rw [hW, hpb]; exact heap_new _ _)
  have HBW : Hid (Below w.heap.size w W) := Lib.hid (by rw [hW]; exact below_box _ _)
  have HPB := Lib.hid hpb
  have HP := Lib.hid h
  clear hW h
  go_enter Tryz.func50, Tryz.ntmps50
  go_wp2_with fail
  rw [HW.out, ← HPB.out]
  clear hpb
  refine (gnew_any W).mono ?_
  rintro e w1 ⟨rfl, hg, hb⟩
  obtain ⟨gb, hgb⟩ : ∃ gb, gb = W.heap.size + 2 := ⟨_, rfl⟩
  obtain ⟨vb, hvb⟩ : ∃ vb, vb = W.heap.size := ⟨_, rfl⟩
  obtain ⟨eb, heb⟩ : ∃ eb, eb = W.heap.size + 1 := ⟨_, rfl⟩
  rw [← heb, ← hgb, ← hvb] at hg
  rw [← hgb]
  have HG0 : Hid (GrC w1 gb vb eb (adV [] (([] : List Vr).map Vr.v)) []) := Lib.hid hg
  have HB1 : Hid (Below W.heap.size W w1) := Lib.hid hb
  have HVB : Hid (W.heap.size ≤ vb ∧ W.heap.size ≤ eb) := Lib.hid ⟨by omega, by omega⟩
  clear hgb hvb heb hg hb
  go_wp2_with fail
  go_loopw [5] (fun i wr => ∃ k : Nat, i = .int .i64 (k : Int) ∧ k ≤ nv ∧ Hid (GrC wr gb vb eb (adV [] ((VL.take k).map Vr.v)) []) ∧ Hid (Below W.heap.size W wr)) (fun i _ => nv - (intOf i).toNat)
  case atStart => exact ⟨0, rfl, Nat.zero_le _, by simpa using HG0, HB1⟩
  case round =>
    obtain ⟨k, rfl, hk, HR, HB⟩ := hrel
    have hnv2 := HNV.out.2
    have hbx := (HB.out.block _ (Array.getElem?_eq_some_iff.1 HWB.out).1).trans HWB.out
    have b0 := cell_of_blk hbx 0
    have b1 := cell_of_blk hbx 1
    simp at b0 b1
    have hz : pb < wr.heap.size := (Array.getElem?_eq_some_iff.1 hbx).1
    clear hbx
    by_cases hlt : k < nv
    · obtain ⟨x, hx⟩ : ∃ x, VL[k]? = some x := ⟨_, List.getElem?_eq_getElem (by have := HNV.out.1; omega)⟩
      have hp := HP.out.below (HBW.out.trans (HB.out.mono HBW.out.size))
      obtain ⟨b, off, rfl, hat⟩ := hp.vV (fun e => by rw [e] at hx; simp at hx)
      have c0 := hat.cells k x hx 0 _ rfl
      have c1 := hat.cells k x hx 1 _ rfl
      have c2 := hat.cells k x hx 2 _ rfl
      simp [kVr] at c0 c1 c2
      have hbl := hat.lt
      obtain ⟨p1, p2, p3, p4⟩ := hp.pv x (List.mem_of_getElem? hx)
      have HC : Hid (Calls Tryz.prog 79 #[.pointer (some ⟨gb, 0, none⟩), x.v.val x.a x.c] wr (AvPost wr gb vb eb (adV [] ((VL.take k).map Vr.v)) [] x.v)) := Lib.hid (gaddV_any gb vb eb _ _ x.v x.a x.c wr HR.out p1 p2 p3 (Nat.le_trans p4 (by decide)) (by
        have := adV_len ((VL.take k).map Vr.v) []
        have h9 : 1000 < maxLen := by decide
        simp at this ⊢
        omega))
      have HX : Hid (adV [] ((VL.take (k + 1)).map Vr.v) = (addV (adV [] ((VL.take k).map Vr.v)) x.v).2) := Lib.hid (by
        rw [List.take_add_one, hx, Option.toList_some, List.map_append, List.map_singleton, adV_snoc])
      clear hx hp hat p1 p2 p3 p4
      unfold Vt.val at HC
      go_wp2_with fail
      refine HC.out.mono ?_
      rintro e w3 ⟨rfl, h2, h3⟩
      have HR3 : Hid (GrC w3 gb vb eb (adV [] ((VL.take (k + 1)).map Vr.v)) []) := Lib.hid (by rw [HX.out]; exact h2)
      have HB3 : Hid (Below W.heap.size W w3) := Lib.hid (HB.out.trans (h3.below HB.out.size (fun i e => by rw [e]; exact HVB.out.1)))
      clear h2 h3 c0 c1 c2 hbl b0 b1 hz
      go_wp2_with fail
      exact ⟨⟨k + 1, by simp, hlt, HR3, HB3⟩, by simp [intOf]; omega⟩
    · have tj : decide ((k : Int) < (nv : Int)) = false := decide_eq_false (by omega)
      have HV : Hid (GrC wr gb vb eb (adV [] (VL.map Vr.v)) (adE (adV [] (VL.map Vr.v)) [] (([] : List Er).map Er.e))) := Lib.hid (by
        have h1 := HR.out
        rw [List.take_of_length_le (by have := HNV.out.1; omega)] at h1
        exact h1)
      clear HR
      go_wp2_with fail
      clear tj
      obtain ⟨V, hV⟩ : ∃ V, V = adV [] (VL.map Vr.v) := ⟨_, rfl⟩
      rw [← hV] at HV
      have HVV := Lib.hid hV
      clear hV hk hnv2 hlt b0 b1 hz
      obtain ⟨wo, rfl⟩ : ∃ wo : World, wo = wr := ⟨_, rfl⟩
      go_loopw [6] (fun i wr => ∃ k : Nat, i = .int .i64 (k : Int) ∧ k ≤ ne ∧ Hid (GrC wr gb vb eb V (adE V [] ((EL.take k).map Er.e))) ∧ Hid (Below W.heap.size W wr)) (fun i _ => ne - (intOf i).toNat)
      case atStart => exact ⟨0, rfl, Nat.zero_le _, by simpa using HV, HB⟩
      case round =>
        obtain ⟨k, rfl, hk, HR, HB⟩ := hrel
        have hne2 := HNE.out.2
        have hbx := (HB.out.block _ (Array.getElem?_eq_some_iff.1 HWB.out).1).trans HWB.out
        have b0 := cell_of_blk hbx 0
        have b1 := cell_of_blk hbx 1
        simp at b0 b1
        have hz : pb < wr.heap.size := (Array.getElem?_eq_some_iff.1 hbx).1
        clear hbx
        by_cases hlt : k < ne
        · obtain ⟨x, hx⟩ : ∃ x, EL[k]? = some x := ⟨_, List.getElem?_eq_getElem (by have := HNE.out.1; omega)⟩
          have hp := HP.out.below (HBW.out.trans (HB.out.mono HBW.out.size))
          obtain ⟨b, off, rfl, hat⟩ := hp.vE (fun e => by rw [e] at hx; simp at hx)
          have c0 := hat.cells k x hx 0 _ rfl
          have c1 := hat.cells k x hx 1 _ rfl
          have c2 := hat.cells k x hx 2 _ rfl
          have c3 := hat.cells k x hx 3 _ rfl
          have c4 := hat.cells k x hx 4 _ rfl
          simp [kEr] at c0 c1 c2 c3 c4
          have hbl := hat.lt
          obtain ⟨p1, p2, p3, p4⟩ := hp.pe x (List.mem_of_getElem? hx)
          have HC : Hid (Calls Tryz.prog 80 #[.pointer (some ⟨gb, 0, none⟩), x.e.val x.a x.c] wr (AePost wr gb vb eb V (adE V [] ((EL.take k).map Er.e)) x.e)) := Lib.hid (gaddE_any gb vb eb _ _ x.e x.a x.c wr HR.out p1 p2 p3 (Nat.le_trans p4 (by decide)) (by
            have := adE_len V ((EL.take k).map Er.e) []
            have h9 : 1000 < maxLen := by decide
            simp at this ⊢
            omega))
          have HX : Hid (adE V [] ((EL.take (k + 1)).map Er.e) = (addE V (adE V [] ((EL.take k).map Er.e)) x.e).2) := Lib.hid (by
            rw [List.take_add_one, hx, Option.toList_some, List.map_append, List.map_singleton, adE_snoc])
          clear hx hp hat p1 p2 p3 p4
          unfold Eg.val at HC
          go_wp2_with fail
          refine HC.out.mono ?_
          rintro e w3 ⟨rfl, h2, h3⟩
          have HR3 : Hid (GrC w3 gb vb eb V (adE V [] ((EL.take (k + 1)).map Er.e))) := Lib.hid (by rw [HX.out]; exact h2)
          have HB3 : Hid (Below W.heap.size W w3) := Lib.hid (HB.out.trans (h3.below HB.out.size (fun i e => by rw [e]; exact HVB.out.2)))
          clear h2 h3 c0 c1 c2 c3 c4 hbl b0 b1 hz
          go_wp2_with fail
          exact ⟨⟨k + 1, by simp, hlt, HR3, HB3⟩, by simp [intOf]; omega⟩
        · have tj : decide ((k : Int) < (ne : Int)) = false := decide_eq_false (by omega)
          have HBF : Hid (Below w.heap.size w wr) := Lib.hid (HBW.out.trans (HB.out.mono HBW.out.size))
          have HGF : Hid (GrC wr gb vb eb V (adE V [] (EL.map Er.e))) := Lib.hid (by
            have h1 := HR.out
            rw [List.take_of_length_le (by have := HNE.out.1; omega)] at h1
            exact h1)
          go_wp2_with fail
          refine (H17.out wr HBF.out).mono ?_
          rintro e w5 ⟨rfl, h1, h2⟩
          have H1 := Lib.hid h1
          have H2 := Lib.hid h2
          clear h1 h2 b0 b1
          go_wp2_with fail
          go_ret2
          refine ⟨gb, vb, eb, wr.heap.size, wr.heap.size + 1, rfl, ?_, H1.out, HBF.out.trans (H2.out.mono HBF.out.size)⟩
          have := HGF.out.below H2.out
          rw [HVV.out] at this
          exact this
end Go.Proofs.YtonilojjahfboaaGreat
namespace Go.Proofs.YtonilojjahfboaaGreat
open Go.RowKit Go.Maps

open Classical in
noncomputable def small8B (VL : List Vr) (EL : List Er) : Bool := decide (VL.length ≤ 9 ∧ EL.length ≤ 40 ∧ (∀ x ∈ VL, x.v.ps.length ≤ 20 ∧ x.v.label.size ≤ 100) ∧ ∀ x ∈ EL, x.e.ps.length ≤ 20 ∧ x.e.label.size ≤ 100)
set_option maxRecDepth 100000 in
set_option maxHeartbeats 4000000 in
theorem small18_any (va ea : Option Addr) (vc ec : Nat) (VL : List Vr) (EL : List Er) (w : World) (hv : kVr.V w va VL) (he : kEr.V w ea EL) :
    Calls Tryz.prog 47 #[.agg #[.slice va VL.length vc, .slice ea EL.length ec]] w fun e w' => e = .returned (.bool (small8B VL EL)) ∧ Below w.heap.size w w' := by
  obtain ⟨nv, hnv⟩ : ∃ n, n = VL.length := ⟨_, rfl⟩
  obtain ⟨ne, hne⟩ : ∃ n, n = EL.length := ⟨_, rfl⟩
  have HNV := Lib.hid hnv
  have HNE := Lib.hid hne
  rw [← hnv, ← hne]
  clear hnv hne
  obtain ⟨pb, hpb⟩ : ∃ pb, pb = w.heap.size := ⟨_, rfl⟩
  obtain ⟨W, hW⟩ : ∃ W, W = w.alloc (.cells #[.slice va nv vc, .slice ea ne ec] 112) := ⟨_, rfl⟩
  have HW := Lib.hid hW.symm
  have HWB : Hid (W.heap[pb]? = some (.cells #[.slice va nv vc, .slice ea ne ec] 112 (0, 0))) := Lib.hid (by rw [hW, hpb]; exact heap_new _ _)
  have HBW : Hid (Below w.heap.size w W) := Lib.hid (by rw [hW]; exact below_box _ _)
  have HPB := Lib.hid hpb
  have HV := Lib.hid (hv.below HBW.out)
  have HE := Lib.hid (he.below HBW.out)
  clear hW hv he
  have b0 := cell_of_blk HWB.out 0
  have b1 := cell_of_blk HWB.out 1
  simp at b0 b1
  have hz : pb < W.heap.size := (Array.getElem?_eq_some_iff.1 HWB.out).1
  have no : ∀ h : ¬ (VL.length ≤ 9 ∧ EL.length ≤ 40 ∧ (∀ x ∈ VL, x.v.ps.length ≤ 20 ∧ x.v.label.size ≤ 100) ∧ ∀ x ∈ EL, x.e.ps.length ≤ 20 ∧ x.e.label.size ≤ 100), small8B VL EL = false := fun h => decide_eq_false h
  have NO := Lib.hid no
  clear no
  go_enter Tryz.func47, Tryz.ntmps47
  go_upto_region 1 with fail
  rw [HW.out, ← HPB.out]
  clear hpb
  by_cases h1 : 9 < nv
  · have t1 : decide ((9 : Int) < (nv : Int)) = true := decide_eq_true (by omega)
    have HF := Lib.hid (NO.out (fun h => by have := h.1; have := HNV.out; omega))
    go_wp2_with fail
    go_ret
    exact ⟨by rw [HF.out]; rfl, HBW.out⟩
  have t1 : decide ((9 : Int) < (nv : Int)) = false := decide_eq_false (by omega)
  by_cases h2 : 40 < ne
  · have t2 : decide ((40 : Int) < (ne : Int)) = true := decide_eq_true (by omega)
    have HF := Lib.hid (NO.out (fun h => by have := h.2.1; have := HNE.out; omega))
    go_wp2_with fail
    go_ret
    exact ⟨by rw [HF.out]; rfl, HBW.out⟩
  have t2 : decide ((40 : Int) < (ne : Int)) = false := decide_eq_false (by omega)
  go_wp2_with fail
  clear t1 t2

  go_loopw [3] (fun i wr => ∃ j : Nat, i = .int .i64 (j : Int) ∧ W = wr ∧ j ≤ nv ∧ Hid (∀ j' x, j' < j → VL[j']? = some x → x.v.ps.length ≤ 20 ∧ x.v.label.size ≤ 100)) (fun i _ => nv - (intOf i).toNat)
  case atStart => exact ⟨0, rfl, rfl, Nat.zero_le _, Lib.hid (fun _ _ h => absurd h (Nat.not_lt_zero _))⟩
  case round =>
    obtain ⟨j, rfl, rfl, hj, HOK⟩ := hrel
    by_cases hlt : j < nv
    · obtain ⟨x, hx⟩ : ∃ x, VL[j]? = some x := ⟨_, List.getElem?_eq_getElem (by have := HNV.out; omega)⟩
      obtain ⟨b, off, rfl, hat⟩ := HV.out (fun e => by rw [e] at hx; simp at hx)
      have c1 := hat.cells j x hx 1 _ rfl
      have c2 := hat.cells j x hx 2 _ rfl
      simp [kVr] at c1 c2
      have hbl := hat.lt
      have HX := Lib.hid hx
      clear hx hat
      by_cases h3 : 20 < x.v.ps.length
      · have t3 : decide ((20 : Int) < (x.v.ps.length : Int)) = true := decide_eq_true (by omega)
        have HF := Lib.hid (NO.out (fun h => by have := (h.2.2.1 x (List.mem_of_getElem? HX.out)).1; omega))
        go_wp2_with fail
        go_ret
        exact ⟨by rw [HF.out]; rfl, HBW.out⟩
      have t3 : decide ((20 : Int) < (x.v.ps.length : Int)) = false := decide_eq_false (by omega)
      by_cases h4 : 100 < x.v.label.size
      · have t4 : decide ((100 : Int) < (x.v.label.size : Int)) = true := decide_eq_true (by omega)
        have HF := Lib.hid (NO.out (fun h => by have := (h.2.2.1 x (List.mem_of_getElem? HX.out)).2; omega))
        go_wp2_with fail
        go_ret
        exact ⟨by rw [HF.out]; rfl, HBW.out⟩
      have t4 : decide ((100 : Int) < (x.v.label.size : Int)) = false := decide_eq_false (by omega)
      have HH : Hid (x.v.ps.length ≤ 20 ∧ x.v.label.size ≤ 100) := Lib.hid ⟨by omega, by omega⟩
      clear h3 h4
      go_wp2_with fail
      refine ⟨⟨j + 1, by simp, by first | rfl | trivial, hlt, Lib.hid (fun j' y hj' hy => ?_)⟩, by simp [intOf]; omega⟩
      by_cases e : j' < j
      · exact HOK.out j' y e hy
      · obtain rfl : j' = j := by omega
        rw [HX.out] at hy
        injection hy with hy
        subst hy
        exact HH.out
    · have HALLv : Hid (∀ x ∈ VL, x.v.ps.length ≤ 20 ∧ x.v.label.size ≤ 100) := Lib.hid (fun x hx => by
        obtain ⟨i, hi, e⟩ := List.getElem_of_mem hx
        exact HOK.out i x (by have := HNV.out; omega) (by rw [List.getElem?_eq_getElem hi, e]))
      have tj : decide ((j : Int) < (nv : Int)) = false := decide_eq_false (by omega)

      go_wp2_with fail
      clear tj hlt hj HOK
      go_loopw [4] (fun i wr => ∃ j : Nat, i = .int .i64 (j : Int) ∧ W = wr ∧ j ≤ ne ∧ Hid (∀ j' x, j' < j → EL[j']? = some x → x.e.ps.length ≤ 20 ∧ x.e.label.size ≤ 100)) (fun i _ => ne - (intOf i).toNat)
      case atStart => exact ⟨0, rfl, rfl, Nat.zero_le _, Lib.hid (fun _ _ h => absurd h (Nat.not_lt_zero _))⟩
      case round =>
        obtain ⟨j, rfl, rfl, hj, HOK⟩ := hrel
        by_cases hlt : j < ne
        · obtain ⟨x, hx⟩ : ∃ x, EL[j]? = some x := ⟨_, List.getElem?_eq_getElem (by have := HNE.out; omega)⟩
          obtain ⟨b, off, rfl, hat⟩ := HE.out (fun e => by rw [e] at hx; simp at hx)
          have c1 := hat.cells j x hx 1 _ rfl
          have c2 := hat.cells j x hx 4 _ rfl
          simp [kEr] at c1 c2
          have hbl := hat.lt
          have HX := Lib.hid hx
          clear hx hat
          by_cases h3 : 20 < x.e.ps.length
          · have t3 : decide ((20 : Int) < (x.e.ps.length : Int)) = true := decide_eq_true (by omega)
            have HF := Lib.hid (NO.out (fun h => by have := (h.2.2.2 x (List.mem_of_getElem? HX.out)).1; omega))
            go_wp2_with fail
            go_ret
            exact ⟨by rw [HF.out]; rfl, HBW.out⟩
          have t3 : decide ((20 : Int) < (x.e.ps.length : Int)) = false := decide_eq_false (by omega)
          by_cases h4 : 100 < x.e.label.size
          · have t4 : decide ((100 : Int) < (x.e.label.size : Int)) = true := decide_eq_true (by omega)
            have HF := Lib.hid (NO.out (fun h => by have := (h.2.2.2 x (List.mem_of_getElem? HX.out)).2; omega))
            go_wp2_with fail
            go_ret
            exact ⟨by rw [HF.out]; rfl, HBW.out⟩
          have t4 : decide ((100 : Int) < (x.e.label.size : Int)) = false := decide_eq_false (by omega)
          have HH : Hid (x.e.ps.length ≤ 20 ∧ x.e.label.size ≤ 100) := Lib.hid ⟨by omega, by omega⟩
          clear h3 h4
          go_wp2_with fail
          refine ⟨⟨j + 1, by simp, by first | rfl | trivial, hlt, Lib.hid (fun j' y hj' hy => ?_)⟩, by simp [intOf]; omega⟩
          by_cases e : j' < j
          · exact HOK.out j' y e hy
          · obtain rfl : j' = j := by omega
            rw [HX.out] at hy
            injection hy with hy
            subst hy
            exact HH.out
        · have HALLe : Hid (∀ x ∈ EL, x.e.ps.length ≤ 20 ∧ x.e.label.size ≤ 100) := Lib.hid (fun x hx => by
            obtain ⟨i, hi, e⟩ := List.getElem_of_mem hx
            exact HOK.out i x (by have := HNE.out; omega) (by rw [List.getElem?_eq_getElem hi, e]))
          have tj : decide ((j : Int) < (ne : Int)) = false := decide_eq_false (by omega)

          have HF : Hid (small8B VL EL = true) := Lib.hid (decide_eq_true ⟨by have := HNV.out; omega, by have := HNE.out; omega, HALLv.out, HALLe.out⟩)
          go_wp2_with fail
          go_ret
          exact ⟨by rw [HF.out]; rfl, HBW.out⟩
end Go.Proofs.YtonilojjahfboaaGreat
namespace Go.Proofs.YtonilojjahfboaaGreat
open Go.RowKit Go.Maps

def bndP (NS : List Nd) (LS : List Lk) (v e : Nat) : Nat := if rightPat NS LS = true then NS.length + LS.length * (v + e) + (v + 1) ^ NS.length else 1073741824
theorem pow_small {v j : Nat} (hv : v ≤ 9) (hj : j ≤ 8) : (v + 1) ^ j ≤ 100000000 := by
  refine Nat.le_trans (Nat.pow_le_pow_left (show v + 1 ≤ 10 by omega) j) (Nat.le_trans (Nat.pow_le_pow_right (show 0 < 10 by omega) hj) ?_)
  decide
theorem lin_small {l v e : Nat} (hl : l ≤ 16) (hv : v ≤ 9) (he : e ≤ 40) : l * (v + e) ≤ 784 :=
  Nat.le_trans (Nat.mul_le_mul hl (show v + e ≤ 49 by omega)) (by decide)
set_option maxRecDepth 100000 in
set_option maxHeartbeats 2000000 in
theorem mbound_any (na la : Option Addr) (nc lc : Nat) (NS : List Nd) (LS : List Lk) (w : World) (hn : kNd.V w na NS) (hl : kLk.V w la LS) (on : ∀ x ∈ NS, x.Ok) (ol : ∀ x ∈ LS, x.Ok) (l1 : NS.length ≤ 1000) (l2 : LS.length ≤ 1000) (v e : Nat) (hv : v ≤ 9) (he : e ≤ 40) :
    Calls Tryz.prog 56 #[.agg #[.slice na NS.length nc, .slice la LS.length lc], .int .i64 v, .int .i64 e] w fun r w' => r = .returned (.int .i64 (bndP NS LS v e)) ∧ Below w.heap.size w w' := by
  obtain ⟨nn, hnn⟩ : ∃ n, n = NS.length := ⟨_, rfl⟩
  obtain ⟨nl, hnl⟩ : ∃ n, n = LS.length := ⟨_, rfl⟩
  obtain ⟨W, hW⟩ : ∃ W, W = w.alloc (.cells #[.slice na NS.length nc, .slice la LS.length lc] 116) := ⟨_, rfl⟩
  obtain ⟨pb, hpb⟩ : ∃ b, b = w.heap.size := ⟨_, rfl⟩
  have e1 : W.heap[pb]? = some (.cells #[.slice na NS.length nc, .slice la LS.length lc] 116 (0, 0)) := by rw [hW, hpb]; exact heap_new w _
  have hBW : Below w.heap.size w W := by rw [hW]; exact below_box _ _
  obtain ⟨rt, hrt⟩ : ∃ b, b = rightPat NS LS := ⟨_, rfl⟩
  have HMR : Hid (Calls Tryz.prog 57 #[.agg #[.slice na nn nc, .slice la nl lc]] W fun e w' => e = .returned (.bool rt) ∧ Below W.heap.size W w') := Lib.hid (by
    rw [hnn, hnl, hrt]
    exact mright_any na la nc lc NS LS W (hn.below hBW) (hl.below hBW) on ol l1 l2)
  have HBN : Hid (bndP NS LS v e = if rt = true then nn + nl * (v + e) + (v + 1) ^ nn else 1073741824) := Lib.hid (by rw [hrt, hnn, hnl]; rfl)
  have HRT : Hid (rt = true → nn ≤ 8 ∧ nl ≤ 16) := Lib.hid (fun h => by
    rw [hrt] at h
    obtain ⟨⟨_, h2, h3⟩, _⟩ := rightPat_iff.1 h
    omega)
  rw [← hnn, ← hnl] at e1 hW ⊢
  have HPB : Hid (∀ u, Below W.heap.size W u → u.cell? ⟨pb, 0, none⟩ = some (.slice na nn nc) ∧ u.cell? ⟨pb, 1, none⟩ = some (.slice la nl lc) ∧ pb < u.heap.size) := Lib.hid (fun u hu => by
    have g1 := (hu.block _ (Array.getElem?_eq_some_iff.1 e1).1).trans e1
    exact ⟨by rw [cell_of_blk g1]; rfl, by rw [cell_of_blk g1]; rfl, (Array.getElem?_eq_some_iff.1 g1).1⟩)
  have HW := Lib.hid hW
  have HPE := Lib.hid hpb
  have HBW := Lib.hid hBW
  obtain ⟨vi, hvi⟩ : ∃ x : Int, x = (v : Int) := ⟨_, rfl⟩
  obtain ⟨ei, hei⟩ : ∃ x : Int, x = (e : Int) := ⟨_, rfl⟩
  rw [← hvi, ← hei]
  have HV : Hid (vi = (v : Int) ∧ v ≤ 9 ∧ ei = (e : Int) ∧ e ≤ 40) := Lib.hid ⟨hvi, hv, hei, he⟩
  have t1 : decide (vi < 0) = false := decide_eq_false (by omega)
  have t2 : decide (ei < 0) = false := decide_eq_false (by omega)
  have t3 : decide (1073741824 ≤ vi) = false := decide_eq_false (by omega)
  have t4 : decide (1073741824 ≤ ei) = false := decide_eq_false (by omega)
  clear hnn hnl hW hpb hBW hn hl on ol l1 l2 e1 hrt hvi hei hv he
  obtain ⟨p0, p1, pl⟩ := HPB.out W (Below.refl _ _)
  go_enter Tryz.func56, Tryz.ntmps56
  go_upto_region 1 with fail
  rw [← HW.out, ← HPE.out]
  cases rt with
  | false =>
    have HVAL : Hid (bndP NS LS v e = 1073741824) := Lib.hid (by rw [HBN.out]; rfl)
    go_wp2_with (go_at_call 57; (refine HMR.out.mono ?_); rintro e w1 ⟨rfl, hb1⟩; have HB1 := Lib.hid hb1; clear hb1)
    go_ret
    exact ⟨by rw [HVAL.out]; rfl, below_then HBW.out HB1.out⟩
  | true =>
    have HNL : Hid (nn ≤ 8 ∧ nl ≤ 16) := Lib.hid (HRT.out rfl)
    have HVAL : Hid (bndP NS LS v e = nn + nl * (v + e) + (v + 1) ^ nn) := Lib.hid (by rw [HBN.out]; rfl)
    obtain ⟨lin, hlin⟩ : ∃ x : Nat, x = nl * (v + e) := ⟨_, rfl⟩
    have HLIN : Hid (lin = nl * (v + e) ∧ lin ≤ 784) := Lib.hid ⟨hlin, by rw [hlin]; exact lin_small HNL.out.2 HV.out.2.1 HV.out.2.2.2⟩
    have hl2 : (nl : Int) * (vi + ei) = (lin : Int) := by rw [hlin, HV.out.1, HV.out.2.2.1]; push_cast; rfl
    have w1 : IntKind.i64.wrap (vi + ei) = vi + ei := IntWalk.i64_in _ (by have := HV.out; omega)
    have w2 : IntKind.i64.wrap ((nl : Int) * (vi + ei)) = lin := by rw [hl2]; exact IntWalk.i64_in _ (by have := HLIN.out.2; omega)
    have w3 : IntKind.i64.wrap ((nn : Int) + (lin : Int)) = nn + lin := IntWalk.i64_in _ (by have := HLIN.out.2; have := HNL.out; omega)
    have w4 : IntKind.i64.wrap (vi + 1) = vi + 1 := IntWalk.i64_in _ (by have := HV.out; omega)
    have hn9 : nn ≤ 1000 := by have := HNL.out; omega
    clear hlin hl2
    go_upto_region 3 with (go_at_call 57; (refine HMR.out.mono ?_); rintro e w1 ⟨rfl, hb1⟩; have HB1 := Lib.hid hb1; clear hb1; obtain ⟨x0, x1, xl⟩ := HPB.out _ HB1.out)
    go_wp2_with fail
    go_loopw [8, 42] (fun p i wr => ∃ (j pw : Nat), i = .int .i64 j ∧ p = .int .i64 pw ∧ j ≤ nn ∧ pw = (v + 1) ^ j ∧ wr = w1) (fun _ i _ => nn - (intOf i).toNat)
    case atStart => exact ⟨0, 1, rfl, rfl, Nat.zero_le _, by simp, rfl⟩
    case round =>
      obtain ⟨j, pw, rfl, rfl, hj, hpw, rfl⟩ := hrel
      have hj9 : j ≤ 1000 := Nat.le_trans hj hn9
      have HPW : Hid (pw = (v + 1) ^ j ∧ pw ≤ 100000000) := Lib.hid ⟨hpw, by rw [hpw]; exact pow_small HV.out.2.1 (by have := HNL.out; omega)⟩
      clear hpw
      by_cases hlt : j < nn
      · obtain ⟨p2, hp2⟩ : ∃ x : Nat, x = pw * (v + 1) := ⟨_, rfl⟩
        have HP2 : Hid (p2 = (v + 1) ^ (j + 1) ∧ p2 ≤ 100000000) := Lib.hid (by
          have h1 : p2 = (v + 1) ^ (j + 1) := by rw [hp2, HPW.out.1]; rfl
          exact ⟨h1, by rw [h1]; exact pow_small HV.out.2.1 (by have := HNL.out; omega)⟩)
        have w5 : IntKind.i64.wrap ((pw : Int) * (vi + 1)) = p2 := by
          have h1 : (pw : Int) * (vi + 1) = (p2 : Int) := by rw [hp2, HV.out.1]; push_cast; rfl
          rw [h1]; exact IntWalk.i64_in _ (by have := HP2.out.2; omega)
        have t5 : decide ((1073741824 : Int) ≤ (p2 : Int)) = false := decide_eq_false (by have := HP2.out.2; omega)
        have t5' : decide (1073741824 ≤ p2) = false := decide_eq_false (by have := HP2.out.2; omega)
        clear hp2
        go_wp2_with fail
        exact ⟨⟨j + 1, p2, by go_num, rfl, hlt, HP2.out.1, trivial⟩, by simp [intOf]; omega⟩
      · obtain rfl : j = nn := by omega
        obtain ⟨tot, htot⟩ : ∃ x : Nat, x = j + lin + pw := ⟨_, rfl⟩
        have w6 : IntKind.i64.wrap ((j : Int) + (lin : Int) + (pw : Int)) = tot := by
          have h1 : (j : Int) + (lin : Int) + (pw : Int) = (tot : Int) := by rw [htot]; push_cast; rfl
          rw [h1]; exact IntWalk.i64_in _ (by have := HPW.out.2; have := HLIN.out.2; omega)
        have HT : Hid (bndP NS LS v e = tot ∧ tot ≤ 200000000) := Lib.hid ⟨by rw [HVAL.out, htot, HPW.out.1, HLIN.out.1], by have := HPW.out.2; have := HLIN.out.2; omega⟩
        have t6 : min (tot : Int) 1073741824 = tot := by have := HT.out.2; omega
        clear htot
        go_wp2_with fail
        go_ret
        exact ⟨by rw [HT.out.1]; rfl, below_then HBW.out HB1.out⟩
set_option maxRecDepth 100000 in
set_option maxHeartbeats 2000000 in
theorem r18bound_any (na la : Option Addr) (nc lc : Nat) (NS : List Nd) (LS : List Lk) (w : World) (hn : kNd.V w na NS) (hl : kLk.V w la LS) (on : ∀ x ∈ NS, x.Ok) (ol : ∀ x ∈ LS, x.Ok) (l1 : NS.length ≤ 1000) (l2 : LS.length ≤ 1000) (v e : Nat) (hv : v ≤ 9) (he : e ≤ 40) :
    Calls Tryz.prog 53 #[.agg #[.slice na NS.length nc, .slice la LS.length lc], .int .i64 v, .int .i64 e] w fun r w' => r = .returned (.int .i64 (bndP NS LS v e)) ∧ Below w.heap.size w w' := by
  obtain ⟨nn, hnn⟩ : ∃ n, n = NS.length := ⟨_, rfl⟩
  obtain ⟨nl, hnl⟩ : ∃ n, n = LS.length := ⟨_, rfl⟩
  obtain ⟨W, hW⟩ : ∃ W, W = w.alloc (.cells #[.slice na NS.length nc, .slice la LS.length lc] 116) := ⟨_, rfl⟩
  obtain ⟨pb, hpb⟩ : ∃ b, b = w.heap.size := ⟨_, rfl⟩
  have e1 : W.heap[pb]? = some (.cells #[.slice na NS.length nc, .slice la LS.length lc] 116 (0, 0)) := by rw [hW, hpb]; exact heap_new w _
  have hBW : Below w.heap.size w W := by rw [hW]; exact below_box _ _
  obtain ⟨rt, hrt⟩ : ∃ b, b = rightPat NS LS := ⟨_, rfl⟩
  have HMR : Hid (Calls Tryz.prog 49 #[.agg #[.slice na nn nc, .slice la nl lc]] W fun e w' => e = .returned (.bool rt) ∧ Below W.heap.size W w') := Lib.hid (by
    rw [hnn, hnl, hrt]
    exact r18right_any na la nc lc NS LS W (hn.below hBW) (hl.below hBW) on ol l1 l2)
  have HBN : Hid (bndP NS LS v e = if rt = true then nn + nl * (v + e) + (v + 1) ^ nn else 1073741824) := Lib.hid (by rw [hrt, hnn, hnl]; rfl)
  have HRT : Hid (rt = true → nn ≤ 8 ∧ nl ≤ 16) := Lib.hid (fun h => by
    rw [hrt] at h
    obtain ⟨⟨_, h2, h3⟩, _⟩ := rightPat_iff.1 h
    omega)
  rw [← hnn, ← hnl] at e1 hW ⊢
  have HPB : Hid (∀ u, Below W.heap.size W u → u.cell? ⟨pb, 0, none⟩ = some (.slice na nn nc) ∧ u.cell? ⟨pb, 1, none⟩ = some (.slice la nl lc) ∧ pb < u.heap.size) := Lib.hid (fun u hu => by
    have g1 := (hu.block _ (Array.getElem?_eq_some_iff.1 e1).1).trans e1
    exact ⟨by rw [cell_of_blk g1]; rfl, by rw [cell_of_blk g1]; rfl, (Array.getElem?_eq_some_iff.1 g1).1⟩)
  have HW := Lib.hid hW
  have HPE := Lib.hid hpb
  have HBW := Lib.hid hBW
  obtain ⟨vi, hvi⟩ : ∃ x : Int, x = (v : Int) := ⟨_, rfl⟩
  obtain ⟨ei, hei⟩ : ∃ x : Int, x = (e : Int) := ⟨_, rfl⟩
  rw [← hvi, ← hei]
  have HV : Hid (vi = (v : Int) ∧ v ≤ 9 ∧ ei = (e : Int) ∧ e ≤ 40) := Lib.hid ⟨hvi, hv, hei, he⟩
  have t1 : decide (vi < 0) = false := decide_eq_false (by omega)
  have t2 : decide (ei < 0) = false := decide_eq_false (by omega)
  have t3 : decide (1073741824 ≤ vi) = false := decide_eq_false (by omega)
  have t4 : decide (1073741824 ≤ ei) = false := decide_eq_false (by omega)
  clear hnn hnl hW hpb hBW hn hl on ol l1 l2 e1 hrt hvi hei hv he
  obtain ⟨p0, p1, pl⟩ := HPB.out W (Below.refl _ _)
  go_enter Tryz.func53, Tryz.ntmps53
  go_upto_region 2 with fail
  rw [← HW.out, ← HPE.out]
  cases rt with
  | false =>
    have HVAL : Hid (bndP NS LS v e = 1073741824) := Lib.hid (by rw [HBN.out]; rfl)
    go_wp2_with (go_at_call 49; (refine HMR.out.mono ?_); rintro e w1 ⟨rfl, hb1⟩; have HB1 := Lib.hid hb1; clear hb1)
    go_ret
    exact ⟨by rw [HVAL.out]; rfl, below_then HBW.out HB1.out⟩
  | true =>
    have HNL : Hid (nn ≤ 8 ∧ nl ≤ 16) := Lib.hid (HRT.out rfl)
    have HVAL : Hid (bndP NS LS v e = nn + nl * (v + e) + (v + 1) ^ nn) := Lib.hid (by rw [HBN.out]; rfl)
    have w4 : IntKind.i64.wrap (vi + 1) = vi + 1 := IntWalk.i64_in _ (by have := HV.out; omega)
    have hn9 : nn ≤ 1000 := by have := HNL.out; omega
    have hl9 : nl ≤ 1000 := by have := HNL.out; omega
    go_upto_region 4 with (go_at_call 49; (refine HMR.out.mono ?_); rintro e w1 ⟨rfl, hb1⟩; have HB1 := Lib.hid hb1; clear hb1; obtain ⟨x0, x1, xl⟩ := HPB.out _ HB1.out)
    go_wp2_with fail
    go_loopw [8, 9] (fun p i wr => ∃ (j ac : Nat), i = .int .i64 j ∧ p = .int .i64 ac ∧ j ≤ nl ∧ ac = nn + j * (v + e) ∧ wr = w1) (fun _ i _ => nl - (intOf i).toNat)
    case atStart => exact ⟨0, nn, rfl, rfl, Nat.zero_le _, by simp, rfl⟩
    case round =>
      obtain ⟨j, ac, rfl, rfl, hj, hac, hww⟩ := hrel
      obtain rfl : w1 = wr := hww.symm
      have hj9 : j ≤ 1000 := Nat.le_trans hj hl9
      have HAC : Hid (ac = nn + j * (v + e) ∧ ac ≤ 800) := Lib.hid ⟨hac, by
        have := HNL.out
        have := lin_small (l := j) (v := v) (e := e) (by omega) HV.out.2.1 HV.out.2.2.2
        omega⟩
      clear hac
      by_cases hlt : j < nl
      · obtain ⟨a2, ha2⟩ : ∃ x : Nat, x = ac + v + e := ⟨_, rfl⟩
        have HA2 : Hid (a2 = nn + (j + 1) * (v + e)) := Lib.hid (by rw [ha2, HAC.out.1, Nat.succ_mul]; omega)
        have w5 : IntKind.i64.wrap ((ac : Int) + vi) = ac + vi := IntWalk.i64_in _ (by have := HAC.out.2; have := HV.out; omega)
        have w6 : IntKind.i64.wrap ((ac : Int) + vi + ei) = a2 := by
          have h1 : (ac : Int) + vi + ei = (a2 : Int) := by rw [ha2, HV.out.1, HV.out.2.2.1]; push_cast; rfl
          rw [h1]; exact IntWalk.i64_in _ (by have := HAC.out.2; have := HV.out; omega)
        clear ha2
        go_wp2_with fail
        exact ⟨⟨j + 1, a2, by go_num, rfl, hlt, HA2.out, by first | rfl | trivial⟩, by simp [intOf]; omega⟩
      · obtain rfl : j = nl := by omega
        go_wp2_with fail
        go_loopw [10, 11] (fun p i wr => ∃ (k pw : Nat), i = .int .i64 k ∧ p = .int .i64 pw ∧ k ≤ nn ∧ pw = (v + 1) ^ k ∧ wr = w1) (fun _ i _ => nn - (intOf i).toNat)
        case atStart => exact ⟨0, 1, rfl, rfl, Nat.zero_le _, by simp, rfl⟩
        case round =>
          obtain ⟨k, pw, rfl, rfl, hk, hpw, hww⟩ := hrel
          obtain rfl : w1 = wr := hww.symm
          have hk9 : k ≤ 1000 := Nat.le_trans hk hn9
          have HPW : Hid (pw = (v + 1) ^ k ∧ pw ≤ 100000000) := Lib.hid ⟨hpw, by rw [hpw]; exact pow_small HV.out.2.1 (by have := HNL.out; omega)⟩
          clear hpw
          have t5 : decide ((pw : Int) < (1073741824 : Int)) = true := decide_eq_true (by have := HPW.out.2; omega)
          have t5' : decide (pw < 1073741824) = true := decide_eq_true (by have := HPW.out.2; omega)
          have t6 : decide ((1073741824 : Int) ≤ (pw : Int)) = false := decide_eq_false (by have := HPW.out.2; omega)
          have t6' : decide (1073741824 ≤ pw) = false := decide_eq_false (by have := HPW.out.2; omega)
          by_cases hlt2 : k < nn
          · obtain ⟨p2, hp2⟩ : ∃ x : Nat, x = pw * (v + 1) := ⟨_, rfl⟩
            have HP2 : Hid (p2 = (v + 1) ^ (k + 1) ∧ p2 ≤ 100000000) := Lib.hid (by
              have h1 : p2 = (v + 1) ^ (k + 1) := by rw [hp2, HPW.out.1]; rfl
              exact ⟨h1, by rw [h1]; exact pow_small HV.out.2.1 (by have := HNL.out; omega)⟩)
            have w7 : IntKind.i64.wrap ((pw : Int) * (vi + 1)) = p2 := by
              have h1 : (pw : Int) * (vi + 1) = (p2 : Int) := by rw [hp2, HV.out.1]; push_cast; rfl
              rw [h1]; exact IntWalk.i64_in _ (by have := HP2.out.2; omega)
            clear hp2
            go_wp2_with fail
            exact ⟨⟨k + 1, p2, by go_num, rfl, hlt2, HP2.out.1, by first | rfl | trivial⟩, by simp [intOf]; omega⟩
          · obtain rfl : k = nn := by omega
            obtain ⟨tot, htot⟩ : ∃ x : Nat, x = ac + pw := ⟨_, rfl⟩
            have w8 : IntKind.i64.wrap ((ac : Int) + (pw : Int)) = tot := by
              have h1 : (ac : Int) + (pw : Int) = (tot : Int) := by rw [htot]; push_cast; rfl
              rw [h1]; exact IntWalk.i64_in _ (by have := HPW.out.2; have := HAC.out.2; omega)
            have HT : Hid (bndP NS LS v e = tot ∧ tot ≤ 200000000) := Lib.hid ⟨by rw [HVAL.out, htot, HPW.out.1, HAC.out.1], by have := HPW.out.2; have := HAC.out.2; omega⟩
            have t7 : decide ((1073741824 : Int) ≤ (tot : Int)) = false := decide_eq_false (by have := HT.out.2; omega)
            have t7' : decide (1073741824 ≤ tot) = false := decide_eq_false (by have := HT.out.2; omega)
            clear htot
            go_wp2_with fail
            go_ret
            exact ⟨by rw [HT.out.1]; rfl, below_then HBW.out HB1.out⟩
end Go.Proofs.YtonilojjahfboaaGreat
namespace Go.Proofs.YtonilojjahfboaaGreat
open Go.RowKit Go.Maps

def eP : Er := ⟨⟨1, ⟨#[120]⟩, 1, 2, []⟩, none, 0⟩
def eQ : Er := ⟨⟨2, ⟨#[120]⟩, 2, 3, []⟩, none, 0⟩
def V3 : List Vt := (VA 3).map Vr.v
def E2 : List Eg := [eP.e, eQ.e]
def nP : Nd := ⟨⟨#[97]⟩, ⟨#[]⟩, ⟨0, 0, ⟨#[]⟩⟩, ⟨0, 0, ⟨#[]⟩⟩⟩
def NS2 : List Nd := [nP, nP]
def LS1 : List Lk := [⟨0, 1, ⟨#[]⟩⟩]
theorem nPok : nP.Ok := by
  have h : (⟨0, 0, ⟨#[]⟩⟩ : Vl).Ok := ⟨by show I64 0; unfold I64; omega, by show I64 0; unfold I64; omega, Nat.zero_le _⟩
  exact ⟨by show 1 ≤ 1048576; omega, by show 0 ≤ 1048576; omega, h, h⟩
theorem has3 {n : Int} (h : 1 ≤ n ∧ n ≤ 3) : HasV V3 n := ⟨(vA (n - 1).toNat).v, List.mem_map.2 ⟨_, List.mem_map.2 ⟨(n - 1).toNat, List.mem_range.2 (by omega), rfl⟩, rfl⟩, by show (((n - 1).toNat : Nat) : Int) + 1 = n; omega⟩
theorem awE2 : adE V3 [] ([eP, eQ].map Er.e) = E2 := by
  show (addE V3 (addE V3 [] eP.e).2 eQ.e).2 = E2
  have h1 : (addE V3 [] eP.e).2 = [eP.e] := by
    rw [addE_end (checkR_nil bad_x (fun m hm => by
      rcases (by simpa [eP] using hm : m = 1 ∨ m = 1 ∨ m = 2) with rfl | rfl | rfl <;> omega)) (fun y hy => by cases hy) (has3 (by decide)) (has3 (by decide))]
    rfl
  rw [h1, addE_end (checkR_nil bad_x (fun m hm => by
    rcases (by simpa [eQ] using hm : m = 2 ∨ m = 2 ∨ m = 3) with rfl | rfl | rfl <;> omega)) (fun y hy => by
      rw [List.mem_singleton.1 hy]; decide) (has3 (by decide)) (has3 (by decide))]
  rfl
theorem tied1 (v : Int) : tiedP E2 LS1 [v] = true := tiedP_iff.2 (by
  intro l hl e
  rw [List.mem_singleton.1 hl] at e
  have e2 : (max (0 : Int) 1) + 1 = 1 := e
  omega)
theorem tied2 (a v : Int) : tiedP E2 LS1 [a, v] = decide ((a = 1 ∧ v = 2) ∨ (a = 2 ∧ v = 3)) := by
  rw [Bool.eq_iff_iff, tiedP_iff, decide_eq_true_iff]
  constructor
  · intro h
    obtain ⟨e, he, h1, h2, _⟩ := h _ (List.mem_singleton.2 rfl) (show (max (0 : Int) 1) + 1 = ((2 : Nat) : Int) by omega)
    simp at h1 h2
    rcases (by simpa [E2] using he : e = eP.e ∨ e = eQ.e) with rfl | rfl
    · exact .inl ⟨h1.symm, h2.symm⟩
    · exact .inr ⟨h1.symm, h2.symm⟩
  · intro h l hl _
    rw [List.mem_singleton.1 hl]
    rcases h with ⟨rfl, rfl⟩ | ⟨rfl, rfl⟩
    · exact ⟨eP.e, by simp [E2], rfl, rfl, .inl (by kernel_rfl)⟩
    · exact ⟨eQ.e, by simp [E2], rfl, rfl, .inl (by kernel_rfl)⟩
theorem cand3 : candP V3 NS2 0 = [1, 2, 3] ∧ candP V3 NS2 1 = [1, 2, 3] := ⟨by kernel_rfl, by kernel_rfl⟩
theorem rows18 : rowsP V3 E2 NS2 LS1 = [[1, 2], [2, 3]] := by
  show levR (candP V3 NS2) (tiedP E2 LS1) 2 = _
  have h1 : levR (candP V3 NS2) (tiedP E2 LS1) 1 = [[1], [2], [3]] := by
    show [[]].flatMap (extR (candP V3 NS2) (tiedP E2 LS1)) = _
    simp [extR, stepOk, cand3.1, tied1]
  show (levR (candP V3 NS2) (tiedP E2 LS1) 1).flatMap (extR (candP V3 NS2) (tiedP E2 LS1)) = _
  rw [h1]
  simp [extR, stepOk, cand3.2, tied2]
theorem right18 : rightPat NS2 LS1 = true := by kernel_rfl
theorem enough18 : enoughP V3 E2 NS2 LS1 ≤ 1000 := by decide
set_option maxRecDepth 100000 in
set_option maxHeartbeats 4000000 in
theorem awake18_any (w : World) : Calls Tryz.prog 46 #[] w fun e w' => e = .returned (.bool true) ∧ Below w.heap.size w w' := by
  obtain ⟨W, hW⟩ : ∃ W, W = (w.alloc (.cells #[.int .i64 1, .string ⟨#[97]⟩, .slice none 0 0, .int .i64 2, .string ⟨#[97]⟩, .slice none 0 0, .int .i64 3, .string ⟨#[97]⟩, .slice none 0 0] 28)).alloc (.cells #[.int .i64 1, .string ⟨#[120]⟩, .int .i64 1, .int .i64 2, .slice none 0 0, .int .i64 2, .string ⟨#[120]⟩, .int .i64 2, .int .i64 3, .slice none 0 0] 30) := ⟨_, rfl⟩
  have HWW : Hid (Below w.heap.size w W) := Lib.hid (by rw [hW]; exact (below_box w _).alloc (by simp) _)
  have HBT : Hid (Calls Tryz.prog 50 #[.agg #[.slice (some ⟨w.heap.size, 0, none⟩) 3 3, .slice (some ⟨w.heap.size + 1, 0, none⟩) 2 2]] W (Bt8Post W (VA 3) [eP, eQ])) := Lib.hid (by
    refine built18_any (some ⟨w.heap.size, 0, none⟩) (some ⟨w.heap.size + 1, 0, none⟩) 3 2 (VA 3) [eP, eQ] W ⟨fun _ => ⟨_, 0, rfl, ?_⟩, fun _ => ⟨_, 0, rfl, ?_⟩, fun x hx => ?_, fun x hx => ?_, by decide, by decide⟩
    · rw [hW]
      exact RowK.new_at (k := kVr) ((Below.heap_alloc _ _ _ (by simp)).trans (heap_new w _)) (by simp [RowK.cells, kVr, Vr.enc, VA, vA, List.range_succ])
    · rw [hW]
      exact RowK.new_at (k := kEr) (heap_new2 w _ _) (by simp [RowK.cells, kEr, Er.enc, eP, eQ])
    · obtain ⟨j, hj, rfl⟩ := List.mem_map.1 hx
      have hj := List.mem_range.1 hj
      exact ⟨psA_nil _, by show 0 ≤ 100000; omega, by show I64 ((j : Int) + 1); unfold I64; omega, by show 1 ≤ 2000000; omega⟩
    · rcases (by simpa using hx : x = eP ∨ x = eQ) with rfl | rfl
      · exact ⟨psA_nil _, by show 0 ≤ 100000; omega, ⟨by show I64 1; unfold I64; omega, by show I64 1; unfold I64; omega, by show I64 2; unfold I64; omega⟩, by show 1 ≤ 2000000; omega⟩
      · exact ⟨psA_nil _, by show 0 ≤ 100000; omega, ⟨by show I64 2; unfold I64; omega, by show I64 2; unfold I64; omega, by show I64 3; unfold I64; omega⟩, by show 1 ≤ 2000000; omega⟩)
  have HW := Lib.hid hW.symm
  clear hW
  go_enter Tryz.func46, Tryz.ntmps46
  go_wp2_with fail
  rw [HW.out]
  refine HBT.out.mono ?_
  rintro e w1 ⟨gb, vb, eb, rb, B, rfl, hg, hr, b1⟩
  rw [awV 3 (by decide), show adE ((VA 3).map Vr.v) [] ([eP, eQ].map Er.e) = E2 from awE2] at hg
  have HG : Hid (GrC w1 gb vb eb V3 E2) := Lib.hid hg
  have HB1 : Hid (Below w.heap.size w w1) := Lib.hid (HWW.out.trans (b1.mono HWW.out.size))
  clear hg hr b1
  go_wp2_with fail
  refine (wnew_any gb 1000 w1).mono ?_
  rintro e w2 hp
  unfold WnPost at hp
  rw [if_neg (by omega)] at hp
  obtain ⟨rfl, hw⟩ := hp
  have HWK : Hid (WkS w1 w2 w1.heap.size gb (some 1000)) := Lib.hid hw
  obtain ⟨wb, hwb⟩ : ∃ b, b = w1.heap.size := ⟨_, rfl⟩
  rw [← hwb] at HWK ⊢
  have HL : Hid (wb < w2.heap.size ∧ wb = w1.heap.size) := Lib.hid ⟨HWK.out.lt, hwb⟩
  clear hw hwb
  obtain ⟨W5, hW5⟩ : ∃ W5, W5 = (w2.alloc (.cells #[.string ⟨#[97]⟩, .string ⟨#[]⟩, .int .i64 0, .int .i64 0, .string ⟨#[]⟩, .int .i64 0, .int .i64 0, .string ⟨#[]⟩, .string ⟨#[97]⟩, .string ⟨#[]⟩, .int .i64 0, .int .i64 0, .string ⟨#[]⟩, .int .i64 0, .int .i64 0, .string ⟨#[]⟩] 100)).alloc (.cells #[.int .i64 0, .int .i64 1, .string ⟨#[]⟩] 128) := ⟨_, rfl⟩
  have hB5 : Below w2.heap.size w2 W5 := by rw [hW5]; exact below_then (below_box _ _) (below_box _ _)
  have HRUN : Hid (Calls Tryz.prog 51 #[.pointer (some ⟨wb, 0, none⟩), .agg #[.slice (some ⟨w2.heap.size, 0, none⟩) 2 2, .slice (some ⟨w2.heap.size + 1, 0, none⟩) 1 1], .int .i64 9] W5 (RnP w1 W5 wb gb (some 1000) V3 E2 NS2 LS1 9)) := Lib.hid (by
    have hn : kNd.V W5 (some ⟨w2.heap.size, 0, none⟩) NS2 := fun _ => ⟨_, 0, rfl, RowK.new_at (k := kNd) (by rw [hW5]; exact (Below.heap_alloc _ _ _ (by simp)).trans (heap_new w2 _)) (by simp [RowK.cells, kNd, Nd.enc, NS2, nP])⟩
    have hl : kLk.V W5 (some ⟨w2.heap.size + 1, 0, none⟩) LS1 := fun _ => ⟨_, 0, rfl, RowK.new_at (k := kLk) (by rw [hW5]; exact heap_new2 w2 _ _) (by simp [RowK.cells, kLk, Lk.enc, LS1])⟩
    exact mrun_any w1 W5 wb gb vb eb V3 E2 (some ⟨w2.heap.size, 0, none⟩) (some ⟨w2.heap.size + 1, 0, none⟩) 2 1 NS2 LS1 (some 1000) 9 HG.out (HWK.out.below hB5) hn hl (fun b off e _ => by cases e; have := HL.out.1; omega) (fun b off e _ => by cases e; have := HL.out.1; omega)
      (fun x hx => by
        rcases (by simpa [NS2] using hx : x = nP) with rfl
        exact nPok) (fun x hx => by
        rcases (by simpa [LS1] using hx : x = ⟨0, 1, ⟨#[]⟩⟩) with rfl
        exact ⟨by show I64 0; unfold I64; omega, by show I64 1; unfold I64; omega, by show 0 ≤ 1048576; omega⟩) right18 (by omega) (by decide) (by decide))
  have HW5 := Lib.hid hW5.symm
  have HB5 : Hid (Below w.heap.size w W5) := Lib.hid (HB1.out.trans ((below_then HWK.out.bel hB5).mono HB1.out.size))
  clear hW5 hB5
  go_wp2_with fail
  rw [HW5.out]
  refine HRUN.out.mono ?_
  rintro e w6 ⟨a, c, R, code, st', rfl, hT, hO, hF, hW6, hC⟩
  have hcode : code = 0 ∧ R.map Ws.l = [[1, 2], [2, 3]] := by
    rcases hT with ⟨_, _, _, h⟩ | ⟨r, r', _, _, ⟨_, _, h⟩ | ⟨h1, h2, _⟩⟩
    · have := h 1000 rfl
      have := enough18
      omega
    · rw [rows18] at h
      simp at h
    · rw [rows18] at h2
      exact ⟨h1, h2⟩
  obtain ⟨rfl, hR⟩ := hcode
  obtain ⟨n, hn⟩ : ∃ n, n = R.length := ⟨_, rfl⟩
  rw [← hn]
  have HN : Hid (n = R.length ∧ R.length = 2) := Lib.hid ⟨hn, by have := congrArg List.length hR; rw [List.length_map] at this; exact this⟩
  obtain ⟨W7, hW7⟩ : ∃ W7, W7 = ((w6.alloc (.cells #[.int .i64 1, .int .i64 2] 3)).alloc (.cells #[.int .i64 2, .int .i64 3] 3)).alloc (.cells #[.slice (some ⟨w6.heap.size, 0, none⟩) 2 2, .slice (some ⟨w6.heap.size + 1, 0, none⟩) 2 2] 42) := ⟨_, rfl⟩
  have hB7 : Below w6.heap.size w6 W7 := by rw [hW7]; exact below_then (below_then (below_box _ _) (below_box _ _)) (below_box _ _)
  have HSA : Hid (Calls Tryz.prog 54 #[.slice a n c, .slice (some ⟨w6.heap.size + 2, 0, none⟩) 2 2] W7 fun e w' => e = .returned (.bool true) ∧ Below W7.heap.size W7 w') := Lib.hid (by
    have g2 : W7.heap[w6.heap.size + 2]? = some (.cells #[.slice (some ⟨w6.heap.size, 0, none⟩) 2 2, .slice (some ⟨w6.heap.size + 1, 0, none⟩) 2 2] 42 (0, 0)) := by
      rw [hW7]
      have := heap_new ((w6.alloc (.cells #[.int .i64 1, .int .i64 2] 3)).alloc (.cells #[.int .i64 2, .int .i64 3] 3)) (.cells #[.slice (some ⟨w6.heap.size, 0, none⟩) 2 2, .slice (some ⟨w6.heap.size + 1, 0, none⟩) 2 2] 42)
      rw [size_alloc, size_alloc] at this
      exact this
    have g0 : W7.heap[w6.heap.size]? = some (.cells #[.int .i64 1, .int .i64 2] 3 (0, 0)) := by
      rw [hW7]
      exact (Below.heap_alloc _ _ _ (by simp; omega)).trans ((Below.heap_alloc _ _ _ (by simp)).trans (heap_new w6 _))
    have g1 : W7.heap[w6.heap.size + 1]? = some (.cells #[.int .i64 2, .int .i64 3] 3 (0, 0)) := by
      rw [hW7]
      exact (Below.heap_alloc _ _ _ (by simp)).trans (heap_new2 w6 _ _)
    have hS := same18_any a (some ⟨w6.heap.size + 2, 0, none⟩) c 2 R [⟨some ⟨w6.heap.size, 0, none⟩, 2, [1, 2]⟩, ⟨some ⟨w6.heap.size + 1, 0, none⟩, 2, [2, 3]⟩] W7 (hO.below hB7).toV
      (fun _ => ⟨_, 0, rfl, RowK.new_at (k := kW2) g2 (by simp [RowK.cells, kW2])⟩)
      (fun x hx => ⟨((hF x hx).below hB7).toV, by
        have h1 : x.l ∈ R.map Ws.l := List.mem_map.2 ⟨x, hx, rfl⟩
        rw [hR] at h1
        rcases (by simpa using h1 : x.l = [1, 2] ∨ x.l = [2, 3]) with h2 | h2 <;> rw [h2] <;> decide⟩)
      (fun x hx => by
        rcases (by simpa using hx : x = ⟨some ⟨w6.heap.size, 0, none⟩, 2, [1, 2]⟩ ∨ x = ⟨some ⟨w6.heap.size + 1, 0, none⟩, 2, [2, 3]⟩) with rfl | rfl
        · exact fun _ => ⟨_, 0, rfl, RowK.new_at (k := kI) g0 rfl⟩
        · exact fun _ => ⟨_, 0, rfl, RowK.new_at (k := kI) g1 rfl⟩) (by rw [HN.out.2]; decide)
    rw [hR, ← HN.out.1] at hS
    exact hS)
  have HW7 := Lib.hid hW7.symm
  have HB7 : Hid (Below w.heap.size w W7) := Lib.hid (below_then (HB1.out.trans (hW6.bel.mono HB1.out.size)) hB7)
  clear hT hO hF hW6 hC hR hn hW7 hB7
  go_wp2_with fail
  rw [HW7.out]
  refine HSA.out.mono ?_
  rintro e w8 ⟨rfl, b8⟩
  have HB8 := Lib.hid (below_then HB7.out b8)
  clear b8
  go_wp2_with fail
  go_ret
  exact ⟨rfl, HB8.out⟩
end Go.Proofs.YtonilojjahfboaaGreat
namespace Go.Proofs.YtonilojjahfboaaGreat
open Go.RowKit Go.Maps

theorem ptIn8_of {w : World} {va ea : Option Addr} {VL : List Vr} {EL : List Er} (h1 : kVr.V w va VL) (h2 : kEr.V w ea EL) (h3 : ∀ x ∈ VL, VrOk w x) (h4 : ∀ x ∈ EL, ErOk w x) (hs : small8B VL EL = true) : PtIn w va ea VL EL := by
  unfold small8B at hs
  obtain ⟨s1, s2, s3, s4⟩ := of_decide_eq_true hs
  refine ⟨h1, h2, fun x hx => ?_, fun x hx => ?_, by omega, by omega⟩
  · obtain ⟨g1, g2, g3⟩ := h3 x hx
    exact ⟨g1, by have := (s3 x hx).1; omega, g2, by omega⟩
  · obtain ⟨g1, g2, g3⟩ := h4 x hx
    exact ⟨g1, by have := (s4 x hx).1; omega, g2, by omega⟩
theorem built_len8 {VL : List Vr} {EL : List Er} (hs : small8B VL EL = true) : (adV [] (VL.map Vr.v)).length ≤ 9 ∧ (adE (adV [] (VL.map Vr.v)) [] (EL.map Er.e)).length ≤ 40 := by
  unfold small8B at hs
  obtain ⟨s1, s2, _⟩ := of_decide_eq_true hs
  have g1 := adV_len (VL.map Vr.v) []
  have g2 := adE_len (adV [] (VL.map Vr.v)) (EL.map Er.e) []
  simp at g1 g2
  omega
open Classical in
theorem smallPat_len {NS : List Nd} {LS : List Lk} (h : smallPat NS LS = true) : NS.length ≤ 12 ∧ LS.length ≤ 30 := by
  unfold smallPat at h
  exact (of_decide_eq_true h).1
theorem rows_few {V : List Vt} {E : List Eg} {NS : List Nd} {LS : List Lk} {k : Nat} (hV : V.length ≤ 9) (hk : k ≤ 8) (h : V.length ≤ 5 ∨ k ≤ 4) : (levR (candP V NS) (tiedP E LS) k).length ≤ 1000000 := by
  refine Nat.le_trans (lev_len _ _ (candP_len V NS) k) ?_
  rcases h with h | h
  · exact Nat.le_trans (Nat.pow_le_pow_left h k) (Nat.le_trans (Nat.pow_le_pow_right (show 0 < 5 by omega) hk) (by decide))
  · exact Nat.le_trans (Nat.pow_le_pow_left hV k) (Nat.le_trans (Nat.pow_le_pow_right (show 0 < 9 by omega) h) (by decide))
theorem RgC.rows8 {w : World} {rb B : Nat} {V : List Vt} {E : List Eg} (h : RgC w rb B V E) (hp : PGo V E) (hV : V.length ≤ 9) (hE : E.length ≤ 40) (na la : Option Addr) (nc lc : Nat) (NS : List Nd) (LS : List Lk)
    (hn : kNd.V w na NS) (hl : kLk.V w la LS) (hr : rightPat NS LS = true) (hf : V.length ≤ 5 ∨ NS.length ≤ 4) :
    Calls Tryz.prog 52 #[.pointer (some ⟨rb, 0, none⟩), .agg #[.slice na NS.length nc, .slice la LS.length lc]] w (RwPost w (rowsP V E NS LS)) := by
  obtain ⟨VL, EL, ⟨⟨va, vc, ea, ec, h1, h2, h3⟩, h4, h5, h6⟩, rfl, rfl⟩ := h
  simp only [List.length_map] at hV hE hf
  obtain ⟨⟨r1, r2, r3⟩, r4, r5⟩ := rightPat_iff.1 hr
  have hg : RgV w rb VL := ⟨⟨va, vc, by rw [cell_of_blk h1]; rfl, h2.toV⟩, fun y hy => ⟨(h4 y hy).1.v, Nat.le_trans (checkR_ps (hp.v y.v (List.mem_map.2 ⟨y, hy, rfl⟩))) (by omega)⟩, by omega, hp.sv⟩
  have h := r18rows_any (ea := ea) (ec := ec) hg (by rw [cell_of_blk h1]; rfl) h3.toV (by omega) na la nc lc NS LS hn hl r5 (by omega) (by omega) (fun k hk => by
    rw [refLev_eq hp.sv r5 k hk]
    exact rows_few (by simpa using hV) (by omega) (by simp only [List.length_map]; omega)) (by omega)
  rw [refLev_eq hp.sv r5 _ (Nat.le_refl _)] at h
  exact h
theorem RgC.cells {w : World} {rb B : Nat} {V : List Vt} {E : List Eg} (h : RgC w rb B V E) : ∃ va vc ea ec, ∀ u, Below w.heap.size w u → u.cell? ⟨rb, 0, none⟩ = some (.slice va V.length vc) ∧ u.cell? ⟨rb, 1, none⟩ = some (.slice ea E.length ec) ∧ rb < u.heap.size := by
  obtain ⟨VL, EL, ⟨⟨va, vc, ea, ec, h1, _, _⟩, _, _, _⟩, rfl, rfl⟩ := h
  refine ⟨va, vc, ea, ec, fun u hu => ?_⟩
  have g := (hu.block _ (Array.getElem?_eq_some_iff.1 h1).1).trans h1
  refine ⟨?_, ?_, (Array.getElem?_eq_some_iff.1 g).1⟩
  · rw [cell_of_blk g, List.length_map]; rfl
  · rw [cell_of_blk g, List.length_map]; rfl
theorem bnd_enough {V : List Vt} {E : List Eg} {NS : List Nd} {LS : List Lk} (h : rightPat NS LS = true) : bndP NS LS V.length E.length = enoughP V E NS LS := by
  unfold bndP
  rw [if_pos h]
  rfl
theorem bnd_top {NS : List Nd} {LS : List Lk} {v e : Nat} (hv : v ≤ 9) (he : e ≤ 40) : bndP NS LS v e ≤ 1073741824 := by
  unfold bndP
  split
  · rename_i h
    obtain ⟨⟨_, h2, h3⟩, _⟩ := rightPat_iff.1 h
    have h4 := pow_small (v := v) (j := NS.length) hv (by omega)
    have h5 := lin_small (l := LS.length) (by omega) hv he
    omega
  · exact Nat.le_refl _
end Go.Proofs.YtonilojjahfboaaGreat
