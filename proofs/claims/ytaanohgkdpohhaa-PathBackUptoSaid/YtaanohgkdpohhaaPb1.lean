/- Layer 19: the law's built. Conditions: each contract's own premises. -/
import Derived.Test.YtaanohgkdpohhaaRg4
import Derived.Test.YtaanohgkdpohhaaGr4
namespace Go.Proofs.Ytaanohgkdpohhaa
open Go.RowKit Go.Maps

def BtPost (w : World) (VL : List Vr) (EL : List Er) (e : Ending) (w' : World) : Prop :=
  ∃ gb vb eb rb B, e = .returned (.tuple #[.pointer (some ⟨gb, 0, none⟩), .pointer (some ⟨rb, 0, none⟩)]) ∧ GrC w' gb vb eb (adV [] (VL.map Vr.v)) (adE (adV [] (VL.map Vr.v)) [] (EL.map Er.e)) ∧ RgC w' rb B (adV [] (VL.map Vr.v)) (adE (adV [] (VL.map Vr.v)) [] (EL.map Er.e)) ∧ Below w.heap.size w w'
set_option maxRecDepth 100000 in
set_option maxHeartbeats 4000000 in
theorem built19_any (va ea : Option Addr) (vc ec : Nat) (VL : List Vr) (EL : List Er) (w : World) (h : PtIn w va ea VL EL) :
    Calls Try.prog 54 #[.agg #[.slice va VL.length vc, .slice ea EL.length ec]] w (BtPost w VL EL) := by
  obtain ⟨nv, hnv⟩ : ∃ n, n = VL.length := ⟨_, rfl⟩
  obtain ⟨ne, hne⟩ : ∃ n, n = EL.length := ⟨_, rfl⟩
  have HNV : Hid (nv = VL.length ∧ nv ≤ 1000) := Lib.hid ⟨hnv, by rw [hnv]; exact h.nv⟩
  have HNE : Hid (ne = EL.length ∧ ne ≤ 1000) := Lib.hid ⟨hne, by rw [hne]; exact h.ne⟩
  have H17 : Hid (∀ u, Below w.heap.size w u → Calls Try.prog 115 #[.slice va nv vc, .slice ea ne ec] u (B17 u VL EL)) := Lib.hid (fun u hu => by rw [hnv, hne]; exact r17built_any va ea vc ec VL EL u (h.below hu))
  rw [← hnv, ← hne]
  clear hnv hne
  obtain ⟨pb, hpb⟩ : ∃ pb, pb = w.heap.size := ⟨_, rfl⟩
  obtain ⟨W, hW⟩ : ∃ W, W = w.alloc (.cells #[.slice va nv vc, .slice ea ne ec] 105) := ⟨_, rfl⟩
  have HW := Lib.hid hW.symm
  have HWB : Hid (W.heap[pb]? = some (.cells #[.slice va nv vc, .slice ea ne ec] 105 (0, 0))) := Lib.hid (by rw [hW, hpb]; exact heap_new _ _)
  have HBW : Hid (Below w.heap.size w W) := Lib.hid (by rw [hW]; exact below_box _ _)
  have HPB := Lib.hid hpb
  have HP := Lib.hid h
  clear hW h
  go_enter Try.func54, Try.ntmps54
  go_wp2_with fail
  rw [HW.out, ← HPB.out]
  clear hpb
  refine (gnew_any W).mono ?_
  rintro e w1 ⟨rfl, hg, hb⟩
  obtain ⟨gb, hgb⟩ : ∃ gb, gb = W.heap.size + 2 := ⟨_, rfl⟩
  obtain ⟨vb, hvb⟩ : ∃ vb, vb = W.heap.size := ⟨_, rfl⟩
  obtain ⟨eb, heb⟩ : ∃ eb, eb = W.heap.size + 1 := ⟨_, rfl⟩
  rw [← heb, ← hgb, ← hvb] at hg
  rw [← hgb]
  have HG0 : Hid (GrC w1 gb vb eb (adV [] (([] : List Vr).map Vr.v)) []) := Lib.hid hg
  have HB1 : Hid (Below W.heap.size W w1) := Lib.hid hb
  have HVB : Hid (W.heap.size ≤ vb ∧ W.heap.size ≤ eb) := Lib.hid ⟨by omega, by omega⟩
  clear hgb hvb heb hg hb
  go_wp2_with fail
  go_loopw [5] (fun i wr => ∃ k : Nat, i = .int .i64 (k : Int) ∧ k ≤ nv ∧ Hid (GrC wr gb vb eb (adV [] ((VL.take k).map Vr.v)) []) ∧ Hid (Below W.heap.size W wr)) (fun i _ => nv - (intOf i).toNat)
  case atStart => exact ⟨0, rfl, Nat.zero_le _, by simpa using HG0, HB1⟩
  case round =>
    obtain ⟨k, rfl, hk, HR, HB⟩ := hrel
    have hnv2 := HNV.out.2
    have hbx := (HB.out.block _ (Array.getElem?_eq_some_iff.1 HWB.out).1).trans HWB.out
    have b0 := cell_of_blk hbx 0
    have b1 := cell_of_blk hbx 1
    simp at b0 b1
    have hz : pb < wr.heap.size := (Array.getElem?_eq_some_iff.1 hbx).1
    clear hbx
    by_cases hlt : k < nv
    · obtain ⟨x, hx⟩ : ∃ x, VL[k]? = some x := ⟨_, List.getElem?_eq_getElem (by have := HNV.out.1; omega)⟩
      have hp := HP.out.below (HBW.out.trans (HB.out.mono HBW.out.size))
      obtain ⟨b, off, rfl, hat⟩ := hp.vV (fun e => by rw [e] at hx; simp at hx)
      have c0 := hat.cells k x hx 0 _ rfl
      have c1 := hat.cells k x hx 1 _ rfl
      have c2 := hat.cells k x hx 2 _ rfl
      simp [kVr] at c0 c1 c2
      have hbl := hat.lt
      obtain ⟨p1, p2, p3, p4⟩ := hp.pv x (List.mem_of_getElem? hx)
      have HC : Hid (Calls Try.prog 40 #[.pointer (some ⟨gb, 0, none⟩), x.v.val x.a x.c] wr (AvPost wr gb vb eb (adV [] ((VL.take k).map Vr.v)) [] x.v)) := Lib.hid (gaddV_any gb vb eb _ _ x.v x.a x.c wr HR.out p1 p2 p3 (Nat.le_trans p4 (by decide)) (by
        have := adV_len ((VL.take k).map Vr.v) []
        have h9 : 1000 < maxLen := by decide
        simp at this ⊢
        omega))
      have HX : Hid (adV [] ((VL.take (k + 1)).map Vr.v) = (addV (adV [] ((VL.take k).map Vr.v)) x.v).2) := Lib.hid (by
        rw [List.take_add_one, hx, Option.toList_some, List.map_append, List.map_singleton, adV_snoc])
      clear hx hp hat p1 p2 p3 p4
      unfold Vt.val at HC
      go_wp2_with fail
      refine HC.out.mono ?_
      rintro e w3 ⟨rfl, h2, h3⟩
      have HR3 : Hid (GrC w3 gb vb eb (adV [] ((VL.take (k + 1)).map Vr.v)) []) := Lib.hid (by rw [HX.out]; exact h2)
      have HB3 : Hid (Below W.heap.size W w3) := Lib.hid (HB.out.trans (h3.below HB.out.size (fun i e => by rw [e]; exact HVB.out.1)))
      clear h2 h3 c0 c1 c2 hbl b0 b1 hz
      go_wp2_with fail
      exact ⟨⟨k + 1, by simp, hlt, HR3, HB3⟩, by simp [intOf]; omega⟩
    · have tj : decide ((k : Int) < (nv : Int)) = false := decide_eq_false (by omega)
      have HV : Hid (GrC wr gb vb eb (adV [] (VL.map Vr.v)) (adE (adV [] (VL.map Vr.v)) [] (([] : List Er).map Er.e))) := Lib.hid (by
        have h1 := HR.out
        rw [List.take_of_length_le (by have := HNV.out.1; omega)] at h1
        exact h1)
      clear HR
      go_wp2_with fail
      clear tj
      obtain ⟨V, hV⟩ : ∃ V, V = adV [] (VL.map Vr.v) := ⟨_, rfl⟩
      rw [← hV] at HV
      have HVV := Lib.hid hV
      clear hV hk hnv2 hlt b0 b1 hz
      obtain ⟨wo, rfl⟩ : ∃ wo : World, wo = wr := ⟨_, rfl⟩
      go_loopw [6] (fun i wr => ∃ k : Nat, i = .int .i64 (k : Int) ∧ k ≤ ne ∧ Hid (GrC wr gb vb eb V (adE V [] ((EL.take k).map Er.e))) ∧ Hid (Below W.heap.size W wr)) (fun i _ => ne - (intOf i).toNat)
      case atStart => exact ⟨0, rfl, Nat.zero_le _, by simpa using HV, HB⟩
      case round =>
        obtain ⟨k, rfl, hk, HR, HB⟩ := hrel
        have hne2 := HNE.out.2
        have hbx := (HB.out.block _ (Array.getElem?_eq_some_iff.1 HWB.out).1).trans HWB.out
        have b0 := cell_of_blk hbx 0
        have b1 := cell_of_blk hbx 1
        simp at b0 b1
        have hz : pb < wr.heap.size := (Array.getElem?_eq_some_iff.1 hbx).1
        clear hbx
        by_cases hlt : k < ne
        · obtain ⟨x, hx⟩ : ∃ x, EL[k]? = some x := ⟨_, List.getElem?_eq_getElem (by have := HNE.out.1; omega)⟩
          have hp := HP.out.below (HBW.out.trans (HB.out.mono HBW.out.size))
          obtain ⟨b, off, rfl, hat⟩ := hp.vE (fun e => by rw [e] at hx; simp at hx)
          have c0 := hat.cells k x hx 0 _ rfl
          have c1 := hat.cells k x hx 1 _ rfl
          have c2 := hat.cells k x hx 2 _ rfl
          have c3 := hat.cells k x hx 3 _ rfl
          have c4 := hat.cells k x hx 4 _ rfl
          simp [kEr] at c0 c1 c2 c3 c4
          have hbl := hat.lt
          obtain ⟨p1, p2, p3, p4⟩ := hp.pe x (List.mem_of_getElem? hx)
          have HC : Hid (Calls Try.prog 41 #[.pointer (some ⟨gb, 0, none⟩), x.e.val x.a x.c] wr (AePost wr gb vb eb V (adE V [] ((EL.take k).map Er.e)) x.e)) := Lib.hid (gaddE_any gb vb eb _ _ x.e x.a x.c wr HR.out p1 p2 p3 (Nat.le_trans p4 (by decide)) (by
            have := adE_len V ((EL.take k).map Er.e) []
            have h9 : 1000 < maxLen := by decide
            simp at this ⊢
            omega))
          have HX : Hid (adE V [] ((EL.take (k + 1)).map Er.e) = (addE V (adE V [] ((EL.take k).map Er.e)) x.e).2) := Lib.hid (by
            rw [List.take_add_one, hx, Option.toList_some, List.map_append, List.map_singleton, adE_snoc])
          clear hx hp hat p1 p2 p3 p4
          unfold Eg.val at HC
          go_wp2_with fail
          refine HC.out.mono ?_
          rintro e w3 ⟨rfl, h2, h3⟩
          have HR3 : Hid (GrC w3 gb vb eb V (adE V [] ((EL.take (k + 1)).map Er.e))) := Lib.hid (by rw [HX.out]; exact h2)
          have HB3 : Hid (Below W.heap.size W w3) := Lib.hid (HB.out.trans (h3.below HB.out.size (fun i e => by rw [e]; exact HVB.out.2)))
          clear h2 h3 c0 c1 c2 c3 c4 hbl b0 b1 hz
          go_wp2_with fail
          exact ⟨⟨k + 1, by simp, hlt, HR3, HB3⟩, by simp [intOf]; omega⟩
        · have tj : decide ((k : Int) < (ne : Int)) = false := decide_eq_false (by omega)
          have HBF : Hid (Below w.heap.size w wr) := Lib.hid (HBW.out.trans (HB.out.mono HBW.out.size))
          have HGF : Hid (GrC wr gb vb eb V (adE V [] (EL.map Er.e))) := Lib.hid (by
            have h1 := HR.out
            rw [List.take_of_length_le (by have := HNE.out.1; omega)] at h1
            exact h1)
          go_wp2_with fail
          refine (H17.out wr HBF.out).mono ?_
          rintro e w5 ⟨rfl, h1, h2⟩
          have H1 := Lib.hid h1
          have H2 := Lib.hid h2
          clear h1 h2 b0 b1
          go_wp2_with fail
          go_ret2
          refine ⟨gb, vb, eb, wr.heap.size, wr.heap.size + 1, rfl, ?_, H1.out, HBF.out.trans (H2.out.mono HBF.out.size)⟩
          have := HGF.out.below H2.out
          rw [HVV.out] at this
          exact this
end Go.Proofs.Ytaanohgkdpohhaa
