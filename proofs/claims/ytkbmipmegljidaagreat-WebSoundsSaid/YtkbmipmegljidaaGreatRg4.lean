/- Reference 17: Built. Conditions: the contract's own premises. -/
import Derived.Test.YtkbmipmegljidaaGreatRg3
namespace Go.Proofs.YtkbmipmegljidaaGreat
open Go.RowKit Go.Maps

noncomputable def adV (V l : List Vt) : List Vt := l.foldl (fun V v => (addV V v).2) V
noncomputable def adE (V : List Vt) (E l : List Eg) : List Eg := l.foldl (fun E e => (addE V E e).2) E
theorem adV_snoc (V l : List Vt) (v : Vt) : adV V (l ++ [v]) = (addV (adV V l) v).2 := by unfold adV; rw [List.foldl_append]; rfl
theorem adE_snoc (V : List Vt) (E l : List Eg) (e : Eg) : adE V E (l ++ [e]) = (addE V (adE V E l) e).2 := by unfold adE; rw [List.foldl_append]; rfl
theorem addV_len (V : List Vt) (v : Vt) : (addV V v).2.length ≤ V.length + 1 := by
  unfold addV
  split
  · split
    · simp
    · rw [len_insB]; exact Nat.le_refl _
  · simp
theorem addE_len (V : List Vt) (E : List Eg) (e : Eg) : (addE V E e).2.length ≤ E.length + 1 := by
  unfold addE
  split
  · split
    · simp
    · split
      · simp
      · rw [len_insB]; exact Nat.le_refl _
  · simp
theorem adV_len : ∀ (l V : List Vt), (adV V l).length ≤ V.length + l.length
  | [], V => Nat.le_refl _
  | v :: l, V => by
    show (adV (addV V v).2 l).length ≤ _
    have h1 := adV_len l (addV V v).2
    have h2 := addV_len V v
    simp only [List.length_cons]
    omega
theorem adE_len (V : List Vt) : ∀ (l E : List Eg), (adE V E l).length ≤ E.length + l.length
  | [], E => Nat.le_refl _
  | e :: l, E => by
    show (adE V (addE V E e).2 l).length ≤ _
    have h1 := adE_len V l (addE V E e).2
    have h2 := addE_len V E e
    simp only [List.length_cons]
    omega
/-- vertices and edges as they come in -/
structure PtIn (w : World) (va ea : Option Addr) (VL : List Vr) (EL : List Er) : Prop where
  vV : kVr.V w va VL
  vE : kEr.V w ea EL
  pv : ∀ x ∈ VL, PsA w x.a x.c x.v.ps ∧ x.v.ps.length ≤ 100000 ∧ I64 x.v.id ∧ x.v.label.size ≤ 2000000
  pe : ∀ x ∈ EL, PsA w x.a x.c x.e.ps ∧ x.e.ps.length ≤ 100000 ∧ (I64 x.e.id ∧ I64 x.e.fr ∧ I64 x.e.to) ∧ x.e.label.size ≤ 2000000
  nv : VL.length ≤ 1000
  ne : EL.length ≤ 1000
theorem PtIn.below {w w' : World} {va ea : Option Addr} {VL : List Vr} {EL : List Er} (h : PtIn w va ea VL EL) (hb : Below w.heap.size w w') : PtIn w' va ea VL EL :=
  ⟨h.vV.below hb, h.vE.below hb, fun x hx => ⟨(h.pv x hx).1.below hb, (h.pv x hx).2⟩, fun x hx => ⟨(h.pe x hx).1.below hb, (h.pe x hx).2⟩, h.nv, h.ne⟩
theorem RgC.addV {w : World} {rb B : Nat} {V : List Vt} {E : List Eg} (h : RgC w rb B V E) (v : Vt) (a : Option Addr) (c : Nat) (hB : B ≤ w.heap.size) (hp : PsA w a c v.ps) (hl : v.ps.length ≤ 100000) (hid : I64 v.id) (hlab : v.label.size ≤ 2000000) (hvl : V.length ≤ 500000) (hel : E.length ≤ 500000) :
    Calls Tryz.prog 17 #[.pointer (some ⟨rb, 0, none⟩), v.val a c] w (RavPost w rb B V E v) := by
  obtain ⟨VL, EL, h1, rfl, rfl⟩ := h
  exact r16addV_any v a c h1 hB hp hl hid hlab (by simpa using hvl) (by simpa using hel)
theorem RgC.addE {w : World} {rb B : Nat} {V : List Vt} {E : List Eg} (h : RgC w rb B V E) (v : Eg) (a : Option Addr) (c : Nat) (hB : B ≤ w.heap.size) (hp : PsA w a c v.ps) (hl : v.ps.length ≤ 100000) (hid : I64 v.id ∧ I64 v.fr ∧ I64 v.to) (hlab : v.label.size ≤ 2000000) (hvl : V.length ≤ 500000) (hel : E.length ≤ 500000) :
    Calls Tryz.prog 18 #[.pointer (some ⟨rb, 0, none⟩), v.val a c] w (RaePost w rb B V E v) := by
  obtain ⟨VL, EL, h1, rfl, rfl⟩ := h
  exact r16addE_any v a c h1 hB hp hl hid hlab (by simpa using hvl) (by simpa using hel)
def B17 (w : World) (VL : List Vr) (EL : List Er) (e : Ending) (w' : World) : Prop :=
  e = .returned (.pointer (some ⟨w.heap.size, 0, none⟩)) ∧ RgC w' w.heap.size (w.heap.size + 1) (adV [] (VL.map Vr.v)) (adE (adV [] (VL.map Vr.v)) [] (EL.map Er.e)) ∧ Below w.heap.size w w'
set_option maxRecDepth 100000 in
set_option maxHeartbeats 2000000 in
theorem r17built_any (va ea : Option Addr) (vc ec : Nat) (VL : List Vr) (EL : List Er) (w : World) (h : PtIn w va ea VL EL) :
    Calls Tryz.prog 6 #[.slice va VL.length vc, .slice ea EL.length ec] w (B17 w VL EL) := by
  obtain ⟨rb, hrb⟩ : ∃ rb, rb = w.heap.size := ⟨_, rfl⟩
  obtain ⟨W, hW⟩ : ∃ W, W = w.alloc (.cells #[.slice none 0 0, .slice none 0 0] 36) := ⟨_, rfl⟩
  have HW := Lib.hid hW.symm
  have HZ : Hid (w.heap.size + 1 = W.heap.size) := Lib.hid (by rw [hW]; simp)
  have HBW : Hid (Below w.heap.size w W) := Lib.hid (by rw [hW]; exact below_box _ _)
  have HR0 : Hid (RgC W rb (rb + 1) (adV [] (([] : List Vr).map Vr.v)) []) := Lib.hid ⟨[], [], ⟨⟨none, 0, none, 0, by rw [hW, hrb]; exact heap_new _ _, RowK.Own.nil kVr _ _, RowK.Own.nil kEr _ _⟩, (fun x hx => by cases hx), (fun x hx => by cases hx), by omega⟩, rfl, rfl⟩
  have HP := Lib.hid h
  have HRB := Lib.hid hrb
  clear hW h
  go_enter Tryz.func6, Tryz.ntmps6
  go_wp2_with fail
  rw [HW.out, ← HRB.out]
  clear hrb
  obtain ⟨nv, hnv⟩ : ∃ n, n = VL.length := ⟨_, rfl⟩
  obtain ⟨ne, hne⟩ : ∃ n, n = EL.length := ⟨_, rfl⟩
  have HNV : Hid (nv = VL.length ∧ nv ≤ 1000) := Lib.hid ⟨hnv, by rw [hnv]; exact HP.out.nv⟩
  have HNE : Hid (ne = EL.length ∧ ne ≤ 1000) := Lib.hid ⟨hne, by rw [hne]; exact HP.out.ne⟩
  rw [← hnv, ← hne]
  clear hnv hne
  have HBI : Hid (Below w.heap.size w W) := HBW
  go_loopw [6] (fun i wr => ∃ k : Nat, i = .int .i64 (k : Int) ∧ k ≤ nv ∧ Hid (RgC wr rb (rb + 1) (adV [] ((VL.take k).map Vr.v)) []) ∧ Hid (Below w.heap.size w wr) ∧ Hid (w.heap.size + 1 ≤ wr.heap.size)) (fun i _ => nv - (intOf i).toNat)
  case atStart => exact ⟨0, rfl, Nat.zero_le _, by simpa using HR0, HBI, Lib.hid (Nat.le_of_eq HZ.out)⟩
  case round =>
    obtain ⟨k, rfl, hk, HR, HB, HS⟩ := hrel
    have hnv2 := HNV.out.2
    by_cases hlt : k < nv
    · obtain ⟨x, hx⟩ : ∃ x, VL[k]? = some x := ⟨_, List.getElem?_eq_getElem (by have := HNV.out.1; omega)⟩
      have hp := HP.out.below HB.out
      obtain ⟨b, off, rfl, hat⟩ := hp.vV (fun e => by rw [e] at hx; simp at hx)
      have c0 := hat.cells k x hx 0 _ rfl
      have c1 := hat.cells k x hx 1 _ rfl
      have c2 := hat.cells k x hx 2 _ rfl
      simp [kVr] at c0 c1 c2
      have hbl := hat.lt
      obtain ⟨p1, p2, p3, p4⟩ := hp.pv x (List.mem_of_getElem? hx)
      have HC : Hid (Calls Tryz.prog 17 #[.pointer (some ⟨rb, 0, none⟩), x.v.val x.a x.c] wr (RavPost wr rb (rb + 1) (adV [] ((VL.take k).map Vr.v)) [] x.v)) := Lib.hid (HR.out.addV x.v x.a x.c (by rw [HRB.out]; exact HS.out) p1 p2 p3 p4 (by
        have := adV_len ((VL.take k).map Vr.v) []
        simp at this ⊢
        omega) (by simp))
      have HX : Hid (adV [] ((VL.take (k + 1)).map Vr.v) = (addV (adV [] ((VL.take k).map Vr.v)) x.v).2) := Lib.hid (by
        rw [List.take_add_one, hx, Option.toList_some, List.map_append, List.map_singleton, adV_snoc])
      clear hx hp hat p1 p2 p3 p4
      unfold Vt.val at HC
      go_wp2_with fail
      refine HC.out.mono ?_
      rintro e w3 ⟨rfl, h2, h3⟩
      have HR3 : Hid (RgC w3 rb (rb + 1) (adV [] ((VL.take (k + 1)).map Vr.v)) []) := Lib.hid (by rw [HX.out]; exact h2)
      have HB3 : Hid (Below w.heap.size w w3) := Lib.hid (HB.out.trans (h3.below HB.out.size (fun i e => by rw [e, HRB.out]; exact Nat.le_refl _)))
      have HS3 : Hid (w.heap.size + 1 ≤ w3.heap.size) := Lib.hid (Nat.le_trans HS.out h3.size)
      clear h2 h3 c0 c1 c2 hbl
      go_wp2_with fail
      exact ⟨⟨k + 1, by simp, hlt, HR3, HB3, HS3⟩, by simp [intOf]; omega⟩
    · have tj : decide ((k : Int) < (nv : Int)) = false := decide_eq_false (by omega)
      have HV : Hid (RgC wr rb (rb + 1) (adV [] (VL.map Vr.v)) (adE (adV [] (VL.map Vr.v)) [] (([] : List Er).map Er.e))) := Lib.hid (by
        have h1 := HR.out
        rw [List.take_of_length_le (by have := HNV.out.1; omega)] at h1
        exact h1)
      clear HR
      go_wp2_with fail
      clear tj
      obtain ⟨V, hV⟩ : ∃ V, V = adV [] (VL.map Vr.v) := ⟨_, rfl⟩
      rw [← hV] at HV
      have HVV := Lib.hid hV
      have HVL : Hid (V.length ≤ 1000) := Lib.hid (by
        have := adV_len (VL.map Vr.v) []
        rw [hV]
        have h2 := HP.out.nv
        simp at this ⊢
        omega)
      clear hV hk hnv2 hlt
      obtain ⟨wo, rfl⟩ : ∃ wo : World, wo = wr := ⟨_, rfl⟩
      go_loopw [7] (fun i wr => ∃ k : Nat, i = .int .i64 (k : Int) ∧ k ≤ ne ∧ Hid (RgC wr rb (rb + 1) V (adE V [] ((EL.take k).map Er.e))) ∧ Hid (Below w.heap.size w wr) ∧ Hid (w.heap.size + 1 ≤ wr.heap.size)) (fun i _ => ne - (intOf i).toNat)
      case atStart => exact ⟨0, rfl, Nat.zero_le _, by simpa using HV, HB, HS⟩
      case round =>
        obtain ⟨k, rfl, hk, HR, HB, HS⟩ := hrel
        have hne2 := HNE.out.2
        by_cases hlt : k < ne
        · obtain ⟨x, hx⟩ : ∃ x, EL[k]? = some x := ⟨_, List.getElem?_eq_getElem (by have := HNE.out.1; omega)⟩
          have hp := HP.out.below HB.out
          obtain ⟨b, off, rfl, hat⟩ := hp.vE (fun e => by rw [e] at hx; simp at hx)
          have c0 := hat.cells k x hx 0 _ rfl
          have c1 := hat.cells k x hx 1 _ rfl
          have c2 := hat.cells k x hx 2 _ rfl
          have c3 := hat.cells k x hx 3 _ rfl
          have c4 := hat.cells k x hx 4 _ rfl
          simp [kEr] at c0 c1 c2 c3 c4
          have hbl := hat.lt
          obtain ⟨p1, p2, p3, p4⟩ := hp.pe x (List.mem_of_getElem? hx)
          have HC : Hid (Calls Tryz.prog 18 #[.pointer (some ⟨rb, 0, none⟩), x.e.val x.a x.c] wr (RaePost wr rb (rb + 1) V (adE V [] ((EL.take k).map Er.e)) x.e)) := Lib.hid (HR.out.addE x.e x.a x.c (by rw [HRB.out]; exact HS.out) p1 p2 p3 p4 (by have := HVL.out; omega) (by
            have := adE_len V ((EL.take k).map Er.e) []
            simp at this ⊢
            omega))
          have HX : Hid (adE V [] ((EL.take (k + 1)).map Er.e) = (addE V (adE V [] ((EL.take k).map Er.e)) x.e).2) := Lib.hid (by
            rw [List.take_add_one, hx, Option.toList_some, List.map_append, List.map_singleton, adE_snoc])
          clear hx hp hat p1 p2 p3 p4
          unfold Eg.val at HC
          go_wp2_with fail
          refine HC.out.mono ?_
          rintro e w3 ⟨rfl, h2, h3⟩
          have HR3 : Hid (RgC w3 rb (rb + 1) V (adE V [] ((EL.take (k + 1)).map Er.e))) := Lib.hid (by rw [HX.out]; exact h2)
          have HB3 : Hid (Below w.heap.size w w3) := Lib.hid (HB.out.trans (h3.below HB.out.size (fun i e => by rw [e, HRB.out]; exact Nat.le_refl _)))
          have HS3 : Hid (w.heap.size + 1 ≤ w3.heap.size) := Lib.hid (Nat.le_trans HS.out h3.size)
          clear h2 h3 c0 c1 c2 c3 c4 hbl
          go_wp2_with fail
          exact ⟨⟨k + 1, by simp, hlt, HR3, HB3, HS3⟩, by simp [intOf]; omega⟩
        · have tj : decide ((k : Int) < (ne : Int)) = false := decide_eq_false (by omega)
          go_wp2_with fail
          go_ret
          have h1 := HR.out
          rw [List.take_of_length_le (by have := HNE.out.1; omega), HVV.out, HRB.out] at h1
          exact ⟨by rw [HRB.out]; rfl, h1, HB.out⟩
end Go.Proofs.YtkbmipmegljidaaGreat
