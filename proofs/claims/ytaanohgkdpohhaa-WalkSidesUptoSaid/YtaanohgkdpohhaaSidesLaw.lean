/- Law WalkSides: the walk. Conditions: small bulk. -/
import Derived.Test.YtaanohgkdpohhaaQb2
import Derived.Test.YtaanohgkdpohhaaQb3
import Derived.Test.YtaanohgkdpohhaaQb4
import Derived.Test.YtaanohgkdpohhaaQb5
import Derived.Test.YtaanohgkdpohhaaSideRead
import Derived.BigQuiet
import Derived.BigRegion
import Derived.Deep.Cut
import Derived.Deep.RegionHeld3
import Derived.Deep.CutRange
namespace Go.Proofs.Ytaanohgkdpohhaa
open Go.RowKit Go.Maps

/-- what the law keeps: its walk, its two rows -/
structure SdI (w3 wr : World) (wb gb : Nat) (s c : Nat) (lv : Value) (L : List Int) (av : Value) (A : List Int) : Prop where
  wk : WkS w3 wr wb gb (some s)
  rich : Rich s c
  ol : kI.Own wr (wb + 1) lv L
  oa : kI.Own wr (wb + 1) av A
section
variable {w3 wr w' : World} {wb gb s c s' c' : Nat} {lv av : Value} {L A : List Int}
theorem SdI.below (h : SdI w3 wr wb gb s c lv L av A) (hb : Below wr.heap.size wr w') : SdI w3 w' wb gb s c lv L av A := ⟨h.wk.below hb, h.rich, h.ol.below hb, h.oa.below hb⟩
theorem SdI.call (h : SdI w3 wr wb gb s c lv L av A) (hs : WkS w3 w' wb gb (some s')) (hr : Rich s' c') (hc : Chg wr w' (fun i => i = wb)) : SdI w3 w' wb gb s' c' lv L av A :=
  ⟨hs, hr, h.ol.chg hc (fun j hj e => by have := (h.ol.lt j hj).1; omega), h.oa.chg hc (fun j hj e => by have := (h.oa.lt j hj).1; omega)⟩
theorem SdI.more (h : SdI w3 wr wb gb s c lv L av A) (hc : c ≤ c') : SdI w3 wr wb gb s c' lv L av A := ⟨h.wk, by have := h.rich; unfold Rich at *; omega, h.ol, h.oa⟩
end
/-- a call of Next that is paid -/
theorem next_paid {w3 wr : World} {wb gb vb eb s c : Nat} {V : List Vt} {E : List Eg} (n : Int) (out : Bool) (lab : ByteArray) (hG : GrC w3 gb vb eb V E) (h : WkS w3 wr wb gb (some s)) (hr : Rich s c) (hc : c ≤ 10000) (hE : E.length ≤ 60) :
    Calls Try.prog 49 #[.pointer (some ⟨wb, 0, none⟩), .int .i64 n, .bool out, .string lab] wr fun e w' => ∃ a cap s', e = .returned (.slice a (nextL E out lab n).length cap) ∧ kI.Own w' wr.heap.size (.slice a (nextL E out lab n).length cap) (nextL E out lab n) ∧ WkS w3 w' wb gb (some s') ∧ Rich s' (c + 1) ∧ Chg wr w' (fun i => i = wb) := by
  obtain ⟨s', e1, e2⟩ := pay_next (sideP out n) hr hc hE
  refine (wnext_any w3 wr wb gb vb eb V E (some s) n out lab hG h (by omega)).mono ?_
  rintro e w' ⟨v, rfl, o, hs, hk⟩
  rw [e1] at o hs
  simp only [Option.isSome_some, if_true] at o
  obtain ⟨a, cap, rfl⟩ := o.shape
  exact ⟨a, cap, s', rfl, o, hs, e2, hk⟩
set_option maxRecDepth 100000 in
set_option maxHeartbeats 8000000 in
theorem sides_any (va ea : Option Addr) (vc ec : Nat) (VL : List Vr) (EL : List Er) (id : Int) (lab : ByteArray) (w : World) (h1 : kVr.V w va VL) (h2 : kEr.V w ea EL) (h3 : ∀ x ∈ VL, VrOk w x) (h4 : ∀ x ∈ EL, ErOk w x) :
    Calls Try.prog 8 #[.agg #[.slice va VL.length vc, .slice ea EL.length ec], .int .i64 id, .string lab] w fun e w' => e = .returned (.bool true) ∧ Below w.heap.size w w' := by
  obtain ⟨nv, hnv⟩ : ∃ n, n = VL.length := ⟨_, rfl⟩
  obtain ⟨ne, hne⟩ : ∃ n, n = EL.length := ⟨_, rfl⟩
  have HNV := Lib.hid hnv
  have HNE := Lib.hid hne
  have HSM : Hid (∀ u, Below w.heap.size w u → Calls Try.prog 46 #[.agg #[.slice va nv vc, .slice ea ne ec]] u (fun e w' => e = .returned (.bool (small7B VL EL)) ∧ Below u.heap.size u w')) := Lib.hid (fun u hu => by rw [hnv, hne]; exact small17_any va ea vc ec VL EL u (h1.below hu) (h2.below hu))
  have HPT : Hid (small7B VL EL = true → PtIn w va ea VL EL) := Lib.hid (fun hs => ptIn7_of h1 h2 h3 h4 hs)
  rw [← hnv, ← hne]
  clear hnv hne h1 h2 h3 h4
  obtain ⟨pb, hpb⟩ : ∃ pb, pb = w.heap.size := ⟨_, rfl⟩
  obtain ⟨W, hW⟩ : ∃ W, W = w.alloc (.cells #[.slice va nv vc, .slice ea ne ec] 94) := ⟨_, rfl⟩
  have HWW : Hid (Below w.heap.size w W) := Lib.hid (by rw [hW]; exact below_box _ _)
  have HP0 : Hid (W.heap[pb]? = some (.cells #[.slice va nv vc, .slice ea ne ec] 94 (0, 0))) := Lib.hid (by rw [hW, hpb]; exact heap_new w _)
  have HBX : Hid (∀ u, Below W.heap.size W u → u.heap[pb]? = some (.cells #[.slice va nv vc, .slice ea ne ec] 94 (0, 0))) := Lib.hid (fun u hu => (hu.block _ (Array.getElem?_eq_some_iff.1 HP0.out).1).trans HP0.out)
  have HW := Lib.hid hW.symm
  have HQB := Lib.hid hpb.symm
  clear hW
  go_enter Try.func8, Try.ntmps8
  go_wp2_with fail
  rw [HW.out, HQB.out]
  clear hpb
  refine (awake17_any W).mono ?_
  rintro e w1 ⟨rfl, b1⟩
  have HB1 := Lib.hid b1
  have q1 := HBX.out w1 b1
  have p0 := cell_of_blk q1 0
  have p1 := cell_of_blk q1 1
  have zp : pb < w1.heap.size := (Array.getElem?_eq_some_iff.1 q1).1
  simp at p0 p1
  clear b1 q1
  go_wp2_with fail
  refine (HSM.out w1 (HWW.out.trans (HB1.out.mono HWW.out.size))).mono ?_
  rintro e w2 ⟨rfl, b2⟩
  have HB2 : Hid (Below W.heap.size W w2) := Lib.hid (HB1.out.trans (b2.mono HB1.out.size))
  clear b2 p0 p1 zp
  cases hs : small7B VL EL
  case false =>
    clear hs
    go_wp2_with fail
    refine (awake17_any _).mono ?_
    rintro e w9 ⟨rfl, b9⟩
    have HB9 : Hid (Below W.heap.size W w9) := Lib.hid (HB2.out.trans (b9.mono HB2.out.size))
    clear b9
    go_wp2_with fail
    go_ret
    exact ⟨rfl, HWW.out.trans (HB9.out.mono HWW.out.size)⟩
  have HS := Lib.hid hs
  clear hs
  by_cases hll : 100 < lab.size
  · have tl : decide ((100 : Int) < (lab.size : Int)) = true := decide_eq_true (by omega)
    go_wp2_with fail
    refine (awake17_any _).mono ?_
    rintro e w9 ⟨rfl, b9⟩
    have HB9 : Hid (Below W.heap.size W w9) := Lib.hid (HB2.out.trans (b9.mono HB2.out.size))
    clear b9
    go_wp2_with fail
    go_ret
    exact ⟨rfl, HWW.out.trans (HB9.out.mono HWW.out.size)⟩
  have tl : decide ((100 : Int) < (lab.size : Int)) = false := decide_eq_false (by omega)
  have q1 := HBX.out w2 HB2.out
  have p0 := cell_of_blk q1 0
  have p1 := cell_of_blk q1 1
  have zp : pb < w2.heap.size := (Array.getElem?_eq_some_iff.1 q1).1
  simp at p0 p1
  clear q1
  go_wp2_with fail
  have HBT := built17_any va ea vc ec VL EL w2 ((HPT.out HS.out).below (HWW.out.trans (HB2.out.mono HWW.out.size)))
  rw [← HNV.out, ← HNE.out] at HBT
  refine HBT.mono ?_
  rintro e w3 ⟨gb, vb, eb, rb, B, rfl, hg, hr, b3⟩
  have hlen : (adE (adV [] (VL.map Vr.v)) [] (EL.map Er.e)).length ≤ 60 := by
    have h := HS.out
    unfold small7B at h
    obtain ⟨s1, s2, _⟩ := of_decide_eq_true h
    have g2 := adE_len (adV [] (VL.map Vr.v)) (EL.map Er.e) []
    simp at g2
    omega
  obtain ⟨V, hV⟩ : ∃ V, V = adV [] (VL.map Vr.v) := ⟨_, rfl⟩
  rw [← hV] at hg hr hlen
  obtain ⟨E, hE⟩ : ∃ E, E = adE V [] (EL.map Er.e) := ⟨_, rfl⟩
  rw [← hE] at hg hr hlen
  obtain ⟨VR, ER, hrl, _, hme⟩ := hr
  have HG := Lib.hid hg
  have HR := Lib.hid hrl
  have HME := Lib.hid hme
  have HLN := Lib.hid hlen
  have HB3 : Hid (Below w.heap.size w w3) := Lib.hid (HWW.out.trans ((HB2.out.trans (b3.mono HB2.out.size)).mono HWW.out.size))
  clear hV hE hg hrl hme hlen b3 HBT p0 p1 zp tl hll
  go_wp2_with fail
  refine (wnew_any gb 1048576 w3).mono ?_
  rintro e w4 hp
  unfold WnPost at hp
  rw [if_neg (by omega)] at hp
  obtain ⟨rfl, hw⟩ := hp
  obtain ⟨wb, hwb⟩ : ∃ wb, wb = w3.heap.size := ⟨_, rfl⟩
  rw [← hwb] at hw ⊢
  have HW4 : Hid (WkS w3 w4 wb gb (some 1048576)) := Lib.hid hw
  clear hw hwb
  go_wp2_with fail
  refine (next_paid (c := 0) id true lab HG.out HW4.out (by unfold Rich; omega) (by omega) HLN.out).mono ?_
  rintro e w5 ⟨la, lc, s5, rfl, o5, k5, r5, c5⟩
  obtain ⟨L, hL⟩ : ∃ L, L = nextL E true lab id := ⟨_, rfl⟩
  rw [← hL] at o5 ⊢
  have HL := Lib.hid hL
  have HO5 := Lib.hid (o5.mono HW4.out.lt : kI.Own w5 (wb + 1) (.slice la L.length lc) L)
  have HW5 := Lib.hid k5
  have HR5 := Lib.hid r5
  clear hL o5 k5 r5 c5
  go_wp2_with fail
  refine (next_paid (c := 1) id true noB HG.out HW5.out HR5.out (by omega) HLN.out).mono ?_
  rintro e w6 ⟨aa, ac, s6, rfl, o6, k6, r6, c6⟩
  obtain ⟨A, hA⟩ : ∃ A, A = nextL E true noB id := ⟨_, rfl⟩
  rw [← hA] at o6 ⊢
  have HA := Lib.hid hA
  have HI6 : Hid (SdI w3 w6 wb gb s6 2 (.slice la L.length lc) L (.slice aa A.length ac) A) := Lib.hid ⟨k6, r6, HO5.out.chg c6 (fun j hj e => by have := (HO5.out.lt j hj).1; omega), o6.mono HW5.out.lt⟩
  have HLL : Hid (L.length ≤ 60 ∧ A.length ≤ 60) := Lib.hid ⟨by rw [HL.out]; exact Nat.le_trans (next_len _ _ _ _) HLN.out, by rw [hA]; exact Nat.le_trans (next_len _ _ _ _) HLN.out⟩
  clear hA o6 k6 r6 c6
  go_wp2_with fail
  go_loopw [13] (fun iv wr => ∃ (i s : Nat), iv = .int .i64 (i : Int) ∧ i ≤ L.length ∧ Hid (SdI w3 wr wb gb s (2 + i) (.slice la L.length lc) L (.slice aa A.length ac) A)) (fun iv _ => L.length - (intOf iv).toNat)
  case atStart => exact ⟨0, s6, rfl, Nat.zero_le _, HI6⟩
  case round =>
    obtain ⟨i, s, rfl, hi, HI⟩ := hrel
    have hl60 := HLL.out.1
    have ha60 := HLL.out.2
    by_cases hlt : i < L.length
    · obtain ⟨x, hx⟩ : ∃ x, L[i]? = some x := ⟨_, List.getElem?_eq_getElem hlt⟩
      obtain ⟨lb, lcap, hsl, _, _, hat⟩ := HI.out.ol.at' (fun e => by rw [e] at hlt; simp at hlt)
      injection hsl with e1 e2 e3
      subst e1
      have q0 := hat.cells i x hx 0 _ rfl
      simp [kI] at q0
      have hlb := hat.lt
      have HSD : Hid (id ∈ nextL E false lab x ∧ x ∈ A) := Lib.hid (by
        have h := List.mem_of_getElem? hx
        rw [HL.out] at h
        rw [HA.out]
        exact side_back HG.out.ok.se h)
      have HX := Lib.hid hx
      have hww := HI.out.wk.lt
      clear hx hat e2 e3
      go_wp2_with fail
      refine (next_paid x false lab HG.out HI.out.wk HI.out.rich (by omega) HLN.out).mono ?_
      rintro e w7 ⟨ba, bc, s7, rfl, o7, k7, r7, c7⟩
      obtain ⟨K, hK⟩ : ∃ K, K = nextL E false lab x := ⟨_, rfl⟩
      rw [← hK] at o7 ⊢
      have HI7 := Lib.hid (HI.out.call k7 r7 c7)
      have HK := Lib.hid hK
      have HH1 : Hid (Calls Try.prog 50 #[.slice ba K.length bc, .int .i64 id] w7 fun e w' => e = .returned (.bool true) ∧ w7 = w') := Lib.hid (by
        have := has10_any ba bc K id w7 o7.toV (by rw [hK]; have := next_len E false lab x; have := HLN.out; omega)
        rw [decide_eq_true (by rw [hK]; exact HSD.out.1 : id ∈ K)] at this
        exact this)
      have HH2 : Hid (Calls Try.prog 50 #[.slice aa A.length ac, .int .i64 x] w7 fun e w' => e = .returned (.bool true) ∧ w7 = w') := Lib.hid (by
        have := has10_any aa ac A x w7 HI7.out.oa.toV (by omega)
        rw [decide_eq_true (HSD.out.2 : x ∈ A)] at this
        exact this)
      have q7 := (HI7.out.ol.at' (fun e => by rw [e] at hlt; simp at hlt))
      obtain ⟨lb', lcap', hsl, _, _, hat⟩ := q7
      injection hsl with e1 e2 e3
      injection e1 with e1
      injection e1 with e1
      subst e1
      have q0 := hat.cells i x HX.out 0 _ rfl
      simp [kI] at q0
      have hlb := hat.lt
      clear hK o7 k7 r7 c7 hat e2 e3
      go_wp2_with fail
      refine HH1.out.mono ?_
      rintro e w8 ⟨rfl, rfl⟩
      go_wp2_with fail
      refine HH2.out.mono ?_
      rintro e w8 ⟨rfl, rfl⟩
      go_wp2_with fail
      exact ⟨⟨i + 1, s7, by simp, hlt, by rw [← Nat.add_assoc]; exact HI7⟩, by simp [intOf]; omega⟩
    · have tj : decide ((i : Int) < (L.length : Int)) = false := decide_eq_false (by omega)
      have HI62 : Hid (SdI w3 wr wb gb s 62 (.slice la L.length lc) L (.slice aa A.length ac) A) := Lib.hid (HI.out.more (by omega))
      clear HI
      go_wp2_with fail
      clear tj hi hlt
      obtain ⟨wo, rfl⟩ : ∃ wo : World, wo = wr := ⟨_, rfl⟩
      go_loopw [15] (fun iv wr => ∃ (i s : Nat), iv = .int .i64 (i : Int) ∧ i ≤ A.length ∧ Hid (SdI w3 wr wb gb s (62 + 60 * i) (.slice la L.length lc) L (.slice aa A.length ac) A)) (fun iv _ => A.length - (intOf iv).toNat)
      case atStart => exact ⟨0, s, rfl, Nat.zero_le _, HI62⟩
      case round =>
        obtain ⟨i, s, rfl, hi, HI⟩ := hrel
        have hl60 := HLL.out.1
        have ha60 := HLL.out.2
        by_cases hlt : i < A.length
        · obtain ⟨x, hx⟩ : ∃ x, A[i]? = some x := ⟨_, List.getElem?_eq_getElem hlt⟩
          have HX := Lib.hid hx
          have HIK : Hid (SdI w3 wr wb gb s (62 + 60 * i + 0) (.slice la L.length lc) L (.slice aa A.length ac) A) := HI
          have HEX : Hid (∃ e ∈ E, e.fr = id ∧ e.to = x) := Lib.hid (by
            have h := List.mem_of_getElem? hx
            rw [HA.out] at h
            exact side_any HG.out.ok.se h)
          obtain ⟨m, hm⟩ : ∃ m, m = ER.length := ⟨_, rfl⟩
          have HM : Hid (m = ER.length ∧ m ≤ 60) := Lib.hid ⟨hm, by have h9 := HLN.out; rw [← HME.out, List.length_map] at h9; omega⟩
          obtain ⟨xva, xvc, xea, xec, hxb, _, hxo⟩ := HR.out.ex
          have HRC : Hid (∀ u, Below w3.heap.size w3 u → u.cell? ⟨rb, 1, none⟩ = some (.slice xea m xec) ∧ rb < u.heap.size ∧ kEr.Own u B (.slice xea m xec) ER) := Lib.hid (fun u hu => by
            have e9 := (hu.block _ (Array.getElem?_eq_some_iff.1 hxb).1).trans hxb
            rw [hm]
            exact ⟨by rw [cell_of_blk e9]; rfl, (Array.getElem?_eq_some_iff.1 e9).1, hxo.below hu⟩)
          clear hx hm hxb hxo
          go_wp2_with fail
          obtain ⟨wi, rfl⟩ : ∃ wi : World, wi = wr := ⟨_, rfl⟩
          go_loopw [16, 17] (fun fv kv wr => ∃ (k s : Nat) (f : Bool), fv = .bool f ∧ kv = .int .i64 (k : Int) ∧ k ≤ m ∧ Hid (SdI w3 wr wb gb s (62 + 60 * i + k) (.slice la L.length lc) L (.slice aa A.length ac) A) ∧ Hid (∀ j y, j < k → ER[j]? = some y → y.e.fr = id → y.e.to = x → f = true)) (fun _ kv _ => m - (intOf kv).toNat)
          case atStart => exact ⟨0, s, false, rfl, rfl, Nat.zero_le _, HIK, Lib.hid (fun _ _ h => absurd h (Nat.not_lt_zero _))⟩
          case round =>
            obtain ⟨k, s, f, rfl, rfl, hk, HI, HF⟩ := hrel
            have hm60 := HM.out.2
            obtain ⟨c0, z0, ho⟩ := HRC.out wr HI.out.wk.bel
            by_cases hkm : k < m
            · obtain ⟨y, hy⟩ : ∃ y, ER[k]? = some y := ⟨_, List.getElem?_eq_getElem (by have := HM.out.1; omega)⟩
              obtain ⟨yb, ycap, hsl, _, _, hat⟩ := ho.at' (fun e => by rw [e] at hy; simp at hy)
              injection hsl with e1 e2 e3
              subst e1
              have y1 := hat.cells k y hy 1 _ rfl
              have y2 := hat.cells k y hy 2 _ rfl
              have y3 := hat.cells k y hy 3 _ rfl
              simp [kEr] at y1 y2 y3
              have hyl := hat.lt
              obtain ⟨xb, xcap, hsl, _, _, hat2⟩ := HI.out.oa.at' (fun e => by have := hlt; rw [e] at this; simp at this)
              injection hsl with e1 e2 e3
              subst e1
              have x0 := hat2.cells i x HX.out 0 _ rfl
              simp [kI] at x0
              have hxl := hat2.lt
              have HY := Lib.hid hy
              clear hy hat hat2 ho e2 e3
              by_cases hm2 : y.e.fr = id ∧ y.e.to = x
              · obtain ⟨r1, r2⟩ := hm2
                have t1 : (y.e.fr == id) = true := by simpa using r1
                have t2 : (y.e.to == x) = true := by simpa using r2
                have HXL : Hid (x ∈ nextL E true y.e.label id) := Lib.hid (side_lab HG.out.ok.se (by rw [← HME.out]; exact List.mem_map.2 ⟨y, List.mem_of_getElem? HY.out, rfl⟩) r1 r2)
                clear r1 r2
                go_wp2_with fail
                go_quiet (fail)
                go_upto_region 23 with fail
                obtain ⟨wd, hwd⟩ : ∃ wd, wd = wr.drewN nq := ⟨_, rfl⟩
                have HID : Hid (SdI w3 wd wb gb s (62 + 60 * i + k) (.slice la L.length lc) L (.slice (some ⟨xb, 0, none⟩) A.length ac) A) := Lib.hid (by rw [hwd]; exact HI.out.below (below_drewN (Below.refl _ _) _))
                rw [← hwd]
                clear hwd c0 z0 y1 y2 y3 hyl x0 hxl t1 t2
                cases f
                · obtain ⟨c0, z0, ho⟩ := HRC.out wd HID.out.wk.bel
                  obtain ⟨yb', ycap', hsl, _, _, hat⟩ := ho.at' (fun e => by have := HY.out; rw [e] at this; simp at this)
                  injection hsl with e1 e2 e3
                  injection e1 with e1
                  injection e1 with e1
                  subst e1
                  have y1 := hat.cells k y HY.out 1 _ rfl
                  simp [kEr] at y1
                  have hyl := hat.lt
                  obtain ⟨xb', xcap', hsl, _, _, hat2⟩ := HID.out.oa.at' (fun e => by have := hlt; rw [e] at this; simp at this)
                  injection hsl with e1 e2 e3
                  injection e1 with e1
                  injection e1 with e1
                  subst e1
                  have x0 := hat2.cells i x HX.out 0 _ rfl
                  simp [kI] at x0
                  have hxl := hat2.lt
                  clear hat hat2 ho e2 e3
                  have HDD : Hid (SdI w3 wd.drew wb gb s (62 + 60 * i + k) (.slice la L.length lc) L (.slice (some ⟨xb, 0, none⟩) A.length ac) A) := Lib.hid (HID.out.below (below_drewN (Below.refl _ _) 1))
                  have HNX := Lib.hid (next_paid id true y.e.label HG.out HDD.out.wk HDD.out.rich (by omega) HLN.out)
                  have HN7 : Hid (∀ (w7 : World) (ba : Option Addr) (bc s7 : Nat), kI.Own w7 wd.drew.heap.size (.slice ba (nextL E true y.e.label id).length bc) (nextL E true y.e.label id) → WkS w3 w7 wb gb (some s7) → Rich s7 (62 + 60 * i + k + 1) → Chg wd.drew w7 (fun i => i = wb) →
                      Hid (SdI w3 w7 wb gb s7 (62 + 60 * i + k + 1) (.slice la L.length lc) L (.slice (some ⟨xb, 0, none⟩) A.length ac) A) ∧ Hid (Calls Try.prog 50 #[.slice ba (nextL E true y.e.label id).length bc, .int .i64 x] w7 fun e w' => e = .returned (.bool true) ∧ w7 = w') ∧ w7.cell? ⟨xb, i, none⟩ = some (.int .i64 x) ∧ xb < w7.heap.size) := Lib.hid (fun w7 ba bc s7 o7 k7 r7 c7 => by
                    have hi7 := HDD.out.call k7 r7 c7
                    refine ⟨Lib.hid hi7, Lib.hid ?_, ?_, Nat.lt_of_lt_of_le hxl c7.size⟩
                    · have := has10_any ba bc (nextL E true y.e.label id) x w7 o7.toV (by have := next_len E true y.e.label id; have := HLN.out; omega)
                      rw [decide_eq_true HXL.out] at this
                      exact this
                    · obtain ⟨b9, o9, e9, hat9⟩ := RowK.Own.toV hi7.oa (fun e => by have := hlt; rw [e] at this; simp at this)
                      injection e9 with e9
                      injection e9 with e10 e11
                      subst e10 e11
                      have := hat9.cells i x HX.out 0 _ rfl
                      simpa [kI] using this)
                  have KS7 : Hid (∀ w7 : World, Chg wd.drew w7 (fun i => i = wb) → (w7.cell? ⟨rb, 1, none⟩ = some (.slice (some ⟨yb, 0, none⟩) m xec) ∧ w7.cell? ⟨yb, k * 5 + 1, none⟩ = some (.string y.e.label) ∧ w7.cell? ⟨xb, i, none⟩ = some (.int .i64 x))) := Lib.hid (fun w7 c7 => by
                    have n1 : rb ≠ wb := fun e => by have h1 := HR.out.size; have h2 := HID.out.wk.new; omega
                    have n2 : yb ≠ wb := fun e => by have h1 := ((HRC.out w3 (Below.refl _ _)).2.2.lt yb rfl).2; have h2 := HID.out.wk.new; omega
                    have n3 : xb ≠ wb := fun e => by have h1 := (HID.out.oa.lt xb rfl).1; omega
                    exact ⟨(World.cell?_of_block (a := ⟨rb, 1, none⟩) (c7.block rb z0 n1)).trans c0, (World.cell?_of_block (a := ⟨yb, k * 5 + 1, none⟩) (c7.block yb hyl n2)).trans y1, (World.cell?_of_block (a := ⟨xb, i, none⟩) (c7.block xb hxl n3)).trans x0⟩)
                  go_region_held3 (fun w' => w'.cell? ⟨rb, 1, none⟩ = some (.slice (some ⟨yb, 0, none⟩) m xec) ∧ w'.cell? ⟨yb, k * 5 + 1, none⟩ = some (.string y.e.label) ∧ w'.cell? ⟨xb, i, none⟩ = some (.int .i64 x))
                    (first | exact KS7.out _ (Chg.refl _ _) | exact KS7.out _ HC7.out)
                    (first | (go_at_call 49; (with_reducible refine HNX.out.mono ?_); rintro e w7 ⟨ba, bc, s7, rfl, o7, k7, r7, c7⟩; obtain ⟨HI7, HHS, x7, z7⟩ := HN7.out w7 ba bc s7 o7 k7 r7 c7; have HC7 := Lib.hid c7; clear o7 k7 r7 c7) | (go_at_call 50; (with_reducible refine HHS.out.mono ?_); rintro e w8 ⟨rfl, rfl⟩) | fail)
                  all_goals (
                    go_wp2_with fail
                    exact ⟨⟨k + 1, s7, true, rfl, by simp, hkm, HI7, Lib.hid (fun _ _ _ _ _ _ => rfl)⟩, by simp [intOf]; omega⟩)
                · go_wp2_with fail
                  go_quiet (fail)
                  go_wp2_with fail
                  exact ⟨⟨k + 1, s, true, rfl, by simp, hkm, Lib.hid ((HID.out.below (below_drewN (Below.refl _ _) _)).more (by omega)), Lib.hid (fun _ _ _ _ _ _ => rfl)⟩, by simp [intOf]; omega⟩
              · have HNM := Lib.hid hm2
                have HFK : Hid (∀ j z, j < k + 1 → ER[j]? = some z → z.e.fr = id → z.e.to = x → f = true) := Lib.hid (fun j z hj hz g1 g2 => by
                  by_cases e : j < k
                  · exact HF.out j z e hz g1 g2
                  · obtain rfl : j = k := by omega
                    rw [HY.out] at hz
                    injection hz with hz
                    subst hz
                    exact absurd ⟨g1, g2⟩ HNM.out)
                by_cases r1 : y.e.fr = id
                · have t1 : (y.e.fr == id) = true := by simpa using r1
                  have t2 : (y.e.to == x) = false := by simpa using fun e => hm2 ⟨r1, e⟩
                  clear hm2 r1
                  go_wp2_with fail
                  go_quiet (fail)
                  go_wp2_with fail
                  exact ⟨⟨k + 1, s, f, rfl, by simp, hkm, Lib.hid ((HI.out.below (below_drewN (Below.refl _ _) _)).more (by omega)), HFK⟩, by simp [intOf]; omega⟩
                · have t1 : (y.e.fr == id) = false := by simpa using r1
                  clear hm2 r1
                  go_wp2_with fail
                  go_quiet (fail)
                  go_wp2_with fail
                  exact ⟨⟨k + 1, s, f, rfl, by simp, hkm, Lib.hid ((HI.out.below (below_drewN (Below.refl _ _) _)).more (by omega)), HFK⟩, by simp [intOf]; omega⟩
            · have tj : decide ((k : Int) < (m : Int)) = false := decide_eq_false (by omega)
              have HFT : Hid (f = true) := Lib.hid (by
                obtain ⟨e, he, g1, g2⟩ := HEX.out
                rw [← HME.out] at he
                obtain ⟨y, hy, rfl⟩ := List.mem_map.1 he
                obtain ⟨j, hj⟩ := List.getElem?_of_mem hy
                exact HF.out j y (by have := (List.getElem?_eq_some_iff.1 hj).1; have := HM.out.1; omega) hj g1 g2)
              rw [HFT.out]
              go_wp2_with fail
              exact ⟨⟨i + 1, s, by simp, hlt, Lib.hid (HI.out.more (by omega))⟩, by simp [intOf]; omega⟩
        · have tj : decide ((i : Int) < (A.length : Int)) = false := decide_eq_false (by omega)
          go_wp2_with fail
          refine (spent_any w3 wr wb gb (some s) HI.out.wk).mono ?_
          rintro e w9 ⟨rfl, rfl⟩
          go_wp2_with fail
          go_ret
          exact ⟨rfl, HB3.out.trans (HI.out.wk.bel.mono HB3.out.size)⟩
end Go.Proofs.Ytaanohgkdpohhaa
