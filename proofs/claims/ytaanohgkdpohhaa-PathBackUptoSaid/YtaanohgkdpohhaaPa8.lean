/- Layer 19: path.Run, the walk. Conditions: each contract's own premises. -/
import Derived.Test.YtaanohgkdpohhaaPaB
import Derived.Test.YtaanohgkdpohhaaWb3
import Derived.Deep.Cut
import Derived.Deep.CutRange
namespace Go.Proofs.Ytaanohgkdpohhaa
open Go.RowKit Go.Maps

def FwRel (w0 w w1 : World) (wb gb : Nat) (q : Bq) (fr : Int) (most kf c : Nat) (d : DM) (lv ov av : Value) (wr : World) : Prop :=
  ∃ (left : Nat) (out : List Int) (at' : Int) (st : Option Nat), lv = .int .i64 (left : Int) ∧ av = .int .i64 at' ∧ FwC w0 w w1 wr wb gb (pAsk fr q.t q.lab most) st d ov out ∧ FwM q fr kf c left out at' st
set_option maxRecDepth 100000 in
set_option maxHeartbeats 8000000 in
theorem run_any (w0 w : World) (wb gb vb eb : Nat) (V : List Vt) (E : List Eg) (lab : ByteArray) (fr t : Int) (most : Nat) (st0 : Option Nat) (hG : GrC w0 gb vb eb V E) (h : WkS w0 w wb gb st0) (hE : E.length ≤ 1000000) (hV : V.length ≤ 1000000) (hm : most ≤ 64) (hf : I64 fr) (ht : I64 t) (hls : lab.size ≤ maxLen) (hlr : lab.toList = [] ∨ badS lab = false) (h0 : st0.isSome = true) :
    Calls Try.prog 60 #[.pointer (some ⟨wb, 0, none⟩), .agg #[.int .i64 fr, .int .i64 t, .string lab, .int .i64 most]] w (RunPost w0 w wb gb V E lab fr t most st0) := by
  obtain ⟨W, hW⟩ : ∃ W, W = w.alloc (.cells #[.int .i64 fr, .int .i64 t, .string lab, .int .i64 (most : Int)] 107) := ⟨_, rfl⟩
  have HWB : Hid (W.heap[w.heap.size]? = some (.cells (pAsk fr t lab most) 107 (0, 0))) := Lib.hid (by rw [hW]; exact heap_new _ _)
  have HWW : Hid (Below w.heap.size w W) := Lib.hid (by rw [hW]; exact below_box _ _)
  have HW := Lib.hid hW.symm
  have HG := Lib.hid hG
  have H0 := Lib.hid h
  have HE := Lib.hid hE
  have HV := Lib.hid hV
  have HM := Lib.hid hm
  have HF := Lib.hid hf
  have HT := Lib.hid ht
  have HLS := Lib.hid hls
  have HLR := Lib.hid hlr
  have HS0 := Lib.hid h0
  have HWBLT : Hid (wb < w.heap.size) := Lib.hid h.lt
  clear hW hG h hE hV hm hf ht hls hlr h0
  go_enter Try.func60, Try.ntmps60
  go_upto_region 3 with fail
  rw [HW.out]
  have b2 := cell_of_blk HWB.out 2
  have b3 := cell_of_blk HWB.out 3
  simp [pAsk] at b2 b3
  have t1 : decide ((most : Int) < 0) = false := by simp
  have t2 : decide (64 < (most : Int)) = false := by have := HM.out; simp; omega
  go_cut [22] from 22 to 42 (fun s22 wc => s22 = .bool false ∧ ∃ u, u = wc ∧ Hid (Below W.heap.size W u))
  case first =>
    by_cases hl : lab.toList = []
    · have t3 : lab.toList.isEmpty = true := by simp [hl]
      have HL := Lib.hid hl
      clear hl
      go_wp2_with fail
      go_meet
      exact ⟨rfl, W, rfl, Lib.hid (Below.refl _ _)⟩
    · have t3 : lab.toList.isEmpty = false := by simpa using hl
      have HR : Hid (badS lab = false) := Lib.hid (HLR.out.resolve_left hl)
      clear hl
      go_wp2_with fail
      refine (lright_one _ _ lab _ _ _ (heap_new W _) HLS.out).mono ?_
      rintro e u ⟨rfl, hu⟩
      rw [HR.out]
      have hu2 : Below W.heap.size W u := (below_box W _).trans (hu.mono (by simp))
      have b3 := cell_of_blk ((hu2.block _ (Array.getElem?_eq_some_iff.1 HWB.out).1).trans HWB.out) 3
      simp [pAsk] at b3
      have HU := Lib.hid hu2
      clear hu hu2 b2
      go_wp2_with fail
      go_meet
      exact ⟨rfl, u, rfl, HU⟩
  case rest =>
    obtain ⟨rfl, u, rfl, HU⟩ := hcut
    clear t1 t2 b2 b3
    obtain ⟨u0, hu0⟩ : ∃ u0, u0 = u := ⟨_, rfl⟩
    have HBX : Hid (u.heap[w.heap.size]? = some (.cells (pAsk fr t lab most) 107 (0, 0))) := Lib.hid ((HU.out.block _ (Array.getElem?_eq_some_iff.1 HWB.out).1).trans HWB.out)
    have HUW : Hid (Below w.heap.size w u) := Lib.hid (HWW.out.trans (HU.out.mono HWW.out.size))
    have HWU : Hid (WkS w0 u wb gb st0) := Lib.hid (H0.out.below HUW.out)
    have d0 := cell_of_blk HBX.out 0
    simp [pAsk] at d0
    clear hu0 u0
    go_wp2_with fail
    refine (wvertex_any w0 u wb gb vb eb V E st0 fr HG.out HWU.out HF.out).mono ?_
    rintro e u1 ⟨a1, c1, rfl, s1, k1⟩
    obtain ⟨y1, hy1⟩ : ∃ y, y = (if (payS st0 1).isSome then getV V fr else Vt.zero) := ⟨_, rfl⟩
    obtain ⟨f1, hf1⟩ : ∃ f, f = ((payS st0 1).isSome && (findB Vt.id V fr).isSome) := ⟨_, rfl⟩
    rw [← hy1, ← hf1]
    have HF1 := Lib.hid hf1
    have HBX1 : Hid (u1.heap[w.heap.size]? = some (.cells (pAsk fr t lab most) 107 (0, 0))) := Lib.hid ((k1.block _ (Array.getElem?_eq_some_iff.1 HBX.out).1 (fun e => by have := HWBLT.out; omega)).trans HBX.out)
    have HK1 : Hid (Chg w u1 (fun i => i = wb)) := Lib.hid ((Chg.of_below HUW.out _).trans k1 (fun _ _ e => e))
    have d1 := cell_of_blk HBX1.out 1
    have z1 : w.heap.size < u1.heap.size := (Array.getElem?_eq_some_iff.1 HBX1.out).1
    simp [pAsk] at d1
    obtain ⟨x1, hx1⟩ : ∃ x, x = Obj.cells #[.int .i64 y1.id, .string y1.label, .slice a1 y1.ps.length c1] 83 := ⟨_, rfl⟩
    have HWU1 : Hid (WkS w0 (u1.alloc x1) wb gb (payS st0 1)) := Lib.hid (s1.below (below_box u1 _))
    have HBX1b : Hid ((u1.alloc x1).heap[w.heap.size]? = some (.cells (pAsk fr t lab most) 107 (0, 0))) := Lib.hid ((Below.heap_alloc _ _ _ z1).trans HBX1.out)
    have HK1b : Hid (Chg w (u1.alloc x1) (fun i => i = wb)) := Lib.hid (HK1.out.alloc x1)
    subst hx1
    clear hy1 hf1 s1 k1 d0
    unfold Vt.val
    go_wp2_with fail
    refine (wvertex_any w0 _ wb gb vb eb V E (payS st0 1) t HG.out HWU1.out HT.out).mono ?_
    rintro e u2 ⟨a2, c2, rfl, s2, k2⟩
    rw [pay2] at s2 ⊢
    obtain ⟨y2, hy2⟩ : ∃ y, y = (if (payS st0 2).isSome then getV V t else Vt.zero) := ⟨_, rfl⟩
    obtain ⟨f2, hf2⟩ : ∃ f, f = ((payS st0 2).isSome && (findB Vt.id V t).isSome) := ⟨_, rfl⟩
    rw [← hy2, ← hf2]
    have HF2 := Lib.hid hf2
    have hbx2 := (k2.block _ (Array.getElem?_eq_some_iff.1 HBX1b.out).1 (fun e => by have := HWBLT.out; omega)).trans HBX1b.out
    obtain ⟨st2, hst2⟩ : ∃ s, s = payS st0 2 := ⟨_, rfl⟩
    rw [← hst2] at s2
    have HST2 := Lib.hid hst2
    obtain ⟨u3, hu3⟩ : ∃ u3, u3 = u2.alloc (.cells #[.int .i64 y2.id, .string y2.label, .slice a2 y2.ps.length c2] 83) := ⟨_, rfl⟩
    have HU3 := Lib.hid hu3.symm
    have HS3 : Hid (WkS w0 u3 wb gb st2) := Lib.hid (by rw [hu3]; exact s2.below (below_box u2 _))
    have HB3 : Hid (u3.heap[w.heap.size]? = some (.cells (pAsk fr t lab most) 107 (0, 0))) := Lib.hid (by rw [hu3]; exact (Below.heap_alloc _ _ _ (Array.getElem?_eq_some_iff.1 hbx2).1).trans hbx2)
    have HK3 : Hid (Chg w u3 (fun i => i = wb)) := Lib.hid (by rw [hu3]; exact ((HK1b.out.trans k2 (fun _ _ e => e)).alloc _))
    clear hy2 hf2 s2 k2 d1 hbx2 hst2 hu3 z1 HBX1 HBX1b HK1 HK1b HWU1
    unfold Vt.val
    go_upto_region 7 with fail
    rw [HU3.out]
    go_cut [67] from 57 to 67 (fun s67 wc => ∃ b u, s67 = .bool b ∧ u = wc ∧ u = u3 ∧ Hid ((b = true ∧ ¬ (HasV V fr ∧ HasV V t)) ∨ (b = false ∧ (st2 = none ∨ (HasV V fr ∧ HasV V t)))))
    case first =>
      go_wp2_with fail
      refine (spent_any w0 u3 wb gb st2 HS3.out).mono ?_
      rintro e u4 ⟨rfl, rfl⟩
      cases st2 with
      | none =>
        simp only [Option.isNone_none]
        go_wp2_with fail
        go_meet
        exact ⟨false, u3, rfl, rfl, rfl, Lib.hid (.inr ⟨rfl, .inl (by trivial)⟩)⟩
      | some s =>
        simp only [Option.isNone_some]
        have HP2 : Hid ((payS st0 2).isSome = true) := Lib.hid (by rw [← HST2.out]; rfl)
        have HP1 : Hid ((payS st0 1).isSome = true) := Lib.hid (payS_isSome (c := 1) (by rw [pay2]; exact HP2.out))
        have HQ1 : Hid (f1 = (findB Vt.id V fr).isSome) := Lib.hid (by rw [HF1.out, HP1.out, Bool.true_and])
        have HQ2 : Hid (f2 = (findB Vt.id V t).isSome) := Lib.hid (by rw [HF2.out, HP2.out, Bool.true_and])
        cases f1
        · go_wp2_with fail
          go_meet
          exact ⟨true, u3, rfl, rfl, rfl, Lib.hid (.inl ⟨rfl, fun h => find_noV HQ1.out.symm h.1⟩)⟩
        · cases f2
          · go_wp2_with fail
            go_meet
            exact ⟨true, u3, rfl, rfl, rfl, Lib.hid (.inl ⟨rfl, fun h => find_noV HQ2.out.symm h.2⟩)⟩
          · go_wp2_with fail
            go_meet
            exact ⟨false, u3, rfl, rfl, rfl, Lib.hid (.inr ⟨rfl, .inr ⟨find_hasV.1 HQ1.out.symm, find_hasV.1 HQ2.out.symm⟩⟩)⟩
    case rest =>
      obtain ⟨b, u4, rfl, rfl, rfl, HOR⟩ := hcut
      have HL3 : Hid (w.heap.size < u4.heap.size) := Lib.hid (Array.getElem?_eq_some_iff.1 HB3.out).1
      have z3 := HL3.out
      have d0 := cell_of_blk HB3.out 0
      have d1 := cell_of_blk HB3.out 1
      have d2 := cell_of_blk HB3.out 2
      have d3 := cell_of_blk HB3.out 3
      simp [pAsk] at d0 d1 d2 d3
      cases b
      case true =>
        have HN : Hid (¬ (HasV V fr ∧ HasV V t)) := Lib.hid (by
          rcases HOR.out with h | h
          · exact h.2
          · cases h.1)
        go_wp2_with fail
        go_ret2
        exact ⟨_, _, _, _, rfl, RowK.Own.nil kI _ _, HS3.out, HK3.out, .inl ⟨rfl, rfl, HN.out⟩⟩
      have HQ0 : Hid (st2 = none ∨ HasV V fr ∧ HasV V t) := Lib.hid (by
        rcases HOR.out with h | h
        · cases h.1
        · exact h.2)
      obtain ⟨q, hq⟩ : ∃ q : Bq, q = ⟨V, E, lab, t, st2, HG.out.ok, HQ0.out.imp id And.right⟩ := ⟨_, rfl⟩
      have HQ := Lib.hid hq
      have HBK : Hid (Calls Try.prog 122 #[.pointer (some ⟨wb, 0, none⟩), .agg #[.int .i64 fr, .int .i64 t, .string lab, .int .i64 (most : Int)]] u4 (BkPost w0 u4 wb gb q fr most)) := Lib.hid (by
        have := back_any w0 u4 wb gb vb eb q fr most (by rw [hq]; exact HG.out) (by rw [hq]; exact HS3.out) (by rw [hq]; exact HE.out) (by rw [hq]; exact HV.out) HM.out HF.out (by rw [hq]; exact HT.out)
        rw [hq] at this ⊢
        exact this)
      have HGQ : Hid (GrC w0 gb vb eb q.V q.E) := Lib.hid (by rw [hq]; exact HG.out)
      have HEQ : Hid (q.E.length ≤ 1000000) := Lib.hid (by rw [hq]; exact HE.out)
      clear hq HOR HF1 HF2
      go_wp2_with fail
      refine HBK.out.mono ?_
      rintro e w2 ⟨d, st, rfl, dm, wk, ck, bm⟩
      have HDM := Lib.hid dm
      have HWK := Lib.hid wk
      have HBM := Lib.hid bm
      have HCK : Hid (Chg w w2 (fun i => i = wb)) := Lib.hid (HK3.out.trans ck (fun _ _ e => e))
      have HBX2 : Hid (w2.heap[w.heap.size]? = some (.cells (pAsk fr t lab most) 107 (0, 0))) := Lib.hid ((ck.block _ HL3.out (fun e => by have := HWBLT.out; omega)).trans HB3.out)
      have hlk := dm.look HF.out
      have z4 : w.heap.size < w2.heap.size := (Array.getElem?_eq_some_iff.1 HBX2.out).1
      have HZ : Hid (u4.heap.size + 1 < w2.heap.size) := Lib.hid dm.lt
      have d0 := cell_of_blk HBX2.out 0
      simp [pAsk] at d0
      clear dm wk ck bm d1 d2 d3 z3 HBK
      cases st with
      | none =>
        have HSP : Hid (Sp st0 (2 + 2 * (V.length + E.length))) := Lib.hid (by
          have h1 := HBM.out.1 rfl
          rw [HQ.out] at h1
          exact (Sp.two (by rw [← HST2.out]; exact h1)).mono (by show 2 + (V.length + E.length) ≤ _; omega))
        have HW2 : Hid (WkS w0 (w2.alloc (.cells #[.int .i64 fr] 3)) wb gb none) := Lib.hid (HWK.out.below (below_box w2 _))
        have HC2 : Hid (Chg w (w2.alloc (.cells #[.int .i64 fr] 3)) (fun i => i = wb)) := Lib.hid (HCK.out.alloc _)
        cases hff : lookD d fr with
        | none =>
          rw [hff] at hlk
          clear hff
          go_wp2_with fail
          go_loopw [11, 13, 14] (fun lv ov av wr => lv = .int .i64 0 ∧ wr = w2.alloc (.cells #[.int .i64 fr] 3)) (fun _ _ _ _ => 0)
          case atStart => exact ⟨rfl, rfl⟩
          case round =>
            obtain ⟨rfl, rfl⟩ := hrel
            go_wp2_with fail
            refine (spent_any w0 _ wb gb none HW2.out).mono ?_
            rintro e u5 ⟨rfl, rfl⟩
            simp only [Option.isNone_none]
            go_wp2_with fail
            go_ret2
            exact ⟨_, _, _, none, rfl, RowK.Own.nil kI _ _, HW2.out, HC2.out, .inr (.inl ⟨rfl, rfl, HSP.out, HS0.out⟩)⟩
        | some kf =>
          rw [hff] at hlk
          clear hff
          go_wp2_with fail
          go_loopw [11, 13, 14] (fun lv ov av wr => lv = .int .i64 ((kf : Nat) : Int) ∧ wr = w2.alloc (.cells #[.int .i64 fr] 3)) (fun _ _ _ _ => 0)
          case atStart => exact ⟨rfl, rfl⟩
          case round =>
            obtain ⟨rfl, rfl⟩ := hrel
            by_cases hk : 0 < kf
            · have t4 : decide (0 < (kf : Int)) = true := by simp; omega
              have t5 : decide (0 < kf) = true := decide_eq_true hk
              go_wp2_with fail
              refine (spent_any w0 _ wb gb none HW2.out).mono ?_
              rintro e u5 ⟨rfl, rfl⟩
              simp only [Option.isNone_none]
              go_wp2_with fail
              refine (spent_any w0 _ wb gb none HW2.out).mono ?_
              rintro e u5 ⟨rfl, rfl⟩
              simp only [Option.isNone_none]
              go_wp2_with fail
              go_ret2
              exact ⟨_, _, _, none, rfl, RowK.Own.nil kI _ _, HW2.out, HC2.out, .inr (.inl ⟨rfl, rfl, HSP.out, HS0.out⟩)⟩
            · have t4 : decide (0 < (kf : Int)) = false := by simp; omega
              have t5 : decide (0 < kf) = false := decide_eq_false hk
              go_wp2_with fail
              refine (spent_any w0 _ wb gb none HW2.out).mono ?_
              rintro e u5 ⟨rfl, rfl⟩
              simp only [Option.isNone_none]
              go_wp2_with fail
              go_ret2
              exact ⟨_, _, _, none, rfl, RowK.Own.nil kI _ _, HW2.out, HC2.out, .inr (.inl ⟨rfl, rfl, HSP.out, HS0.out⟩)⟩
      | some s =>
        obtain ⟨c, hc1, hc2, m, hm1, hwh, hno⟩ := HBM.out.2 rfl
        have HHV : Hid (HasV V fr ∧ HasV V t) := Lib.hid (HQ0.out.resolve_left (fun e => by rw [HQ.out] at hc1; simp only [e, payS] at hc1; cases hc1))
        have HC1 := Lib.hid hc1
        have HC2 := Lib.hid hc2
        have HWH := Lib.hid hwh
        have HNO := Lib.hid hno
        have HM1 := Lib.hid hm1
        have HW2 : Hid (WkS w0 (w2.alloc (.cells #[.int .i64 fr] 3)) wb gb (some s)) := Lib.hid (HWK.out.below (below_box w2 _))
        have HCH2 : Hid (Chg w (w2.alloc (.cells #[.int .i64 fr] 3)) (fun i => i = wb)) := Lib.hid (HCK.out.alloc _)
        clear hc1 hc2 hwh hno hm1
        cases hff : lookD d fr with
        | none =>
          rw [hff] at hlk
          have HFF := Lib.hid (lookD_none.1 hff)
          clear hff
          go_wp2_with fail
          go_loopw [11, 13, 14] (fun lv ov av wr => lv = .int .i64 0 ∧ wr = w2.alloc (.cells #[.int .i64 fr] 3)) (fun _ _ _ _ => 0)
          case atStart => exact ⟨rfl, rfl⟩
          case round =>
            obtain ⟨rfl, rfl⟩ := hrel
            go_wp2_with fail
            refine (spent_any w0 _ wb gb (some s) HW2.out).mono ?_
            rintro e u5 ⟨rfl, rfl⟩
            simp only [Option.isNone_some]
            go_wp2_with fail
            go_ret2
            have h9 := HNO.out HFF.out
            rw [HQ.out] at h9
            exact ⟨_, _, _, some s, rfl, RowK.Own.nil kI _ _, HW2.out, HCH2.out, .inr (.inr (.inl ⟨rfl, rfl, HHV.out.1, HHV.out.2, h9⟩))⟩
        | some kf =>
          rw [hff] at hlk
          have HKF : Hid (kf ≤ m ∧ Dist (edB q.E q.lab) kf fr q.t) := Lib.hid ((HWH.out.all fr kf).1 hff)
          clear hff
          go_wp2_with fail
          go_loopw [11, 13, 14] (fun lv ov av wr => FwRel w0 w u4 wb gb q fr most kf c d lv ov av wr) (fun lv _ _ _ => (intOf lv).toNat)
          case atStart =>
            refine ⟨kf, [fr], fr, some s, rfl, rfl, ⟨HW2.out, HDM.out.of_block (Below.heap_alloc _ _ _ HZ.out), HCH2.out, ?_, HWBLT.out, HL3.out, ?_⟩, FwM.start rfl HC1.out HKF.out.2⟩
            · rw [HQ.out]
              exact (Below.heap_alloc _ _ _ (Array.getElem?_eq_some_iff.1 HBX2.out).1).trans HBX2.out
            · exact RowK.Own.new (k := kI) (l := [fr]) (heap_new w2 _) HZ.out rfl (by show 1 ≤ maxLen; decide)
          case round =>
            obtain ⟨left, out, at', st, rfl, rfl, hI, hM⟩ := hrel
            have hlk2 : left + out.length = kf + 1 := hM.1
            have hkb : kf ≤ 64 := by have h1 := HKF.out.1; have h2 := HM1.out; have h3 := HM.out; omega
            have HOL : Hid (out.length ≤ 65 ∧ left ≤ 65) := Lib.hid ⟨by omega, by omega⟩
            have hz9 := hI.size
            obtain ⟨p0, p1, p2, p3⟩ := hI.cells
            obtain ⟨oa, oc, rfl⟩ := hI.oo.shape
            have hbl : w.heap.size < wr.heap.size := (Array.getElem?_eq_some_iff.1 hI.box).1
            have HI := Lib.hid hI
            have HFM := Lib.hid hM
            clear hI hM hlk2 hkb
            by_cases hk : 0 < left
            · have t4 : decide (0 < (left : Int)) = true := by simp; omega
              have t5 : decide (0 < left) = true := decide_eq_true hk
              go_wp2_with fail
              refine (spent_any w0 wr wb gb st HI.out.wk).mono ?_
              rintro e w3 ⟨rfl, rfl⟩
              cases st with
              | none =>
                simp only [Option.isNone_none]
                go_wp2_with fail
                refine (spent_any w0 wr wb gb none HI.out.wk).mono ?_
                rintro e w3 ⟨rfl, rfl⟩
                simp only [Option.isNone_none]
                go_wp2_with fail
                go_ret2
                have h9 := HFM.out.2.1 rfl
                rw [HQ.out] at h9
                exact ⟨_, _, _, none, rfl, RowK.Own.nil kI _ _, HI.out.wk, HI.out.chg, .inr (.inl ⟨rfl, rfl, Sp.two (by rw [← HST2.out]; exact h9), HS0.out⟩)⟩
              | some r =>
                simp only [Option.isNone_some]
                obtain ⟨n, hn⟩ : ∃ n, n = left - 1 := ⟨_, rfl⟩
                have HN : Hid (left = n + 1) := Lib.hid (by omega)
                clear hn
                go_wp2_with fail
                refine (wnext_any w0 wr wb gb vb eb q.V q.E (some r) at' true q.lab HGQ.out HI.out.wk HEQ.out).mono ?_
                rintro e w3 ⟨lv, rfl, o3, s3, k3⟩
                obtain ⟨la, lcap, rfl⟩ := o3.shape
                obtain ⟨st', hst'⟩ : ∃ s, s = payS (some r) (1 + (idsE q.E (sideP true at')).length) := ⟨_, rfl⟩
                rw [← hst'] at o3 s3 ⊢
                obtain ⟨L, hL⟩ : ∃ L : List Int, L = if st'.isSome then nextL q.E true q.lab at' else [] := ⟨_, rfl⟩
                rw [← hL] at o3 ⊢
                have HI3 := Lib.hid (HI.out.call s3 k3)
                have HO3 := Lib.hid o3
                have HLL : Hid (L.length ≤ 1000000) := Lib.hid (by
                  have h1 := hL
                  split at h1
                  · rw [h1]; exact Nat.le_trans (next_len _ _ _ _) HEQ.out
                  · rw [h1]; exact Nat.zero_le _)
                have HL := Lib.hid hL
                have HST := Lib.hid hst'
                have hz10 := HI3.out.size
                clear o3 s3 k3 hL hst' hz9 p0 p1 p2 p3
                go_wp2_with fail
                obtain ⟨wo, rfl⟩ : ∃ wo : World, wo = w3 := ⟨_, rfl⟩
                go_loopw [14, 101] (fun av jv wr => ∃ j : Nat, jv = .int .i64 (j : Int) ∧ av = .int .i64 at' ∧ wr = wo ∧ j ≤ L.length ∧ Hid (∀ i, i < j → ∀ z, L[i]? = some z → ¬ lookD d z = some n)) (fun _ jv _ => L.length - (intOf jv).toNat)
                case atStart => exact ⟨0, rfl, rfl, rfl, Nat.zero_le _, Lib.hid (fun _ h => absurd h (Nat.not_lt_zero _))⟩
                case round =>
                  obtain ⟨j, rfl, rfl, rfl, hj, HNO2⟩ := hrel
                  have hll := HLL.out
                  have hs1 : (left : Int) - 1 = (n : Int) := by have := HN.out; omega
                  have hle := HOL.out.2
                  by_cases hlj : j < L.length
                  · obtain ⟨x, hx⟩ : ∃ x, L[j]? = some x := ⟨_, List.getElem?_eq_getElem hlj⟩
                    have HLN : Hid (L ≠ []) := Lib.hid (fun e => by rw [e] at hlj; simp at hlj)
                    obtain ⟨lb2, lc2, hsl, hlb, _, hat⟩ := HO3.out.at' HLN.out
                    injection hsl with e1 e2 e3
                    subst e1 e3
                    have q0 := hat.cells j x hx 0 _ rfl
                    have e4 : 0 + j * kI.size + 0 = j := by show 0 + j * 1 + 0 = j; omega
                    rw [e4] at q0
                    have hlbl := hat.lt
                    have HX := Lib.hid hx
                    have HSS : Hid (st'.isSome = true ∧ L = nextL q.E true q.lab at') := Lib.hid (by
                      have h1 := HL.out
                      split at h1
                      · rename_i h2; exact ⟨h2, h1⟩
                      · exact absurd h1 HLN.out)
                    have HXI : Hid (I64 x) := Lib.hid (by
                      have h1 := List.mem_of_getElem? hx
                      rw [HSS.out.2, mem_next HGQ.out.ok.se] at h1
                      obtain ⟨ed, he, _, e2, _⟩ : edB q.E q.lab at' x := by simpa using h1
                      exact e2 ▸ checkR_ids (HGQ.out.ok.e ed he) (by simp))
                    have hlk3 := HI3.out.dm.look HXI.out
                    clear hat hx hlb e4 e2
                    cases hff : lookD d x with
                    | none =>
                      rw [hff] at hlk3
                      have HFF := Lib.hid hff
                      clear hff
                      as_aux_lemma =>
                        go_wp2_with fail
                        refine ⟨⟨j + 1, by simp, by first | rfl | trivial, by first | rfl | trivial, hlj, Lib.hid (fun i hi z hz => ?_)⟩, by simp [intOf]; omega⟩
                        by_cases e : i < j
                        · exact HNO2.out i e z hz
                        · obtain rfl : i = j := by omega
                          rw [HX.out] at hz
                          injection hz with hz
                          subst hz
                          rw [HFF.out]
                          exact fun e => by cases e
                    | some k =>
                      rw [hff] at hlk3
                      have HFF := Lib.hid hff
                      clear hff
                      by_cases hkn : k = n
                      · subst hkn
                        as_aux_lemma =>
                          have HCA := Lib.hid (HI3.out.alloc (.cells #[.int .i64 x] 3))
                          have HXV := Lib.hid (int_new wr wr.heap.size rfl x)
                          go_wp2_with (first | (at_builtin; refine RowK.wpList_app (k := kI) rfl (.tmp 120) (.tmp 122) rfl rfl HCA.out.oo (some ⟨wr.heap.size, 0, none⟩) 1 [x] 1 rfl rfl HXV.out (fun e => by cases e) (by have := HOL.out; simp; omega) (by have := HI3.out.size; simp; omega) ?_; intro v8 w8 hA; have HA8 := Lib.hid hA; clear hA) | fail)
                          obtain ⟨oA, gA, kA⟩ := HA8.out
                          have hF := HFM.out
                          rw [HN.out] at hF
                          refine ⟨⟨k, out ++ [x], x, st', by simp, by first | rfl | trivial, HCA.out.app oA gA, ?_⟩, by have := HN.out; simp [intOf]; omega⟩
                          rw [HST.out]
                          refine hF.go HWH.out (by rw [← HST.out]; exact HSS.out.1) HKF.out.1 (j := j) (by rw [← HSS.out.2]; exact HX.out) HFF.out (fun i hi z hz => ?_)
                          exact HNO2.out i hi z (by rw [HSS.out.2]; exact hz)
                      · have t7 : ((k : Int) == (n : Int)) = false := by simp; omega
                        have t8 : decide ((k : Int) = (n : Int)) = false := by simp; omega
                        have t9 : (k == n) = false := by simp; omega
                        have HKN := Lib.hid hkn
                        as_aux_lemma =>
                          go_wp2_with fail
                          refine ⟨⟨j + 1, by simp, by first | rfl | trivial, by first | rfl | trivial, hlj, Lib.hid (fun i hi z hz => ?_)⟩, by simp [intOf]; omega⟩
                          by_cases e : i < j
                          · exact HNO2.out i e z hz
                          · obtain rfl : i = j := by omega
                            rw [HX.out] at hz
                            injection hz with hz
                            subst hz
                            rw [HFF.out]
                            exact fun e => HKN.out (by injection e)
                  · obtain rfl : j = L.length := by omega
                    cases st' with
                    | some r' =>
                      exfalso
                      have hF := HFM.out
                      rw [HN.out] at hF
                      obtain ⟨y, hy, hyn⟩ := hF.hit HWH.out HKF.out.1 rfl
                      have h1 := HL.out
                      simp only [Option.isSome_some, if_true] at h1
                      rw [← h1] at hy
                      obtain ⟨i, hi, e⟩ := List.getElem_of_mem hy
                      exact HNO2.out i hi y (by rw [List.getElem?_eq_getElem hi, e]) hyn
                    | none =>
                      as_aux_lemma =>
                        have HCA := Lib.hid (HI3.out.alloc (.cells #[.int .i64 at'] 3))
                        have HXV := Lib.hid (int_new wr wr.heap.size rfl at')
                        go_wp2_with (first | (at_builtin; refine RowK.wpList_app (k := kI) rfl (.tmp 120) (.tmp 122) rfl rfl HCA.out.oo (some ⟨wr.heap.size, 0, none⟩) 1 [at'] 1 rfl rfl HXV.out (fun e => by cases e) (by have := HOL.out; simp; omega) (by have := HI3.out.size; simp; omega) ?_; intro v8 w8 hA; have HA8 := Lib.hid hA; clear hA) | fail)
                        obtain ⟨oA, gA, kA⟩ := HA8.out
                        have hF := HFM.out
                        rw [HN.out] at hF
                        exact ⟨⟨n, out ++ [at'], at', none, by simp, by first | rfl | trivial, HCA.out.app oA gA, hF.spent rfl HC2.out HST.out.symm at'⟩, by have := HN.out; simp [intOf]; omega⟩
            · have t4 : decide (0 < (left : Int)) = false := by simp; omega
              have t5 : decide (0 < left) = false := decide_eq_false hk
              go_wp2_with fail
              refine (spent_any w0 wr wb gb st HI.out.wk).mono ?_
              rintro e w3 ⟨rfl, rfl⟩
              obtain rfl : left = 0 := by omega
              cases st with
              | none =>
                simp only [Option.isNone_none]
                go_wp2_with fail
                go_ret2
                have h9 := HFM.out.2.1 rfl
                rw [HQ.out] at h9
                exact ⟨_, _, _, none, rfl, RowK.Own.nil kI _ _, HI.out.wk, HI.out.chg, .inr (.inl ⟨rfl, rfl, Sp.two (by rw [← HST2.out]; exact h9), HS0.out⟩)⟩
              | some r =>
                simp only [Option.isNone_some]
                go_wp2_with fail
                go_ret2
                obtain ⟨vis, h8, h9, _⟩ := HFM.out.2.2 rfl
                have h10 := h9.end'
                rw [← h8] at h10
                have h11 := HKF.out.2
                rw [HQ.out] at h10 h11
                exact ⟨_, _, _, some r, rfl, HI.out.oo.mono (by have := HL3.out; omega), HI.out.wk, HI.out.chg, .inr (.inr (.inr ⟨rfl, HHV.out.1, HHV.out.2, kf, Nat.le_trans HKF.out.1 HM1.out, h11, h10⟩))⟩
end Go.Proofs.Ytaanohgkdpohhaa
