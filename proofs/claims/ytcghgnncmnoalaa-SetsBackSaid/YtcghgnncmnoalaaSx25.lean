/- SetsBack: the walk. Conditions: each contract's own premises. -/
import Derived.Test.YtcghgnncmnoalaaSx24
namespace Go.Proofs.Ytcghgnncmnoalaa
open Go.RowKit Go.Maps

set_option maxRecDepth 100000 in
set_option maxHeartbeats 16000000 in
theorem sback_any (aa1 aa2 : Option Addr) (ac1 ac2 : Nat) (l1 l2 : List Ac13) (w : World) (h1 : AcV w aa1 l1) (h2 : AcV w aa2 l2) :
    Calls Try.prog 9 #[.slice aa1 l1.length ac1, .slice aa2 l2.length ac2] w (BoolPost w true) := by
  have HL1 := Lib.hid h1
  have HL2 := Lib.hid h2
  obtain ⟨n1, hn1⟩ : ∃ n, n = l1.length := ⟨_, rfl⟩
  obtain ⟨n2, hn2⟩ : ∃ n, n = l2.length := ⟨_, rfl⟩
  rw [← hn1, ← hn2]
  have HN1 := Lib.hid hn1
  have HN2 := Lib.hid hn2
  clear h1 h2 hn1 hn2
  go_enter Try.func9, Try.ntmps9
  go_wp2_with fail
  refine (awake13_any _).mono ?_
  rintro e w1 ⟨rfl, b1⟩
  have HB1 := Lib.hid b1
  clear b1
  by_cases hb1 : 40 < n1
  · have t1 : decide ((40 : Int) < (n1 : Int)) = true := decide_eq_true (by omega)
    go_wp2_with fail
    refine (awake13_any _).mono ?_
    rintro e w2 ⟨rfl, b2⟩
    have HB2 := Lib.hid b2
    clear b2
    go_wp2_with fail
    go_ret
    exact ⟨rfl, below_then HB1.out HB2.out⟩
  have t1 : decide ((40 : Int) < (n1 : Int)) = false := decide_eq_false (by omega)
  by_cases hb2 : 40 < n2
  · have t2 : decide ((40 : Int) < (n2 : Int)) = true := decide_eq_true (by omega)
    go_wp2_with fail
    refine (awake13_any _).mono ?_
    rintro e w2 ⟨rfl, b2⟩
    have HB2 := Lib.hid b2
    clear b2
    go_wp2_with fail
    go_ret
    exact ⟨rfl, below_then HB1.out HB2.out⟩
  have t2 : decide ((40 : Int) < (n2 : Int)) = false := decide_eq_false (by omega)
  go_wp2_with fail
  refine (sxNew_any _).mono ?_
  rintro e w2 ⟨sb, bs, bw, bm, rfl, g0, g1, g2, g3, s2, b2⟩
  obtain ⟨V, hV⟩ : ∃ V, w2.alloc (.cells #[.slice none 0 0] 60) = V := ⟨_, rfl⟩
  obtain ⟨rb, hrb⟩ : ∃ x, x = w2.heap.size := ⟨_, rfl⟩
  have bV : Below w2.heap.size w2 V := by rw [← hV]; exact below_box _ _
  have eV : V.heap[rb]? = some (.cells #[.slice none 0 0] 60) := by rw [← hV, hrb]; exact heap_new _ _
  have hM : MA w1 V sb bs bw bm 0 0 0 (fun _ => none) (fun _ => none) (fun _ => none) rb [] := ⟨⟨s2.below bV, below_then b2 bV, g0, g1, g2, g3⟩, ⟨⟨none, 0, eV, RowK.Own.nil kX V _, fun e => by cases e⟩, Nat.zero_le _⟩, by rw [hrb]; exact b2.size⟩
  have HJ0 : Hid (JB1 w1 V sb rb 0) := Lib.hid ⟨⟨_, _, _, _, _, _, _, _, hM, PX.start, fun x hx => by simp at hx, by omega, by omega, by simp, (fun k h => by cases h), (fun k t h => by cases h)⟩⟩
  have HV := Lib.hid (And.intro hV hrb)
  clear s2 b2 bV eV hM hV hrb g0 g1 g2 g3 t1 t2
  go_upto_region 4 with fail
  rw [HV.out.1, ← HV.out.2]
  clear HV
  go_wp2_with fail
  go_loopw [7] (fun vi wr => ∃ i : Nat, i ≤ n1 ∧ vi = .int .i64 i ∧ Hid (JB1 w1 wr sb rb i)) (fun vi _ => n1 - (intOf vi).toNat)
  case atStart => exact ⟨0, Nat.zero_le _, rfl, HJ0⟩
  case round =>
    obtain ⟨i, hi, rfl, HI⟩ := hrel
    by_cases hlt : i < n1
    · have hltz : (i : Int) < (n1 : Int) := by omega
      obtain ⟨a, ha⟩ : ∃ x, l1[i]? = some x := ⟨_, List.getElem?_eq_getElem (by have := HN1.out; omega)⟩
      obtain ⟨b, off, rfl, hbl, hbc⟩ := HL1.out (fun e => by rw [e] at ha; simp at ha)
      have HOK1 : Hid (AcOk w1 a) := Lib.hid ((hbc i a ha).1.below HB1.out)
      have HRG : Hid (∀ u, Below w1.heap.size w1 u → u.rangeAt b (off + i * 9) a.cells) := Lib.hid (fun u hu j v hv => ((below_then HB1.out hu).cell (p := ⟨b, off + i * 9 + j, none⟩) hbl).trans ((hbc i a ha).2 j v hv))
      obtain ⟨bs, bw, bm, ns, nw, gs, gw, L, hM, hX, hO, q1, q2, q3, q4, q5⟩ := HI.out.ex
      have HM0 := Lib.hid hM
      have HX := Lib.hid hX
      have HO := Lib.hid hO
      have HCN : Hid (i < 40 ∧ ns ≤ i ∧ nw ≤ i ∧ L.length ≤ i) := Lib.hid ⟨by omega, q1, q2, q3⟩
      have HGW := Lib.hid (And.intro q4 q5)
      clear ha hbl hbc hM hX hO q1 q2 q3 q4 q5 HI
      go_wp2_with (refine wpList_load_mid (op := ⟨some 40, _, _, _, _, _⟩) rfl 67 (.tmp 39) rfl b (off + i * 9) rfl a.cells _ (HRG.out _ HM0.out.p.b) Try.underlying67 rfl (sizeAct a) ?_)
      refine (small13_any a _).mono ?_
      rintro e A1 ⟨rfl, bA⟩
      have HM1 := Lib.hid (HM0.out.below bA)
      obtain ⟨sm, hsm⟩ : ∃ q, a.small = q := ⟨_, rfl⟩
      rw [hsm]
      have HSM := Lib.hid hsm
      clear bA hsm
      cases sm
      case false =>
        go_wp2_with fail
        go_ret
        exact ⟨rfl, below_then HB1.out HM1.out.p.b⟩
      case true =>
        have HSP := Lib.hid (small_parts HSM.out)
        obtain ⟨c, gs', L', hB⟩ := see_bothP w1.heap.size sb bs bw bm nw 0 rb gw (fun _ => none) HX.out HO.out (by have := HCN.out; omega) HOK1.out.k a.v
        have HSB := Lib.hid hB
        clear hB
        have r1 := (HRG.out _ HM1.out.p.b) 1 _ rfl
        have r2 := (HRG.out _ HM1.out.p.b) 2 _ rfl
        have r3 := (HRG.out _ HM1.out.p.b) 3 _ rfl
        have r4 := (HRG.out _ HM1.out.p.b) 4 _ rfl
        have r5 := (HRG.out _ HM1.out.p.b) 5 _ rfl
        have r6 := (HRG.out _ HM1.out.p.b) 6 _ rfl
        have r7 := (HRG.out _ HM1.out.p.b) 7 _ rfl
        go_upto_region 9 with fail
        refine wp_region_still_tail 11 (by kernel_rfl) (by kernel_rfl) ?_
        change wpStill _ _ (World.drew _) (fun a' => wpList _ _ _ _ a' (World.drew _)) _ _
        simp only [List.take_succ_cons, List.take_zero, List.drop_succ_cons, List.drop_zero]
        repeat still_step
        refine wpStill_nil ?_
        clear r1 r2 r3 r4 r5 r6 r7
        have HM2 := Lib.hid HM1.out.drew
        go_wp2_with fail
        refine (HSB.out.p _ _ HM2.out.p.p (by have := HCN.out; omega)).mono ?_
        rintro e A2 ⟨rfl, ns2, hns2, s', c'⟩
        have hq := HM2.out.prog s' c' (fun j hj => .inr (.inl hj)) HM2.out.p.g2 HM2.out.p.g3
        have HM3 := Lib.hid hq.1
        have HNS := Lib.hid hns2
        clear hq s' c' hns2
        have r1 := (HRG.out _ HM3.out.p.b) 1 _ rfl
        have r2 := (HRG.out _ HM3.out.p.b) 2 _ rfl
        have r3 := (HRG.out _ HM3.out.p.b) 3 _ rfl
        have r4 := (HRG.out _ HM3.out.p.b) 4 _ rfl
        have r5 := (HRG.out _ HM3.out.p.b) 5 _ rfl
        have r6 := (HRG.out _ HM3.out.p.b) 6 _ rfl
        have r7 := (HRG.out _ HM3.out.p.b) 7 _ rfl
        go_upto_region 10 with fail
        refine wp_region_still_tail 11 (by kernel_rfl) (by kernel_rfl) ?_
        change wpStill _ _ (World.drew _) (fun a' => wpList _ _ _ _ a' (World.drew _)) _ _
        simp only [List.take_succ_cons, List.take_zero, List.drop_succ_cons, List.drop_zero]
        repeat still_step
        refine wpStill_nil ?_
        clear r1 r2 r3 r4 r5 r6 r7
        have HM4 := Lib.hid HM3.out.drew
        go_wp2_with fail
        refine (HSB.out.r _ HM4.out.r HM4.out.p.b.size).mono ?_
        rintro e A3 ⟨rfl, s', c'⟩
        have hq := HM4.out.ref s' c' (fun j hj => .inl hj)
        have HM5 := Lib.hid hq.1
        clear hq s' c'
        obtain ⟨q, hq⟩ : ∃ q, (a.kd.tmod 2 == 0) = q := ⟨_, rfl⟩
        have r0 := (HRG.out _ HM5.out.p.b) 0 _ rfl
        have r1 := (HRG.out _ HM5.out.p.b) 1 _ rfl
        have r2 := (HRG.out _ HM5.out.p.b) 2 _ rfl
        have r3 := (HRG.out _ HM5.out.p.b) 3 _ rfl
        have r4 := (HRG.out _ HM5.out.p.b) 4 _ rfl
        have r6 := (HRG.out _ HM5.out.p.b) 6 _ rfl
        rw [Nat.add_zero] at r0
        cases q
        · clear r1 r2 r3 r4 r6
          go_wp2_with fail
          exact ⟨⟨i + 1, by omega, by go_num, Lib.hid ⟨⟨bs, bw, bm, ns2, nw, gs', gw, L', HM5.out, HSB.out.x, HSB.out.o, by have := HCN.out; have := HNS.out; omega, by have := HCN.out; omega, by have := HCN.out; have := HSB.out.n; omega, some_see HGW.out.1 HSB.out.e, HGW.out.2⟩⟩⟩, by simp [intOf]; omega⟩
        · go_upto_region 12 with fail
          clear hq r0
          refine wp_region_still_tail 12 (by kernel_rfl) (by kernel_rfl) ?_
          change wpStill _ _ (World.drew _) (fun a' => wpList _ _ _ _ a' (World.drew _)) _ _
          simp only [List.take_succ_cons, List.take_zero, List.drop_succ_cons, List.drop_zero]
          repeat still_step
          refine wpStill_nil ?_
          clear r1 r2 r3 r4 r6
          have HM6 := Lib.hid HM5.out.drew
          go_wp2_with fail
          refine (putQ_any HM6.out.p.p (by have := HCN.out; omega) HOK1.out.k a.v.val).mono ?_
          rintro e A4 ⟨c4, nw4, gw4, rfl, hn4, s', c', hgw⟩
          have hq := HM6.out.prog s' c' (fun j hj => .inr (.inr (.inl hj))) HM6.out.p.g2 HM6.out.p.g3
          have HM7 := Lib.hid hq.1
          have HG4 := Lib.hid hgw
          have HN4 := Lib.hid hn4
          clear hq s' c' hgw hn4
          go_wp2_with fail
          exact ⟨⟨i + 1, by omega, by go_num, Lib.hid ⟨⟨bs, bw, bm, ns2, nw4, gs', gw4, L', HM7.out, HSB.out.x, HSB.out.o, by have := HCN.out; have := HNS.out; omega, by have := HCN.out; have := HN4.out; omega, by have := HCN.out; have := HSB.out.n; omega, some_put (some_see HGW.out.1 HSB.out.e) HG4.out, size_put HGW.out.2 (by have := HSP.out.2; show a.v.val.size ≤ 1000; omega) HG4.out⟩⟩⟩, by simp [intOf]; omega⟩
    · obtain rfl : i = n1 := by omega
      obtain ⟨bs, bw, bm, ns, nw, gsM, gM, L, hM, hX, hO, q1, q2, q3, q4, q5⟩ := HI.out.ex
      have HM0 := Lib.hid hM
      have HX0 := Lib.hid hX
      have HO0 := Lib.hid hO
      have HCN0 : Hid (ns ≤ 40 ∧ nw ≤ 40 ∧ L.length ≤ 40) := Lib.hid ⟨by omega, by omega, by omega⟩
      have HGM := Lib.hid q4
      have HSZ := Lib.hid q5
      clear hM hX hO q1 q2 q3 q4 q5 HI
      go_wp2_with fail
      refine (sxMark_any HM0.out.p.p).mono ?_
      rintro e w3 ⟨rfl, s', c'⟩
      have hq := HM0.out.prog s' c' (fun j hj => .inl hj) HM0.out.p.g2 HM0.out.p.b.size
      obtain ⟨bm3, hbm3⟩ : ∃ x, x = wr.heap.size := ⟨_, rfl⟩
      rw [← hbm3] at hq
      have HM1 := Lib.hid hq.1
      clear hq s' c' hbm3
      go_wp2_with fail
      refine (sxWrites_any HM1.out.p.p (by have := HCN0.out; omega)).mono ?_
      rintro e w4 ⟨v4, ksM, rfl, hkM, o4, b4⟩
      obtain ⟨wa, wcp, hws⟩ := o4.shape
      obtain ⟨wn, hwn⟩ : ∃ wn, wn = (wrOut gsM gM ksM).length := ⟨_, rfl⟩
      rw [← hwn] at hws
      subst hws
      have HKM := Lib.hid hkM
      have HWN := Lib.hid hwn
      have HWL : Hid (wn ≤ 1000000) := Lib.hid (by have := wrOut_len gsM gM ksM; have := hkM.2.2.1; have := HCN0.out; omega)
      have HJB : Hid (JB2 w1 w4 sb rb bm3 0 nw gsM gM (.slice wa wn wcp) (wrOut gsM gM ksM)) := Lib.hid ⟨⟨bs, bw, ns, nw, gsM, gM, L, HM1.out.below b4, HX0.out, HO0.out, by have := HCN0.out; omega, by have := HCN0.out; omega, by have := HCN0.out; omega, fun _ _ => rfl⟩, o4.mono HM1.out.p.b.size⟩
      have HNM : Hid (nw ≤ 40) := Lib.hid HCN0.out.2.1
      clear hkM o4 b4 hwn HM0 HM1
      obtain ⟨nm, hnm⟩ : ∃ x, x = nw := ⟨_, rfl⟩
      rw [← hnm] at HJB HKM HNM
      obtain ⟨bm, hbm⟩ : ∃ x, x = bm3 := ⟨_, rfl⟩
      rw [← hbm] at HJB
      clear hnm hbm
      go_wp2_with fail
      go_loopw [9] (fun vi wq => ∃ i : Nat, i ≤ n2 ∧ vi = .int .i64 i ∧ Hid (JB2 w1 wq sb rb bm i nm gsM gM (.slice wa wn wcp) (wrOut gsM gM ksM))) (fun vi _ => n2 - (intOf vi).toNat)
      case atStart => exact ⟨0, Nat.zero_le _, rfl, HJB⟩
      case round =>
        obtain ⟨i, hi, rfl, HI⟩ := hrel
        by_cases hlt2 : i < n2
        · have hltz : (i : Int) < (n2 : Int) := by omega
          obtain ⟨a, ha⟩ : ∃ x, l2[i]? = some x := ⟨_, List.getElem?_eq_getElem (by have := HN2.out; omega)⟩
          obtain ⟨b, off, rfl, hbl, hbc⟩ := HL2.out (fun e => by rw [e] at ha; simp at ha)
          have HOK1 : Hid (AcOk w1 a) := Lib.hid ((hbc i a ha).1.below HB1.out)
          have HRG : Hid (∀ u, Below w1.heap.size w1 u → u.rangeAt b (off + i * 9) a.cells) := Lib.hid (fun u hu j v hv => ((below_then HB1.out hu).cell (p := ⟨b, off + i * 9 + j, none⟩) hbl).trans ((hbc i a ha).2 j v hv))
          obtain ⟨bs, bw, ns, nw, gs, gw, L, hM, hX, hO, q1, q2, q3, q4⟩ := HI.out.ex
          have HM0 := Lib.hid hM
          have HX := Lib.hid hX
          have HO := Lib.hid hO
          have HCN : Hid (i < 40 ∧ ns ≤ 100 + i ∧ nw ≤ 100 + i ∧ L.length ≤ 100 + i) := Lib.hid ⟨by omega, q1, q2, q3⟩
          have HGW := Lib.hid q4
          have HWO := Lib.hid HI.out.o
          obtain ⟨ab, hab⟩ : ∃ y, y = wr.heap.size := ⟨_, rfl⟩
          have HXB := Lib.hid hab
          clear ha hbl hbc hM hX hO q1 q2 q3 q4 HI hab
          go_upto_region 19 with (first | (refine wpList_load_mid (op := ⟨some 100, _, _, _, _, _⟩) rfl 67 (.tmp 99) rfl b (off + i * 9) rfl a.cells _ (HRG.out _ HM0.out.p.b) Try.underlying67 rfl (sizeAct a) ?_) | (rw [← HXB.out]; refine wpList_store_new (op := ⟨none, _, _, _, _, _⟩) rfl 67 (.tmp 10) (.tmp 100) rfl _ a.cells.toArray ab HXB.out rfl rfl (sizeAct2 a) rfl (oneAct a) ?_))
          obtain ⟨A0, hA0⟩ : ∃ V, wr.alloc (.cells a.cells.toArray 67) = V := ⟨_, rfl⟩
          have bA : Below wr.heap.size wr A0 := by rw [← hA0]; exact below_box _ _
          have HAB0 : Hid (A0.heap[ab]? = some (.cells a.cells.toArray 67)) := Lib.hid (by rw [← hA0, HXB.out]; exact heap_new _ _)
          have HMA := Lib.hid (HM0.out.below bA)
          have HWA := Lib.hid (own_keepT HWO.out (keepT_below bA))
          rw [hA0]
          clear bA hA0 HRG
          go_wp2_with (refine wpList_load_mid (op := ⟨some 101, _, _, _, _, _⟩) rfl 67 (.tmp 10) rfl ab 0 rfl a.cells _ (actRange HAB0.out) Try.underlying67 rfl (sizeAct a) ?_)
          refine (small13_any a _).mono ?_
          rintro e A1 ⟨rfl, bA⟩
          have HM1 := Lib.hid (HMA.out.below bA)
          have HAB1 : Hid (A1.heap[ab]? = some (.cells a.cells.toArray 67)) := Lib.hid ((bA.block _ (Array.getElem?_eq_some_iff.1 HAB0.out).1).trans HAB0.out)
          have HW1 := Lib.hid (own_keepT HWA.out (keepT_below bA))
          obtain ⟨sm, hsm⟩ : ∃ q, a.small = q := ⟨_, rfl⟩
          rw [hsm]
          have HSM := Lib.hid hsm
          clear bA hsm HAB0 HMA HWA HM0 HWO
          cases sm
          case false =>
            go_wp2_with fail
            go_ret
            exact ⟨rfl, below_then HB1.out HM1.out.p.b⟩
          case true =>
            have HSP := Lib.hid (small_parts HSM.out)
            obtain ⟨m3, hm3⟩ : ∃ m, a.kd.tmod 3 = m := ⟨_, rfl⟩
            have r0 := cell_of_blk HAB1.out 0
            have r1 := cell_of_blk HAB1.out 1
            have r2 := cell_of_blk HAB1.out 2
            have r3 := cell_of_blk HAB1.out 3
            have r4 := cell_of_blk HAB1.out 4
            have r5 := cell_of_blk HAB1.out 5
            have r6 := cell_of_blk HAB1.out 6
            have r7 := cell_of_blk HAB1.out 7
            simp [Ac13.cells] at r0 r1 r2 r3 r4 r5 r6 r7
            by_cases h0 : m3 = 0
            · have e0 : (m3 == 0) = true := by rw [h0]; rfl
              have e1 : (m3 == 1) = false := by rw [h0]; rfl
              have e2 : (m3 == 2) = false := by rw [h0]; rfl
              clear h0
              obtain ⟨c, gs', L', hB⟩ := see_bothP w1.heap.size sb bs bw bm nw nm rb gw gM HX.out HO.out (by have := HCN.out; omega) HOK1.out.k a.v
              have HSB := Lib.hid hB
              clear hB
              go_wp2_with fail
              refine (HSB.out.p _ _ HM1.out.p.p (by have := HCN.out; omega)).mono ?_
              rintro e A2 ⟨rfl, ns2, hns2, s', c'⟩
              have hq := HM1.out.prog s' c' (fun j hj => .inr (.inl hj)) HM1.out.p.g2 HM1.out.p.g3
              have HM3 := Lib.hid hq.1
              have HAB3 : Hid (A2.heap[ab]? = some (.cells a.cells.toArray 67)) := Lib.hid (hq.2 _ _ _ _ HAB1.out (by decide))
              have HW3 := Lib.hid (own_keepT HW1.out (fun b c t z hb h1 _ _ => hq.2 b c t z hb h1))
              have HNS := Lib.hid hns2
              clear hq s' c' hns2 r0 r1 r2 r3 r4 r5 r6 r7
              have r0 := cell_of_blk HAB3.out 0
              have r1 := cell_of_blk HAB3.out 1
              have r2 := cell_of_blk HAB3.out 2
              have r3 := cell_of_blk HAB3.out 3
              have r4 := cell_of_blk HAB3.out 4
              have r5 := cell_of_blk HAB3.out 5
              have r6 := cell_of_blk HAB3.out 6
              have r7 := cell_of_blk HAB3.out 7
              simp [Ac13.cells] at r0 r1 r2 r3 r4 r5 r6 r7
              go_wp2_with fail
              refine (HSB.out.r _ HM3.out.r HM3.out.p.b.size).mono ?_
              rintro e A3 ⟨rfl, s', c'⟩
              have hq := HM3.out.ref s' c' (fun j hj => .inl hj)
              have HM5 := Lib.hid hq.1
              have HAB5 : Hid (A3.heap[ab]? = some (.cells a.cells.toArray 67)) := Lib.hid (hq.2 _ _ _ _ HAB3.out (by decide) (by decide))
              have HW5 := Lib.hid (own_keepT HW3.out (fun b c t z hb _ h1 h2 => hq.2 b c t z hb h1 h2))
              clear hq s' c' r0 r1 r2 r3 r4 r5 r6 r7
              have r0 := cell_of_blk HAB5.out 0
              simp [Ac13.cells] at r0
              go_wp2_with fail
              exact ⟨⟨i + 1, by omega, by go_num, Lib.hid ⟨⟨bs, bw, ns2, nw, gs', gw, L', HM5.out, HSB.out.x, HSB.out.o, by have := HCN.out; have := HNS.out; omega, by have := HCN.out; omega, by have := HCN.out; have := HSB.out.n; omega, ext_see HGW.out HSB.out.e⟩, HW5.out⟩⟩, by simp [intOf]; omega⟩
            by_cases h1 : m3 = 1
            · have e0 : (m3 == 0) = false := by rw [h1]; rfl
              have e1 : (m3 == 1) = true := by rw [h1]; rfl
              have e2 : (m3 == 2) = false := by rw [h1]; rfl
              clear h0 h1
              go_wp2_with fail
              refine (putQ_any HM1.out.p.p (by have := HCN.out; omega) HOK1.out.k a.v.val).mono ?_
              rintro e A4 ⟨c4, nw4, gw4, rfl, hn4, s', c', hgw⟩
              have hq := HM1.out.prog s' c' (fun j hj => .inr (.inr (.inl hj))) HM1.out.p.g2 HM1.out.p.g3
              have HM7 := Lib.hid hq.1
              have HAB5 : Hid (A4.heap[ab]? = some (.cells a.cells.toArray 67)) := Lib.hid (hq.2 _ _ _ _ HAB1.out (by decide))
              have HW5 := Lib.hid (own_keepT HW1.out (fun b c t z hb h1 _ _ => hq.2 b c t z hb h1))
              have HN4 := Lib.hid hn4
              clear hq s' c' hgw hn4 r0 r1 r2 r3 r4 r5 r6 r7
              have r0 := cell_of_blk HAB5.out 0
              simp [Ac13.cells] at r0
              go_wp2_with fail
              exact ⟨⟨i + 1, by omega, by go_num, Lib.hid ⟨⟨bs, bw, ns, nw4, gs, gw4, L, HM7.out, HX.out, HO.out, by have := HCN.out; omega, by have := HCN.out; have := HN4.out; omega, by have := HCN.out; omega, HGW.out⟩, HW5.out⟩⟩, by simp [intOf]; omega⟩
            by_cases h2 : m3 = 2
            · have e0 : (m3 == 0) = false := by rw [h2]; rfl
              have e1 : (m3 == 1) = false := by rw [h2]; rfl
              have e2 : (m3 == 2) = true := by rw [h2]; rfl
              clear h0 h1 h2
              obtain ⟨X4, hX4⟩ : ∃ X, A1.alloc (.cells #[.int .i64 a.k.kind, .int .i64 a.k.a, .int .i64 a.k.b, .string a.k.s] 62) = X := ⟨_, rfl⟩
              obtain ⟨x4, hx4⟩ : ∃ x, x = A1.heap.size := ⟨_, rfl⟩
              have b4 : Below A1.heap.size A1 X4 := by rw [← hX4]; exact below_box _ _
              have e4 : X4.heap[x4]? = some (.cells #[.int .i64 a.k.kind, .int .i64 a.k.a, .int .i64 a.k.b, .string a.k.s] 62) := by rw [← hX4, hx4]; exact heap_new _ _
              have HV4 : Hid (kK.V X4 (some ⟨x4, 0, none⟩) [a.k]) := Lib.hid (fun _ => ⟨_, 0, rfl, RowK.new_at (k := kK) e4 rfl⟩)
              have HM4 := Lib.hid (HM1.out.below b4)
              have HAB4 : Hid (X4.heap[ab]? = some (.cells a.cells.toArray 67)) := Lib.hid ((b4.block _ (Array.getElem?_eq_some_iff.1 HAB1.out).1).trans HAB1.out)
              have HW4 := Lib.hid (own_keepT HW1.out (keepT_below b4))
              have HX4 := Lib.hid (And.intro hX4 hx4)
              clear b4 e4 hX4 hx4
              go_wp2_with fail
              rw [HX4.out.1, ← HX4.out.2]
              refine (dropQ_any HM4.out.p.p (by have := HCN.out; omega) HOK1.out.k (some ⟨x4, 0, none⟩) 1 HV4.out).mono ?_
              rintro e A4 ⟨c4, nw4, gw4, rfl, hn4, s', c', hgw⟩
              have hq := HM4.out.prog s' c' (fun j hj => .inr (.inr (.inl hj))) HM4.out.p.g2 HM4.out.p.g3
              have HM7 := Lib.hid hq.1
              have HW5 := Lib.hid (own_keepT HW4.out (fun b c t z hb h1 _ _ => hq.2 b c t z hb h1))
              have HN4 := Lib.hid hn4
              clear hq s' c' hgw hn4 r0 r1 r2 r3 r4 r5 r6 r7
              go_wp2_with fail
              exact ⟨⟨i + 1, by omega, by go_num, Lib.hid ⟨⟨bs, bw, ns, nw4, gs, gw4, L, HM7.out, HX.out, HO.out, by have := HCN.out; omega, by have := HCN.out; have := HN4.out; omega, by have := HCN.out; omega, HGW.out⟩, HW5.out⟩⟩, by simp [intOf]; omega⟩
            have e0 : (m3 == 0) = false := Bool.eq_false_iff.2 (fun h => h0 (eq_of_beq h))
            have e1 : (m3 == 1) = false := Bool.eq_false_iff.2 (fun h => h1 (eq_of_beq h))
            have e2 : (m3 == 2) = false := Bool.eq_false_iff.2 (fun h => h2 (eq_of_beq h))
            clear h0 h1 h2
            go_wp2_with fail
            exact ⟨⟨i + 1, by omega, by go_num, Lib.hid ⟨⟨bs, bw, ns, nw, gs, gw, L, HM1.out, HX.out, HO.out, by have := HCN.out; omega, by have := HCN.out; omega, by have := HCN.out; omega, HGW.out⟩, HW1.out⟩⟩, by simp [intOf]; omega⟩
        · obtain rfl : i = n2 := by omega
          obtain ⟨bs, bw, ns, nw, gs, gw, L, hM, hX, hO, q1, q2, q3, q4⟩ := HI.out.ex
          have HM0 := Lib.hid hM
          have HX := Lib.hid hX
          have HCN : Hid (ns ≤ 140 ∧ nw ≤ 140 ∧ L.length ≤ 140 ∧ nm ≤ 40) := Lib.hid ⟨by omega, by omega, by omega, HNM.out⟩
          have HGE := Lib.hid q4
          have HWO := Lib.hid HI.out.o
          clear hM hX hO q1 q2 q3 q4 HI
          go_wp2_with fail
          refine (sxBack_any HM0.out.p.p).mono ?_
          rintro e w5 ⟨rfl, s', c'⟩
          have hq := HM0.out.prog s' c' (fun j hj => .inl hj) HM0.out.p.b.size HM0.out.p.g3
          obtain ⟨bw5, hbw5⟩ : ∃ x, x = wr.heap.size := ⟨_, rfl⟩
          rw [← hbw5] at hq
          have HM5 := Lib.hid hq.1
          have HW5 := Lib.hid (own_keepT HWO.out (fun b c t z hb h1 _ _ => hq.2 b c t z hb h1))
          clear hq s' c' hbw5
          go_wp2_with fail
          refine (sxWrites_any HM5.out.p.p (by have := HCN.out; omega)).mono ?_
          rintro e w6 ⟨v6, ks6, rfl, hk6, o6, b6⟩
          rw [writes_same HKM.out hk6 HGE.out HGM.out] at o6
          obtain ⟨xa, xc, hxs⟩ := o6.shape
          rw [← HWN.out] at hxs
          subst hxs
          have HM6 := Lib.hid (HM5.out.below b6)
          have HW6 := Lib.hid (own_keepT HW5.out (keepT_below b6))
          clear hk6 o6 b6
          go_wp2_with fail
          refine (sxBack_any HM6.out.p.p).mono ?_
          rintro e w7 ⟨rfl, s', c'⟩
          have hq := HM6.out.prog s' c' (fun j hj => .inl hj) HM6.out.p.b.size HM6.out.p.g3
          obtain ⟨bw7, hbw7⟩ : ∃ x, x = w6.heap.size := ⟨_, rfl⟩
          rw [← hbw7] at hq
          have HM7 := Lib.hid hq.1
          have HW7 := Lib.hid (own_keepT HW6.out (fun b c t z hb h1 _ _ => hq.2 b c t z hb h1))
          clear hq s' c' hbw7
          obtain ⟨sa, sc, e1, e2, e3⟩ := HM7.out.r.ex
          obtain ⟨m, hm⟩ : ∃ m, m = L.length := ⟨_, rfl⟩
          rw [← hm] at e1 e2
          have HE1 := Lib.hid e1
          have HE2 := Lib.hid e2
          have HMM := Lib.hid hm
          have hm6 : m ≤ 1000 := by have := HCN.out; omega
          have HB0 : Hid (Below w7.heap.size w7 w7) := Lib.hid (Below.refl _ _)
          clear e1 e2 e3 hm
          go_wp2_with fail
          go_loopw [12] (fun vj wq => ∃ j : Nat, j ≤ m ∧ vj = .int .i64 j ∧ Hid (Below w7.heap.size w7 wq)) (fun vj _ => m - (intOf vj).toNat)
          case atStart => exact ⟨0, Nat.zero_le _, rfl, HB0⟩
          case round =>
            obtain ⟨j, hj, rfl, HBJ⟩ := hrel
            have q0 := cell_of_blk ((HBJ.out.block _ (Array.getElem?_eq_some_iff.1 HE1.out).1).trans HE1.out) 0
            simp at q0
            have HM9 := Lib.hid (HM7.out.below HBJ.out)
            by_cases hjl : j < m
            · have hjz : (j : Int) < (m : Int) := by omega
              have t6 : decide ((j : Int) < 0) = false := decide_eq_false (by omega)
              obtain ⟨x, hx⟩ : ∃ x, L[j]? = some x := ⟨_, List.getElem?_eq_getElem (by have := HMM.out; omega)⟩
              obtain ⟨g, cp, hve, _, _, hat⟩ := HE2.out.at' (fun e => by rw [e] at hx; simp at hx)
              injection hve with hv1 hv2 hv3
              subst hv1
              have hat2 := hat.below HBJ.out
              have d0 := hat2.cells j x hx 0 _ rfl
              have d1 := hat2.cells j x hx 1 _ rfl
              have d2 := hat2.cells j x hx 2 _ rfl
              have d3 := hat2.cells j x hx 3 _ rfl
              simp [kX] at d0 d1 d2 d3
              have HXO : Hid x.k.Ok := Lib.hid (PX.ok HX.out x (List.mem_of_getElem? hx))
              have HXS : Hid (gs x.k = some x.s) := Lib.hid (PX.s HX.out x (List.mem_of_getElem? hx))
              clear hx hat hat2 hv2 hv3
              go_wp2_with fail
              refine (sxSeen_any HM9.out.p.p HXO.out).mono ?_
              rintro e A5 ⟨rfl, b5⟩
              rw [HXS.out]
              simp only [Option.map_some, Option.getD_some, Sn.v, Option.isSome_some]
              have HB5 := Lib.hid (below_then HBJ.out b5)
              clear b5 d0 d1 d2 d3 q0
              go_wp2_with fail
              exact ⟨⟨j + 1, by omega, by go_num, Lib.hid (below_then HB5.out (below_box _ _))⟩, by simp [intOf]; omega⟩
            · obtain rfl : j = m := by omega
              obtain ⟨m, hmj⟩ : ∃ m, m = j := ⟨_, rfl⟩
              subst hmj
              have HWY := Lib.hid (own_keepT HW7.out (keepT_below HBJ.out))
              have HM11 := HM9
              obtain ⟨wy, hwy⟩ : ∃ u, u = wr := ⟨_, rfl⟩
              subst hwy
              have HC12 : Hid (wy.drew.cell? ⟨rb, 0, none⟩ = some (.slice sa m sc)) := Lib.hid q0
              go_upto_region 37 with fail
              clear q0
              refine wp_region_held_drew (S := (fun w' : World => w'.cell? ⟨rb, 0, none⟩ = some (.slice sa m sc))) (by kernel_rfl) (HC12.out) (fun hHeld => ?_)
              obtain ⟨X, hGen⟩ : ∃ u, u = World.drew wy := ⟨_, rfl⟩
              rw [← hGen] at hHeld ⊢
              have bX : Below wy.heap.size wy X := by rw [hGen]; exact below_drewN (Below.refl _ _) 1
              have HCX : Hid (X.cell? ⟨rb, 0, none⟩ = some (.slice sa m sc)) := Lib.hid (by rw [hGen]; exact HC12.out)
              have HM12 := Lib.hid (HM11.out.below bX)
              have HWX := Lib.hid (own_keepT HWY.out (keepT_below bX))
              clear bX
              clear hGen
              refine wpAnyH_take (i := 0) (oi := ⟨some 171, _, _, _, _, _⟩) (v := ?vvqe1) rfl (by kernel_rfl) (by kernel_rfl) (by kernel_rfl) (fun _ _ _ h => h) (Or.inl ⟨by rfl, ?yyqe1⟩) hHeld ?rrqe1
              case yyqe1 => (intro wq hSw; (try dsimp only at hSw); go_simp; first | done | with_reducible rfl)
              simp only [Act.put, List.setIfInBounds_toArray, List.set_cons_zero, List.set_cons_succ]
              refine wpAnyH_take (i := 2) (oi := ⟨some 173, _, _, _, _, _⟩) (v := ?vvqe2) rfl (by kernel_rfl) (by kernel_rfl) (by kernel_rfl) (fun _ _ _ h => h) (Or.inl ⟨by rfl, ?yyqe2⟩) hHeld ?rrqe2
              case yyqe2 => (intro wq hSw; (try dsimp only at hSw); go_simp; first | done | with_reducible rfl)
              simp only [Act.put, List.setIfInBounds_toArray, List.set_cons_zero, List.set_cons_succ]
              refine wpAnyH_ready (rs := [1]) (by kernel_rfl) (by simp) ?_
              refine AllReadyH.cons (o := ⟨some 172, _, _, _, _, _⟩) rfl (fun K hK => ?_) AllReadyH.nil
              go_simp
              refine (sxWrites_any HM12.out.p.p (by have := HCN.out; omega)).mono ?_
              rintro e n172 ⟨v17, ks17, rfl, hk17, o17, b17⟩
              rw [writes_same HKM.out hk17 HGE.out HGM.out] at o17
              obtain ⟨pa, pc, hps⟩ := o17.shape
              rw [← HWN.out] at hps
              subst hps
              have HSAME2 : Hid (Calls Try.prog 47 #[.slice pa wn pc, .slice wa wn wcp] n172 (BoolPost n172 true)) := Lib.hid (by
                have h1 := ws_outM HKM.out HSZ.out o17
                have h2 := ws_outM HKM.out HSZ.out (own_keepT HWX.out (keepT_below b17))
                have := same13_eq pa wa pc wcp (wrOut gsM gM ksM) n172 h1 h2 (by rw [← HWN.out]; exact HWL.out)
                rw [← HWN.out] at this
                exact this)
              have HM13 := Lib.hid (HM12.out.below b17)
              have HC13 : Hid (n172.cell? ⟨rb, 0, none⟩ = some (.slice sa m sc)) := Lib.hid (below_cell b17 0 (World.block_lt_of_cell? _ ⟨rb, 0, none⟩ HCX.out) HCX.out)
              clear hk17 o17 b17
              go_wp2_with fail
              refine hK.out _ _ ?ssqe3 (fun hHeld => ?_)
              case ssqe3 => (exact HC13.out)
              clear hK K
              try simp only [Act.put, List.setIfInBounds_toArray, List.set_cons_zero, List.set_cons_succ]
              refine wpAnyH_ready (rs := [3]) (by kernel_rfl) (by simp) ?_
              refine AllReadyH.cons (o := ⟨some 174, _, _, _, _, _⟩) rfl (fun K hK => ?_) AllReadyH.nil
              go_simp
              refine HSAME2.out.mono ?_
              rintro e n174 ⟨rfl, b18⟩
              have HM14 := Lib.hid (HM13.out.below b18)
              have HC14 : Hid (n174.cell? ⟨rb, 0, none⟩ = some (.slice sa m sc)) := Lib.hid (below_cell b18 0 (World.block_lt_of_cell? _ ⟨rb, 0, none⟩ HC13.out) HC13.out)
              clear b18
              go_wp2_with fail
              refine hK.out _ _ ?ssqe4 (fun hHeld => ?_)
              case ssqe4 => (exact HC14.out)
              clear hK K
              try simp only [Act.put, List.setIfInBounds_toArray, List.set_cons_zero, List.set_cons_succ]
              refine wpAnyH_take (i := 4) (oi := ⟨some 175, _, _, _, _, _⟩) (v := ?vvqe5) rfl (by kernel_rfl) (by kernel_rfl) (by kernel_rfl) (fun _ _ _ h => h) (Or.inl ⟨by rfl, ?yyqe5⟩) hHeld ?rrqe5
              case yyqe5 => (intro wq hSw; (try dsimp only at hSw); go_simp; first | done | with_reducible rfl)
              simp only [Act.put, List.setIfInBounds_toArray, List.set_cons_zero, List.set_cons_succ]
              refine wpAnyH_take (i := 5) (oi := ⟨some 176, _, _, _, _, _⟩) (v := ?vvqe6) rfl (by kernel_rfl) (by kernel_rfl) (by kernel_rfl) (fun _ _ _ h => h) (Or.inl ⟨by rfl, ?yyqe6⟩) hHeld ?rrqe6
              case yyqe6 => (intro wq hSw; (try dsimp only at hSw); go_simp; first | done | with_reducible rfl)
              simp only [Act.put, List.setIfInBounds_toArray, List.set_cons_zero, List.set_cons_succ]
              refine wpAnyH_take (i := 6) (oi := ⟨some 177, _, _, _, _, _⟩) (v := ?vvqe7) rfl (by kernel_rfl) (by kernel_rfl) (by kernel_rfl) (fun _ _ _ h => h) (Or.inl ⟨by rfl, ?yyqe7⟩) hHeld ?rrqe7
              case yyqe7 => (intro wq hSw; (try dsimp only at hSw); go_simp; first | done | with_reducible rfl)
              simp only [Act.put, List.setIfInBounds_toArray, List.set_cons_zero, List.set_cons_succ]
              refine wpAnyH_take (i := 7) (oi := ⟨some 178, _, _, _, _, _⟩) (v := ?vvqe8) rfl (by kernel_rfl) (by kernel_rfl) (by kernel_rfl) (fun _ _ _ h => h) (Or.inl ⟨by rfl, ?yyqe8⟩) hHeld ?rrqe8
              case yyqe8 => (intro wq hSw; (try dsimp only at hSw); go_simp; first | done | with_reducible rfl)
              simp only [Act.put, List.setIfInBounds_toArray, List.set_cons_zero, List.set_cons_succ]
              refine wpAnyH_take (i := 8) (oi := ⟨some 179, _, _, _, _, _⟩) (v := ?vvqe9) rfl (by kernel_rfl) (by kernel_rfl) (by kernel_rfl) (fun _ _ _ h => h) (Or.inl ⟨by rfl, ?yyqe9⟩) hHeld ?rrqe9
              case yyqe9 => (intro wq hSw; (try dsimp only at hSw); go_simp; first | done | with_reducible rfl)
              simp only [Act.put, List.setIfInBounds_toArray, List.set_cons_zero, List.set_cons_succ]
              refine wpAnyH_take (i := 9) (oi := ⟨some 180, _, _, _, _, _⟩) (v := ?vvqe10) rfl (by kernel_rfl) (by kernel_rfl) (by kernel_rfl) (fun _ _ _ h => h) (Or.inl ⟨by rfl, ?yyqe10⟩) hHeld ?rrqe10
              case yyqe10 => (intro wq hSw; (try dsimp only at hSw); go_simp; first | done | with_reducible rfl)
              simp only [Act.put, List.setIfInBounds_toArray, List.set_cons_zero, List.set_cons_succ]
              refine wpAnyH_take (i := 10) (oi := ⟨some 181, _, _, _, _, _⟩) (v := ?vvqe11) rfl (by kernel_rfl) (by kernel_rfl) (by kernel_rfl) (fun _ _ _ h => h) (Or.inl ⟨by rfl, ?yyqe11⟩) hHeld ?rrqe11
              case yyqe11 => (intro wq hSw; (try dsimp only at hSw); go_simp; first | done | with_reducible rfl)
              simp only [Act.put, List.setIfInBounds_toArray, List.set_cons_zero, List.set_cons_succ]
              refine wpAnyH_take (i := 11) (oi := ⟨some 182, _, _, _, _, _⟩) (v := ?vvqe12) rfl (by kernel_rfl) (by kernel_rfl) (by kernel_rfl) (fun _ _ _ h => h) (Or.inl ⟨by rfl, ?yyqe12⟩) hHeld ?rrqe12
              case yyqe12 => (intro wq hSw; (try dsimp only at hSw); go_simp; first | done | with_reducible rfl)
              simp only [Act.put, List.setIfInBounds_toArray, List.set_cons_zero, List.set_cons_succ]
              refine wpAnyH_take (i := 14) (oi := ⟨some 185, _, _, _, _, _⟩) (v := ?vvqe13) rfl (by kernel_rfl) (by kernel_rfl) (by kernel_rfl) (fun _ _ _ h => h) (Or.inl ⟨by rfl, ?yyqe13⟩) hHeld ?rrqe13
              case yyqe13 => (intro wq hSw; (try dsimp only at hSw); go_simp; first | done | with_reducible rfl)
              simp only [Act.put, List.setIfInBounds_toArray, List.set_cons_zero, List.set_cons_succ]
              refine wpAnyH_take (i := 15) (oi := ⟨some 186, _, _, _, _, _⟩) (v := ?vvqe14) rfl (by kernel_rfl) (by kernel_rfl) (by kernel_rfl) (fun _ _ _ h => h) (Or.inl ⟨by rfl, ?yyqe14⟩) hHeld ?rrqe14
              case yyqe14 => (intro wq hSw; (try dsimp only at hSw); go_simp; first | done | with_reducible rfl)
              simp only [Act.put, List.setIfInBounds_toArray, List.set_cons_zero, List.set_cons_succ]
              refine wpAnyH_take (i := 16) (oi := ⟨some 187, _, _, _, _, _⟩) (v := ?vvqe15) rfl (by kernel_rfl) (by kernel_rfl) (by kernel_rfl) (fun _ _ _ h => h) (Or.inl ⟨by rfl, ?yyqe15⟩) hHeld ?rrqe15
              case yyqe15 => (intro wq hSw; (try dsimp only at hSw); go_simp; first | done | with_reducible rfl)
              simp only [Act.put, List.setIfInBounds_toArray, List.set_cons_zero, List.set_cons_succ]
              refine wpAnyH_take (i := 17) (oi := ⟨some 188, _, _, _, _, _⟩) (v := ?vvqe16) rfl (by kernel_rfl) (by kernel_rfl) (by kernel_rfl) (fun _ _ _ h => h) (Or.inl ⟨by rfl, ?yyqe16⟩) hHeld ?rrqe16
              case yyqe16 => (intro wq hSw; (try dsimp only at hSw); go_simp; first | done | with_reducible rfl)
              simp only [Act.put, List.setIfInBounds_toArray, List.set_cons_zero, List.set_cons_succ]
              refine wpAnyH_take (i := 18) (oi := ⟨some 189, _, _, _, _, _⟩) (v := ?vvqe17) rfl (by kernel_rfl) (by kernel_rfl) (by kernel_rfl) (fun _ _ _ h => h) (Or.inl ⟨by rfl, ?yyqe17⟩) hHeld ?rrqe17
              case yyqe17 => (intro wq hSw; (try dsimp only at hSw); go_simp; first | done | with_reducible rfl)
              simp only [Act.put, List.setIfInBounds_toArray, List.set_cons_zero, List.set_cons_succ]
              refine wpAnyH_ready (rs := [12]) (by kernel_rfl) (by simp) ?_
              refine AllReadyH.cons (o := ⟨some 183, _, _, _, _, _⟩) rfl (fun K hK => ?_) AllReadyH.nil
              go_simp
              refine (sxReads_any HM14.out.p.p (by have := HCN.out; omega)).mono ?_
              rintro e n183 ⟨v19, ks19, rfl, hk19, o19, b19⟩
              have hke := KsG.reads HX.out hk19
              subst hke
              obtain ⟨ra, rc, hrs⟩ := o19.shape
              rw [List.length_map, ← HMM.out] at hrs
              subst hrs
              have HB19 := Lib.hid (below_then HM14.out.p.b b19)
              have HC15 : Hid (n183.cell? ⟨rb, 0, none⟩ = some (.slice sa m sc)) := Lib.hid (below_cell b19 0 (World.block_lt_of_cell? _ ⟨rb, 0, none⟩ HC14.out) HC14.out)
              clear hk19 o19 b19
              go_wp2_with fail
              refine hK.out _ _ ?ssqe18 (fun hHeld => ?_)
              case ssqe18 => (exact HC15.out)
              clear hK K
              try simp only [Act.put, List.setIfInBounds_toArray, List.set_cons_zero, List.set_cons_succ]
              refine wpAnyH_take (i := 13) (oi := ⟨some 184, _, _, _, _, _⟩) (v := ?vvqe19) rfl (by kernel_rfl) (by kernel_rfl) (by kernel_rfl) (fun _ _ _ h => h) (Or.inl ⟨by rfl, ?yyqe19⟩) hHeld ?rrqe19
              case yyqe19 => (intro wq hSw; (try dsimp only at hSw); go_simp; first | done | with_reducible rfl)
              simp only [Act.put, List.setIfInBounds_toArray, List.set_cons_zero, List.set_cons_succ]
              refine wpAnyH_take (i := 19) (oi := ⟨some 190, _, _, _, _, _⟩) (v := ?vvqe20) rfl (by kernel_rfl) (by kernel_rfl) (by kernel_rfl) (fun _ _ _ h => h) (Or.inl ⟨by rfl, ?yyqe20⟩) hHeld ?rrqe20
              case yyqe20 => (intro wq hSw; (try dsimp only at hSw); go_simp; first | done | with_reducible rfl)
              simp only [Act.put, List.setIfInBounds_toArray, List.set_cons_zero, List.set_cons_succ]
              refine wpAnyH_take (i := 20) (oi := ⟨some 191, _, _, _, _, _⟩) (v := ?vvqe21) rfl (by kernel_rfl) (by kernel_rfl) (by kernel_rfl) (fun _ _ _ h => h) (Or.inl ⟨by rfl, ?yyqe21⟩) hHeld ?rrqe21
              case yyqe21 => (intro wq hSw; (try dsimp only at hSw); go_simp; first | done | with_reducible rfl)
              simp only [Act.put, List.setIfInBounds_toArray, List.set_cons_zero, List.set_cons_succ]
              refine wpAnyH_take (i := 21) (oi := ⟨some 4, _, _, _, _, _⟩) (v := ?vvqe22) rfl (by kernel_rfl) (by kernel_rfl) (by kernel_rfl) (fun _ _ _ h => h) (Or.inl ⟨by rfl, ?yyqe22⟩) hHeld ?rrqe22
              case yyqe22 => (intro wq hSw; (try dsimp only at hSw); go_simp; first | done | with_reducible rfl)
              simp only [Act.put, List.setIfInBounds_toArray, List.set_cons_zero, List.set_cons_succ]
              refine wpAnyH_done (by kernel_rfl) ?_ _
              clear hHeld
              go_wp2_with fail
              go_ret
              exact ⟨rfl, below_then HB1.out HB19.out⟩
end Go.Proofs.Ytcghgnncmnoalaa
