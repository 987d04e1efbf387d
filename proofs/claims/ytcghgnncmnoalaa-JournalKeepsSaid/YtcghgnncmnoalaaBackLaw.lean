/- RedoBack. Conditions: none. -/
import Derived.Test.YtcghgnncmnoalaaBackPlain
import Derived.Test.YtcghgnncmnoalaaRdMem
namespace Go.Proofs.Ytcghgnncmnoalaa
open Go.RowKit Go.Maps

/-- records of an argument -/
def RsM (w : World) (a : Option Addr) (l : List Rv) : Prop := l ≠ [] → ∃ b off, a = some ⟨b, off, none⟩ ∧ b < w.heap.size ∧ ∀ (i : Nat) (x : Rv), l[i]? = some x → (x.stamp < 18446744073709551616 ∧ WsV w x.a x.ws ∧ x.ws.length ≤ maxLen) ∧ w.cell? ⟨b, off + i * 2, none⟩ = some (.int .u64 x.stamp) ∧ w.cell? ⟨b, off + i * 2 + 1, none⟩ = some (.slice x.a x.ws.length x.cap)
theorem RsM.below {w w' : World} {a : Option Addr} {l : List Rv} (h : RsM w a l) (hb : Below w.heap.size w w') : RsM w' a l := fun hn => by
  obtain ⟨b, off, e, hl, hc⟩ := h hn
  refine ⟨b, off, e, Nat.lt_of_lt_of_le hl hb.size, fun i x hx => ?_⟩
  obtain ⟨⟨h1, h2, h3⟩, h4, h5⟩ := hc i x hx
  exact ⟨⟨h1, h2.below hb, h3⟩, below_cell hb _ hl h4, below_cell hb _ hl h5⟩
def snAll (l : List Rv) : List Rc := l.map Rv.rc
theorem below_drewB {B : Nat} {w u : World} (h : Below B w u) (n : Nat) : Below B w (u.drewN n) := ⟨h.os, h.tape, h.output, h.size, h.block⟩
/-- numbers of an argument -/
def IsV (w : World) (a : Option Addr) (l : List Int) : Prop := l ≠ [] → ∃ b off, a = some ⟨b, off, none⟩ ∧ OsAt w b off l
theorem IsV.below {w w' : World} {a : Option Addr} {l : List Int} (h : IsV w a l) (hb : Below w.heap.size w w') : IsV w' a l := fun hn => by
  obtain ⟨b, off, e, hl, hc⟩ := h hn
  exact ⟨b, off, e, Nat.lt_of_lt_of_le hl hb.size, fun i o ho => below_cell hb _ hl (hc i o ho)⟩
theorem turn3 (x last : Int) (h : I64 x) (h1 : -1 ≤ last) : ∃ m : Nat, last + 1 + x.tmod 3 % 3 = m ∧ last < (m : Int) ∧ (m : Int) ≤ last + 3 ∧ -2 ≤ x.tmod 3 ∧ x.tmod 3 ≤ 2 := by
  have g1 : x.tmod 3 < 3 := Int.tmod_lt_of_pos x (by omega)
  have g2 : -3 < x.tmod 3 := by
    have := Int.tmod_lt_of_pos (-x) (show (0 : Int) < 3 by omega)
    rw [Int.neg_tmod] at this
    omega
  have g3 : 0 ≤ x.tmod 3 % 3 := Int.emod_nonneg _ (by omega)
  have g4 : x.tmod 3 % 3 < 3 := Int.emod_lt_of_pos _ (by omega)
  have := h.1
  obtain ⟨m, hm⟩ := Int.eq_ofNat_of_zero_le (show 0 ≤ last + 1 + x.tmod 3 % 3 by omega)
  exact ⟨m, hm, by omega, by omega, by omega, by omega⟩
set_option maxRecDepth 100000 in
set_option maxHeartbeats 8000000 in
theorem back_any (ra : Option Addr) (rcap : Nat) (zs : List Rv) (ma : Option Addr) (mcap : Nat) (ms : List Int) (w : World) (hz : RsM w ra zs) (hzl : zs.length ≤ maxLen) (hm : IsV w ma ms) (hml : ms.length ≤ maxLen) (hmi : ∀ m ∈ ms, I64 m) :
    Calls Try.prog 5 #[.slice ra zs.length rcap, .slice ma ms.length mcap] w (BoolPost w true) := by
  unfold maxLen at hzl hml
  have HZ := Lib.hid hz
  have HM := Lib.hid hm
  have HMI := Lib.hid hmi
  clear hz hm hmi
  obtain ⟨n, hn⟩ : ∃ n, n = zs.length := ⟨_, rfl⟩
  obtain ⟨q, hq⟩ : ∃ q, q = ms.length := ⟨_, rfl⟩
  rw [← hn, ← hq]
  rw [← hn] at hzl
  rw [← hq] at hml
  have HN := Lib.hid hn
  have HQ := Lib.hid hq
  clear hn hq
  by_cases hbig : 12 < n ∨ 12 < q
  · have tt : decide ((12 : Int) < (n : Int)) = true ∨ (decide ((12 : Int) < (n : Int)) = false ∧ decide ((12 : Int) < (q : Int)) = true) := by
      by_cases h : 12 < n
      · exact .inl (decide_eq_true (by omega))
      · exact .inr ⟨decide_eq_false (by omega), decide_eq_true (by omega)⟩
    clear hbig
    rcases tt with t1 | ⟨t1, t2⟩
    all_goals
      go_enter Try.func5, Try.ntmps5
      go_wp2_with fail
      (with_reducible refine (awake14_any _).mono ?_)
      rintro e w1 ⟨rfl, b1⟩
      have HB1 := Lib.hid b1
      clear b1
      go_wp2_with fail
      (with_reducible refine (awake14_any _).mono ?_)
      rintro e w2 ⟨rfl, b2⟩
      have HB2 := Lib.hid b2
      clear b2
      go_wp2_with fail
      go_ret
      exact ⟨rfl, below_then HB1.out HB2.out⟩
  · have hn12 : n ≤ 12 := by omega
    have hq12 : q ≤ 12 := by omega
    have t1 : decide ((12 : Int) < (n : Int)) = false := decide_eq_false (by omega)
    have t2 : decide ((12 : Int) < (q : Int)) = false := decide_eq_false (by omega)
    clear hbig
    go_enter Try.func5, Try.ntmps5
    go_wp2_with fail
    (with_reducible refine (awake14_any _).mono ?_)
    rintro e w1 ⟨rfl, b1⟩
    have HB1 := Lib.hid b1
    clear b1
    go_wp2_with fail
    clear t1 t2
    go_loopw [5, 6, 7, 8, 9] (fun vB vL vE vS vI wr => ∃ (ba : Option Addr) (bn bc : Nat) (items : List It) (i sn : Nat) (last : Int) (en : Nat) (bl : List UInt8), vB = .slice ba bn bc ∧ vL = .int .i64 last ∧ vE = .int .i64 en ∧ vS = .int .i64 sn ∧ vI = .int .i64 i ∧ i ≤ 12 ∧ -1 ≤ last ∧ last ≤ 3 * (i : Int) - 1 ∧ Hid (bn = bl.length ∧ BkI zs items i sn last en bl ∧ BsO wr w.heap.size vB bl ∧ Below w.heap.size w wr)) (fun _ _ _ _ i _ => 12 - (intOf i).toNat)
    case atStart => exact ⟨none, 0, 0, [], 0, 0, -1, 0, [], rfl, rfl, rfl, rfl, rfl, by omega, by omega, by omega, Lib.hid ⟨rfl, BkI.start zs, BsO.nil _ _, HB1.out⟩⟩
    case round =>
      obtain ⟨ba, bn, bc, items, i, sn, last, en, bl, rfl, rfl, rfl, rfl, rfl, hi12, hl1, hl2, HR⟩ := hrel
      by_cases hir : i < n
      · obtain ⟨x, hx⟩ : ∃ x, zs[i]? = some x := ⟨_, List.getElem?_eq_getElem (by have := HN.out; omega)⟩
        obtain ⟨rb, roff, hra, _, hat⟩ := (HZ.out.below HR.out.2.2.2) (fun e => by rw [e] at hx; simp at hx)
        obtain ⟨hxo, c0, c1⟩ := hat i x hx
        subst hra
        have HX := Lib.hid hx
        have HXO := Lib.hid hxo
        have hir' : decide ((i : Int) < (n : Int)) = true := decide_eq_true (by omega)
        obtain ⟨sq, hsq⟩ : ∃ s, smallW 20 300 x.ws = s := ⟨_, rfl⟩
        have HSQ := Lib.hid hsq
        clear hx hat hxo hsq
        go_wp2_with fail
        (with_reducible refine (small14_any x.stamp x.a x.cap x.ws _ HXO.out.2.1 HXO.out.2.2).mono ?_)
        rintro e w3 ⟨rfl, b3⟩
        rw [HSQ.out]
        have HB3 := Lib.hid b3
        replace c0 := below_cell b3 _ (World.block_lt_of_cell? wr ⟨rb, roff + i * 2, none⟩ c0) c0
        replace c1 := below_cell b3 _ (World.block_lt_of_cell? wr ⟨rb, roff + i * 2 + 1, none⟩ c1) c1
        have HW3 := Lib.hid (below_then HR.out.2.2.2 b3)
        clear b3
        cases sq
        · go_wp2_with fail
          go_ret
          exact ⟨rfl, HW3.out⟩
        · have HSB := Lib.hid (small_body2 (st := x.stamp) HSQ.out)
          go_wp2_with fail
          (with_reducible refine (commit_any x.stamp x.a x.cap x.ws _ (HXO.out.2.1.below HB3.out) HXO.out.1 (by have := HSB.out.1; omega) (by have := HSB.out.2; omega)).mono ?_)
          rintro e w4 ⟨b4, hC⟩
          have HW4 := Lib.hid (below_then HW3.out b4)
          rcases hC with ⟨_, rfl⟩ | ⟨hwr, v4, rfl, o4⟩
          · clear b4
            go_wp2_with fail
            go_ret
            exact ⟨rfl, HW4.out⟩
          · obtain ⟨a4, c4, hv4⟩ := o4.shape
            subst hv4
            have HG0 := Lib.hid (HR.out.2.1.put HX.out hwr HSB.out.2)
            obtain ⟨pk, hpk⟩ : ∃ pk, pk = packL 1 (bodyL x.stamp x.ws) := ⟨_, rfl⟩
            rw [← hpk] at HG0
            have HO4 : Hid (BsO w4 w3.heap.size (.slice a4 pk.length c4) pk) := Lib.hid (by rw [hpk]; exact o4)
            obtain ⟨pn, hpn⟩ : ∃ pn, pn = pk.length := ⟨_, rfl⟩
            have e9 : (packL 1 (bodyL (⟨x.stamp, x.ws⟩ : Rc).stamp (⟨x.stamp, x.ws⟩ : Rc).ws)).length = pn := by rw [hpn, hpk]
            rw [e9]
            rw [← hpn] at HO4
            have HPN := Lib.hid hpn
            have HSRC := Lib.hid ((BsO.bsV HO4.out).src c4)
            rw [← hpn] at HSRC
            have HOB := Lib.hid ((HR.out.2.2.1.below HB3.out).below b4)
            have HLN : Hid (bl.length + pk.length ≤ 4000000) := Lib.hid (by have := HG0.out.2.2.2; rw [List.length_append] at this; omega)
            have HMV := Lib.hid ((HM.out.below HW4.out))
            clear b4 o4 hpk hpn e9 c0 c1 hwr
            go_upto_region 15 with (first | (at_builtin; refine wpList_appX _ rfl (.tmp 67) (.tmp 68) 22 rfl w.heap.size _ _ rfl HOB.out (.slice a4 pn c4) pn pk rfl HPN.out.symm HSRC.out HLN.out HW4.out.size ?_; rintro v5 w5 ⟨o5, b5, _, _⟩; have H5 := Lib.hid (And.intro o5 b5); clear o5 b5) | fail)
            obtain ⟨ba1, bc1, hv5⟩ := H5.out.1.shape
            subst hv5
            obtain ⟨bl1, hbl1⟩ : ∃ b, b = bl ++ pk := ⟨_, rfl⟩
            have HW5 : Hid (Below w.heap.size w w5) := Lib.hid (HW4.out.trans H5.out.2)
            have HO5 : Hid (BsO w5 w.heap.size (.slice ba1 bl1.length bc1) bl1) := Lib.hid (by rw [hbl1]; exact H5.out.1)
            obtain ⟨items1, hit1⟩ : ∃ t, t = items ++ [It.rc x.rc] := ⟨_, rfl⟩
            have HG : Hid (itOk (-1) items1 ∧ items1.foldl itS ⟨[], [], -1, 0, 0⟩ = ⟨(zs.take (i + 1)).map Rv.rc, (zs.take sn).map Rv.rc, last, en, bl1.length⟩ ∧ bl1 = items1.flatMap itB ∧ bl1.length ≤ i * 12400 + 12340 ∧ sn ≤ zs.length) := Lib.hid (by
              rw [hit1, hbl1]; exact ⟨HG0.out.1, HG0.out.2.1, HG0.out.2.2.1, HG0.out.2.2.2, HR.out.2.1.snl⟩)
            have hlen9 : (bl ++ pk).length = bl1.length := by rw [hbl1]
            rw [hlen9]
            obtain ⟨bn1, hbn1⟩ : ∃ b, b = bl1.length := ⟨_, rfl⟩
            rw [← hbn1] at HO5
            rw [← hbn1]
            have HBN1 := Lib.hid hbn1
            clear hbl1 hit1 hlen9 H5 hbn1
            have HMV1 := Lib.hid (HM.out.below HW5.out)
            by_cases hiq : i < q
            · obtain ⟨mz, hmz⟩ : ∃ m, ms[i]? = some m := ⟨_, List.getElem?_eq_getElem (by have := HQ.out; omega)⟩
              obtain ⟨mb, moff, hma, hoa⟩ := HMV1.out (fun e => by rw [e] at hmz; simp at hmz)
              subst hma
              have m0 := hoa.2 i mz hmz
              obtain ⟨mm, hmm, hmm1, hmm2, hg1, hg2⟩ := turn3 mz last (HMI.out mz (List.mem_of_getElem? hmz)) hl1
              have hiq' : decide ((i : Int) < (q : Int)) = true := decide_eq_true (by omega)
              have HMM := Lib.hid hmm
              clear hmz hoa hmm
              go_upto_region 17 with fail
              rw [HMM.out]
              clear hg1 hg2
              go_wp2_with fail
              (with_reducible refine (mark_any ((mm : Nat) : Int) _).mono ?_)
              rintro e w6 ⟨b6, hC⟩
              rcases hC with ⟨hC, _⟩ | ⟨_, v6, rfl, o6⟩
              · exact absurd hC (by unfold epB inB; simp; omega)
              · obtain ⟨a6, c6, hv6⟩ := o6.shape
                subst hv6
                rw [Int.toNat_natCast] at o6 ⊢
                have HW6 := Lib.hid (below_then HW5.out b6)
                have HG2 := Lib.hid (bk_mark HG.out.1 HG.out.2.1 HG.out.2.2.1 (m := mm) (by omega) (by omega))
                have hpl : (packL 2 (fourL mm)).length = 14 := by rw [pack_len]; simp [fourL]
                rw [hpl]
                obtain ⟨pk, hpk⟩ : ∃ pk, pk = packL 2 (fourL mm) := ⟨_, rfl⟩
                rw [← hpk] at HG2
                have HO6 : Hid (BsO w6 w5.heap.size (.slice a6 14 c6) pk) := Lib.hid (by rw [hpk, ← hpl]; exact o6)
                have HP14 : Hid (pk.length = 14) := Lib.hid (by rw [hpk]; exact hpl)
                have HSRC := Lib.hid ((BsO.bsV HO6.out).src c6)
                rw [HP14.out] at HSRC
                have HOB := Lib.hid (HO5.out.below b6)
                have HLN : Hid (bl1.length + pk.length ≤ 4000000) := Lib.hid (by have := HG.out.2.2.2.1; have := HP14.out; omega)
                clear b6 o6 hpk hpl m0
                go_upto_region 21 with (first | (at_builtin; refine wpList_appX _ rfl (.tmp 91) (.tmp 92) 22 rfl w.heap.size _ _ rfl HOB.out (.slice a6 14 c6) 14 pk rfl HP14.out HSRC.out HLN.out HW6.out.size ?_; rintro v7 w7 ⟨o7, b7, _, _⟩; have H7 := Lib.hid (And.intro o7 b7); clear o7 b7) | fail)
                obtain ⟨ba2, bc2, hv7⟩ := H7.out.1.shape
                subst hv7
                obtain ⟨bl2, hbl2⟩ : ∃ b, b = bl1 ++ pk := ⟨_, rfl⟩
                have HW7 : Hid (Below w.heap.size w w7) := Lib.hid (HW6.out.trans H7.out.2)
                have HO7 : Hid (BsO w7 w.heap.size (.slice ba2 bl2.length bc2) bl2) := Lib.hid (by rw [hbl2]; exact H7.out.1)
                have hlen9 : (bl1 ++ pk).length = bl2.length := by rw [hbl2]
                rw [hlen9]
                obtain ⟨sn2, hsn2⟩ : ∃ s, s = min (i + 1) n := ⟨_, rfl⟩
                have hmin : min ((i : Int) + 1) (n : Int) = (sn2 : Int) := by omega
                have HBK : Hid (BkI zs (items1 ++ [It.mk mm]) (i + 1) sn2 (mm : Int) bl2.length bl2) := Lib.hid (by
                  have htk : zs.take sn2 = zs.take (i + 1) := by
                    rw [hsn2]
                    by_cases h : i + 1 ≤ n
                    · rw [Nat.min_eq_left h]
                    · rw [Nat.min_eq_right (by omega), HN.out, List.take_length, List.take_of_length_le (by have := HN.out; omega)]
                  rw [hbl2]
                  refine ⟨HG2.out.1, by rw [htk]; exact HG2.out.2.1, HG2.out.2.2.1, by have := HN.out; omega, by have := HG2.out.2.2.2; have := HG.out.2.2.2.1; omega, by omega, by omega⟩)
                obtain ⟨bn2, hbn2⟩ : ∃ b, b = bl2.length := ⟨_, rfl⟩
                rw [← hbn2] at HO7 HBK
                rw [← hbn2]
                have HBN2 := Lib.hid hbn2
                clear hbl2 hlen9 hbn2 H7 hsn2
                go_wp2_with fail
                exact ⟨⟨ba2, bn2, bc2, items1 ++ [It.mk mm], i + 1, sn2, (mm : Int), bn2, bl2, rfl, rfl, rfl, by first | rfl | (show Value.int .i64 _ = Value.int .i64 _; congr 1; omega), by go_num, by omega, by omega, by omega, Lib.hid ⟨HBN2.out, HBK.out, HO7.out, HW7.out⟩⟩, by simp [intOf]; omega⟩
            · have hiq' : decide ((i : Int) < (q : Int)) = false := decide_eq_false (by omega)
              go_wp2_with fail
              exact ⟨⟨ba1, bn1, bc1, items1, i + 1, sn, last, en, bl1, rfl, rfl, rfl, rfl, by go_num, by omega, hl1, by omega, Lib.hid ⟨HBN1.out, ⟨HG.out.1, HG.out.2.1, HG.out.2.2.1, HG.out.2.2.2.2, by have := HG.out.2.2.2.1; omega, hl1, by omega⟩, HO5.out, HW5.out⟩⟩, by simp [intOf]; omega⟩
      · have hir' : decide ((i : Int) < (n : Int)) = false := decide_eq_false (by omega)
        have HTK : Hid (zs.take (i + 1) = zs.take i) := Lib.hid (by rw [List.take_of_length_le (by have := HN.out; omega), List.take_of_length_le (by have := HN.out; omega)])
        by_cases hiq0 : i < q
        · have hiq0' : decide ((i : Int) < (q : Int)) = true := decide_eq_true (by omega)
          obtain ⟨items1, hit1⟩ : ∃ t, t = items := ⟨_, rfl⟩
          obtain ⟨bl1, hbl1⟩ : ∃ b, b = bl := ⟨_, rfl⟩
          obtain ⟨ba1, hba1⟩ : ∃ b, b = ba := ⟨_, rfl⟩
          obtain ⟨bc1, hbc1⟩ : ∃ b, b = bc := ⟨_, rfl⟩
          obtain ⟨bn1, hbn1⟩ : ∃ b, b = bn := ⟨_, rfl⟩
          subst hba1 hbc1 hbn1
          obtain ⟨w5, hw5⟩ : ∃ w5 : World, w5 = wr := ⟨_, rfl⟩
          subst hw5
          have HW5 : Hid (Below w.heap.size w w5) := Lib.hid HR.out.2.2.2
          have HBN1 : Hid (bn1 = bl1.length) := Lib.hid (by rw [hbl1]; exact HR.out.1)
          have HO5 : Hid (BsO w5 w.heap.size (.slice ba1 bn1 bc1) bl1) := Lib.hid (by rw [hbl1]; exact HR.out.2.2.1)
          have HG : Hid (itOk (-1) items1 ∧ items1.foldl itS ⟨[], [], -1, 0, 0⟩ = ⟨(zs.take (i + 1)).map Rv.rc, (zs.take sn).map Rv.rc, last, en, bl1.length⟩ ∧ bl1 = items1.flatMap itB ∧ bl1.length ≤ i * 12400 + 12340 ∧ sn ≤ zs.length) := Lib.hid (by
            rw [hit1, hbl1, HTK.out]
            exact ⟨HR.out.2.1.ok, HR.out.2.1.st, HR.out.2.1.bytes, by have := HR.out.2.1.len; omega, HR.out.2.1.snl⟩)
          clear hit1 hbl1
          go_upto_region 15 with fail
          have HMV1 := Lib.hid (HM.out.below HW5.out)
          obtain ⟨mz, hmz⟩ : ∃ m, ms[i]? = some m := ⟨_, List.getElem?_eq_getElem (by have := HQ.out; omega)⟩
          obtain ⟨mb, moff, hma, hoa⟩ := HMV1.out (fun e => by rw [e] at hmz; simp at hmz)
          subst hma
          have m0 := hoa.2 i mz hmz
          obtain ⟨mm, hmm, hmm1, hmm2, hg1, hg2⟩ := turn3 mz last (HMI.out mz (List.mem_of_getElem? hmz)) hl1
          have hiq' : decide ((i : Int) < (q : Int)) = true := decide_eq_true (by omega)
          have HMM := Lib.hid hmm
          clear hmz hoa hmm
          go_upto_region 17 with fail
          rw [HMM.out]
          clear hg1 hg2
          go_wp2_with fail
          (with_reducible refine (mark_any ((mm : Nat) : Int) _).mono ?_)
          rintro e w6 ⟨b6, hC⟩
          rcases hC with ⟨hC, _⟩ | ⟨_, v6, rfl, o6⟩
          · exact absurd hC (by unfold epB inB; simp; omega)
          · obtain ⟨a6, c6, hv6⟩ := o6.shape
            subst hv6
            rw [Int.toNat_natCast] at o6 ⊢
            have HW6 := Lib.hid (below_then HW5.out b6)
            have HG2 := Lib.hid (bk_mark HG.out.1 HG.out.2.1 HG.out.2.2.1 (m := mm) (by omega) (by omega))
            have hpl : (packL 2 (fourL mm)).length = 14 := by rw [pack_len]; simp [fourL]
            rw [hpl]
            obtain ⟨pk, hpk⟩ : ∃ pk, pk = packL 2 (fourL mm) := ⟨_, rfl⟩
            rw [← hpk] at HG2
            have HO6 : Hid (BsO w6 w5.heap.size (.slice a6 14 c6) pk) := Lib.hid (by rw [hpk, ← hpl]; exact o6)
            have HP14 : Hid (pk.length = 14) := Lib.hid (by rw [hpk]; exact hpl)
            have HSRC := Lib.hid ((BsO.bsV HO6.out).src c6)
            rw [HP14.out] at HSRC
            have HOB := Lib.hid (HO5.out.below b6)
            have HLN : Hid (bl1.length + pk.length ≤ 4000000) := Lib.hid (by have := HG.out.2.2.2.1; have := HP14.out; omega)
            clear b6 o6 hpk hpl m0
            go_upto_region 21 with (first | (at_builtin; refine wpList_appX _ rfl (.tmp 91) (.tmp 92) 22 rfl w.heap.size _ _ rfl HOB.out (.slice a6 14 c6) 14 pk rfl HP14.out HSRC.out HLN.out HW6.out.size ?_; rintro v7 w7 ⟨o7, b7, _, _⟩; have H7 := Lib.hid (And.intro o7 b7); clear o7 b7) | fail)
            obtain ⟨ba2, bc2, hv7⟩ := H7.out.1.shape
            subst hv7
            obtain ⟨bl2, hbl2⟩ : ∃ b, b = bl1 ++ pk := ⟨_, rfl⟩
            have HW7 : Hid (Below w.heap.size w w7) := Lib.hid (HW6.out.trans H7.out.2)
            have HO7 : Hid (BsO w7 w.heap.size (.slice ba2 bl2.length bc2) bl2) := Lib.hid (by rw [hbl2]; exact H7.out.1)
            have hlen9 : (bl1 ++ pk).length = bl2.length := by rw [hbl2]
            rw [hlen9]
            obtain ⟨sn2, hsn2⟩ : ∃ s, s = min (i + 1) n := ⟨_, rfl⟩
            have hmin : min ((i : Int) + 1) (n : Int) = (sn2 : Int) := by omega
            have HBK : Hid (BkI zs (items1 ++ [It.mk mm]) (i + 1) sn2 (mm : Int) bl2.length bl2) := Lib.hid (by
              have htk : zs.take sn2 = zs.take (i + 1) := by
                rw [hsn2]
                by_cases h : i + 1 ≤ n
                · rw [Nat.min_eq_left h]
                · rw [Nat.min_eq_right (by omega), HN.out, List.take_length, List.take_of_length_le (by have := HN.out; omega)]
              rw [hbl2]
              refine ⟨HG2.out.1, by rw [htk]; exact HG2.out.2.1, HG2.out.2.2.1, by have := HN.out; omega, by have := HG2.out.2.2.2; have := HG.out.2.2.2.1; omega, by omega, by omega⟩)
            obtain ⟨bn2, hbn2⟩ : ∃ b, b = bl2.length := ⟨_, rfl⟩
            rw [← hbn2] at HO7 HBK
            rw [← hbn2]
            have HBN2 := Lib.hid hbn2
            clear hbl2 hlen9 hbn2 H7 hsn2
            go_wp2_with fail
            exact ⟨⟨ba2, bn2, bc2, items1 ++ [It.mk mm], i + 1, sn2, (mm : Int), bn2, bl2, rfl, rfl, rfl, by first | rfl | (show Value.int .i64 _ = Value.int .i64 _; congr 1; omega), by go_num, by omega, by omega, by omega, Lib.hid ⟨HBN2.out, HBK.out, HO7.out, HW7.out⟩⟩, by simp [intOf]; omega⟩
        · have hiq0' : decide ((i : Int) < (q : Int)) = false := decide_eq_false (by omega)
          have hbn : bn = bl.length := HR.out.1
          have HRN := HR.out.2.1
          have hrun := bk_run HRN.ok HRN.bytes
          rw [HRN.st] at hrun
          have HRU := Lib.hid hrun
          have HSN : Hid (sn ≤ n) := Lib.hid (by have := HRN.snl; have := HN.out; omega)
          have hblen : bl.length ≤ 1000000 := by have := HRN.len; omega
          have HBV := Lib.hid (BsO.bsV HR.out.2.2.1)
          have hbc : bn ≤ bc := by
            rcases HR.out.2.2.1.2 with ⟨h1, h2⟩ | ⟨gg, cp, cur, h1, _, _, h4, _⟩
            · injection h1 with e1 e2 e3; omega
            · injection h1 with e1 e2 e3; omega
          have HBN := Lib.hid hbn
          have HWR := Lib.hid HR.out.2.2.2
          clear hrun HRN hbn
          go_upto_region 22 with fail
          go_wp2_with fail
          (with_reducible refine (recover_at ba bc bn bl _ HBN.out HBV.out hbc hblen).mono ?_)
          rintro e w2 ⟨v2, rs, rfl, o2, k2, m2, b2⟩
          obtain ⟨a2, c2, hv2, hz2⟩ := o2.shape
          subst hv2
          rw [HRU.out] at m2
          rw [HRU.out]
          have HZ2 := Lib.hid (hz2 k2)
          have HM2 := Lib.hid m2
          have HW2 := Lib.hid (below_then HWR.out b2)
          have HSU : Hid (snAll (zs.take sn) = (⟨(zs.take i).map Rv.rc, (zs.take sn).map Rv.rc, last, en, bl.length⟩ : Lg).sure) := Lib.hid rfl
          obtain ⟨rn, hrn⟩ : ∃ rn, rn = rs.length := ⟨_, rfl⟩
          rw [← hrn]
          have HRL := Lib.hid hrn
          have hrs : rn ≤ sn := by
            have h1 := bk_len HM2.out HSU.out
            rw [List.length_take] at h1
            omega
          have hsn12 : sn ≤ 12 := by have := HSN.out; omega
          have tl : ((last : Int) != last) = false := by simp
          have te : ((en : Int) != (en : Int)) = false := by simp
          clear o2 k2 m2 b2 hz2 hrn
          go_wp2_with fail
          clear tl te
          go_loopw [18, 19, 20] (fun vi _ _ wr => ∃ i2 : Nat, i2 ≤ sn ∧ vi = .int .i64 i2 ∧ Hid (Below w2.heap.size w2 wr)) (fun vi _ _ _ => sn - (intOf vi).toNat)
          case atStart => exact ⟨0, by omega, rfl, Lib.hid (Below.refl _ _)⟩
          case round =>
            obtain ⟨i2, hi2, rfl, HBR⟩ := hrel
            by_cases hlt : i2 < sn
            · obtain ⟨x, hx⟩ : ∃ x, zs[i2]? = some x := ⟨_, List.getElem?_eq_getElem (by have := HSN.out; have := HN.out; omega)⟩
              have HFN : Hid (fndB last x.stamp rs = true) := Lib.hid (bk_found HM2.out HSU.out (List.mem_of_getElem? (show (zs.take sn)[i2]? = some x by rw [List.getElem?_take, if_pos hlt]; exact hx)))
              obtain ⟨rb, roff, hra, hrb, hat⟩ := HZ.out (fun e => by rw [e] at hx; simp at hx)
              obtain ⟨hxo, g0, _⟩ := hat i2 x hx
              have HG0 : Hid (∀ u, Below w.heap.size w u → u.cell? ⟨rb, roff + i2 * 2, none⟩ = some (.int .u64 x.stamp)) := Lib.hid (fun u hu => below_cell hu _ hrb g0)
              subst hra
              have HWB := Lib.hid (below_then HW2.out HBR.out)
              have c0 := HG0.out _ HWB.out
              have hxs := hxo.1
              obtain ⟨dv, hdv⟩ : ∃ dv : Nat, x.stamp / 2147483648 = dv := ⟨_, rfl⟩
              have e1 : (x.stamp : Int) / 2147483648 = (dv : Int) := by omega
              obtain ⟨f0, hf0⟩ : ∃ f, fndB last x.stamp [] = f := ⟨_, rfl⟩
              have tf : decide (last < (dv : Int)) = f0 := by rw [← hf0, ← hdv]; unfold fndB; simp
              have HF0 := Lib.hid hf0
              have hi2n : (i2 : Int) < (n : Int) := by have := HSN.out; omega
              obtain ⟨wo, hwo⟩ : ∃ wo : World, wo = wr := ⟨_, rfl⟩
              subst hwo
              clear hx hat hxo hdv hf0 hrb
              go_wp2_with fail
              clear e1 tf c0 hxs
              go_loopw [19, 20] (fun vf vk wr => ∃ (k : Nat) (fb : Bool), k ≤ rn ∧ vf = .bool fb ∧ vk = .int .i64 k ∧ Hid (fndB last x.stamp (rs.take k) = fb ∧ Below w2.heap.size w2 wr)) (fun _ vk _ => rn - (intOf vk).toNat)
              case atStart => exact ⟨0, f0, by omega, rfl, rfl, Lib.hid ⟨HF0.out, HBR.out⟩⟩
              case round =>
                obtain ⟨k, fb, hk, rfl, rfl, HK⟩ := hrel
                by_cases hlk : k < rn
                · obtain ⟨y, hy⟩ : ∃ y, rs[k]? = some y := ⟨_, List.getElem?_eq_getElem (by have := HRL.out; omega)⟩
                  obtain ⟨yb, yoff, hya, hyt⟩ := (HZ2.out.below HK.out.2) (fun e => by rw [e] at hy; simp at hy)
                  obtain ⟨_, d0, _⟩ := hyt.cells k y hy
                  have c0 := HG0.out _ (below_then HW2.out HK.out.2)
                  obtain ⟨r, hr⟩ : ∃ r, (y.stamp == x.stamp) = r := ⟨_, rfl⟩
                  have tr : ((y.stamp : Int) == (x.stamp : Int)) = r := by rw [beq_cast']; exact hr
                  have HNX : Hid (fndB last x.stamp (rs.take (k + 1)) = (fb || r)) := Lib.hid (by rw [List.take_add_one, hy]; exact (fndB_snoc _ _ _ _).trans (by rw [HK.out.1, hr]))
                  subst hya
                  have hkz : (k : Int) < (rn : Int) := by omega
                  clear hy hyt hr
                  cases fb
                  · go_wp2_with fail
                    go_quiet (fail)
                    go_wp2_with fail
                    exact ⟨⟨k + 1, r, by omega, rfl, by go_num, Lib.hid ⟨HNX.out, below_drewB HK.out.2 _⟩⟩, by simp [intOf]; omega⟩
                  · go_wp2_with fail
                    go_quiet (fail)
                    go_wp2_with fail
                    exact ⟨⟨k + 1, true, by omega, rfl, by go_num, Lib.hid ⟨HNX.out, below_drewB HK.out.2 _⟩⟩, by simp [intOf]; omega⟩
                · have hfb : fb = true := by
                    have h1 := HK.out.1
                    rw [List.take_of_length_le (by have := HRL.out; omega)] at h1
                    rw [← h1]; exact HFN.out
                  subst hfb
                  go_wp2_with fail
                  exact ⟨⟨i2 + 1, by omega, by go_num, Lib.hid HK.out.2⟩, by simp [intOf]; omega⟩
            · obtain rfl : i2 = sn := by omega
              obtain ⟨wo, hwo⟩ : ∃ wo : World, wo = wr := ⟨_, rfl⟩
              subst hwo
              go_wp2_with fail
              go_loopw [21] (fun vi wr => ∃ i4 : Nat, i4 ≤ rn ∧ vi = .int .i64 i4 ∧ Hid (Below w2.heap.size w2 wr)) (fun vi _ => rn - (intOf vi).toNat)
              case atStart => exact ⟨0, by omega, rfl, HBR⟩
              case round =>
                obtain ⟨i4, hi4, rfl, HB4⟩ := hrel
                by_cases hl4 : i4 < rn
                · obtain ⟨y, hy⟩ : ∃ y, rs[i4]? = some y := ⟨_, List.getElem?_eq_getElem (by have := HRL.out; omega)⟩
                  obtain ⟨hy1, hy2⟩ := bk_out HM2.out hy
                  obtain ⟨yb, yoff, hya, hyt⟩ := (HZ2.out.below HB4.out) (fun e => by rw [e] at hy; simp at hy)
                  obtain ⟨hyo, d0, _⟩ := hyt.cells i4 y hy
                  have hys := hyo.stamp
                  obtain ⟨dv, hdv⟩ : ∃ dv : Nat, y.stamp / 2147483648 = dv := ⟨_, rfl⟩
                  rw [hdv] at hy1
                  have hy1' : (dv : Int) ≤ last := hy1
                  have e1 : (y.stamp : Int) / 2147483648 = (dv : Int) := by omega
                  have t1 : decide (last < (dv : Int)) = false := decide_eq_false (by omega)
                  have hz4 : (i4 : Int) < (rn : Int) := by omega
                  by_cases h0 : 0 < i4
                  · obtain ⟨p, hp⟩ : ∃ p, p + 1 = i4 := ⟨i4 - 1, by omega⟩
                    obtain ⟨z, hz⟩ : ∃ z, rs[p]? = some z := ⟨_, List.getElem?_eq_getElem (by have := HRL.out; omega)⟩
                    obtain ⟨_, d2, _⟩ := hyt.cells p z hz
                    have hzy := hy2 z p (by omega) hz
                    have t2 : decide ((0 : Int) < (i4 : Int)) = true := decide_eq_true (by omega)
                    have w1' : IntKind.i64.wrap ((i4 : Int) - 1) = (p : Int) := by rw [IntKind.wrap_i64]; omega
                    have t3 : decide ((y.stamp : Int) ≤ (z.stamp : Int)) = false := decide_eq_false (by omega)
                    have t3' : decide (y.stamp ≤ z.stamp) = false := decide_eq_false (by omega)
                    have hpz : (p : Int) < (rn : Int) := by omega
                    subst hya
                    clear hy hyt hyo hdv hy1 hy2 hz hp hzy hy1'
                    go_wp2_with fail
                    go_quiet (fail)
                    go_wp2_with fail
                    exact ⟨⟨i4 + 1, by omega, by go_num, Lib.hid (below_drewB HB4.out _)⟩, by simp [intOf]; omega⟩
                  · have t2 : decide ((0 : Int) < (i4 : Int)) = false := decide_eq_false (by omega)
                    have t2' : decide (0 < i4) = false := decide_eq_false (by omega)
                    subst hya
                    clear hy hyt hyo hdv hy1 hy2 hy1'
                    go_wp2_with fail
                    go_quiet (fail)
                    go_wp2_with fail
                    exact ⟨⟨i4 + 1, by omega, by go_num, Lib.hid (below_drewB HB4.out _)⟩, by simp [intOf]; omega⟩
                · have t1 : decide ((rn : Int) ≤ (i2 : Int)) = true := decide_eq_true (by omega)
                  go_wp2_with fail
                  go_ret
                  exact ⟨rfl, below_then HW2.out HB4.out⟩
end Go.Proofs.Ytcghgnncmnoalaa
