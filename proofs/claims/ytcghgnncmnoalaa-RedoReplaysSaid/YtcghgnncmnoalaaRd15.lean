/- cobwebref14.Parse. Conditions: each contract's own premises. -/
import Derived.Test.YtcghgnncmnoalaaRd14
import Derived.StillTailTactics
namespace Go.Proofs.Ytcghgnncmnoalaa
open Go.RowKit Go.Maps

theorem rp_ret {u : World} {b2 : Nat} {tm : Array Value} {r0 r1 n c : Value} {Q : Ending → World → Prop} (h2 : tm[2]?.getD undef = .pointer (some ⟨b2, 0, none⟩)) (h3 : tm[3]?.getD undef = n) (h4 : tm[4]?.getD undef = c)
    (e2 : u.heap[b2]? = some (.cells #[r0, r1] 35)) (hQ : Q (.returned (.tuple #[.agg #[r0, r1], n, c])) u) : bodyPost Try.prog Try.f23 Q .ret { tmps := tm, defers := [] } u := by
  have c0 := cell_of_blk e2 0
  have c1 := cell_of_blk e2 1
  simp at c0 c1
  refine bodyPost_ret (v := .tuple #[.agg #[r0, r1], n, c]) ?_ rfl hQ
  simp [results, Try.results23, go_sem, h2, h3, h4, c0, c1]
theorem qb_err {w u : World} {b1 b2 : Nat} {x0 x1 r0 r1 : Value} (c : Int) {p : Psd} (hp : p = .err c) (h : QB w u b1 b2 x0 x1 r0 r1) :
    ParPost w p (.returned (.tuple #[.agg #[.int .u64 0, .slice none 0 0], .int .i64 0, .int .i64 c])) ((u.setCell ⟨b2, 0, none⟩ (.int .u64 0)).setCell ⟨b2, 1, none⟩ (.slice none 0 0)) := by
  subst hp
  exact ⟨(h.set2 _ _).bel, rfl⟩
set_option maxRecDepth 100000 in
set_option maxHeartbeats 2000000 in
theorem r14parse_any (k : UInt8) (a : Option Addr) (cap : Nat) (l : List UInt8) (w : World) (h : BsV w a l) (hcap : l.length ≤ cap) (ha : (a = none ∧ cap = 0) ∨ ∃ b off, a = some ⟨b, off, none⟩ ∧ b < w.heap.size) (hl : l.length ≤ 3000000) :
    Calls Try.prog 23 #[.agg #[bv k, .slice a l.length cap]] w (ParPost w (psB k l)) := by
  obtain ⟨kn, hkn⟩ : ∃ n, n = k.toNat := ⟨_, rfl⟩
  have hbv : bv k = .int .u8 (kn : Int) := by rw [hkn]; rfl
  rw [hbv]
  obtain ⟨p, hp⟩ : ∃ p, p = psB k l := ⟨_, rfl⟩
  rw [← hp]
  have HP := Lib.hid hp
  have HKN := Lib.hid hkn
  clear hkn hbv
  have hqb := qb_new w (.int .u8 (kn : Int)) (.slice a l.length cap)
  obtain ⟨V0, hV0⟩ : ∃ V, V = ((w.alloc (.cells #[.int .u8 (kn : Int), .slice a l.length cap] 43)).alloc (.cells #[.int .u64 0, .slice none 0 0] 35)) := ⟨_, rfl⟩
  rw [← hV0] at hqb
  obtain ⟨b2, hb2⟩ : ∃ b, b = w.heap.size + 1 := ⟨_, rfl⟩
  obtain ⟨b1, hb1⟩ : ∃ b, b = w.heap.size := ⟨_, rfl⟩
  rw [← hb2, ← hb1] at hqb
  have HQ0 := Lib.hid hqb
  have HV0 := Lib.hid hV0
  have HB1 := Lib.hid hb1
  have HB2 := Lib.hid hb2
  have HA := Lib.hid ha
  have HH := Lib.hid h
  have HCAP := Lib.hid hcap
  have HL2 := Lib.hid (Array.getElem?_eq_some_iff.1 hqb.e2).1
  clear hqb hV0 hb1 hb2 hp ha h hcap
  go_enter Try.func23, Try.ntmps23
  go_upto_region 1 with fail
  rw [← HV0.out, ← HB2.out, ← HB1.out]
  obtain ⟨V, hV⟩ : ∃ W, W = V0.alloc (.cells #[.slice a l.length cap, .bool false] 146) := ⟨_, rfl⟩
  obtain ⟨tb, htb⟩ : ∃ b, b = V0.heap.size := ⟨_, rfl⟩
  have hb2tb : b2 < tb := by rw [htb]; exact HL2.out
  have hqV : QB w V b1 b2 (.int .u8 (kn : Int)) (.slice a l.length cap) (.int .u64 0) (.slice none 0 0) := HQ0.out.below (by rw [hV]; exact below_box _ _)
  have hrd : TpS V tb w.heap.size l false := by
    refine ⟨a, cap, by rw [hV, htb]; exact heap_new _ _, HCAP.out, HH.out.below (hqV.bel.mono (Nat.le_refl _)), ?_⟩
    rcases HA.out with ha | ⟨b, off, e, hlt⟩
    · exact .inl ha
    · exact .inr ⟨b, off, e, by have := HQ0.out.lt; omega, hlt⟩
  obtain ⟨c10, c11, _⟩ := HQ0.out.cells
  have HV := Lib.hid hV
  have HTB := Lib.hid htb
  have HQV := Lib.hid hqV
  have HT := Lib.hid hrd
  have HLT : Hid (b2 < tb) := Lib.hid hb2tb
  clear hV htb hqV hrd hb2tb
  go_upto_region 2 with fail
  rw [← HTB.out, ← HV.out]
  clear c10 c11
  obtain ⟨d10, d11, d20, d21, f20, f21⟩ := HQV.out.cells
  by_cases hk2 : kn = 2
  · have HP1 : Hid (p = psM (nuN l 4)) := Lib.hid (by rw [HP.out, show k = 2 from UInt8.toNat_inj.1 (by rw [← HKN.out, hk2]; rfl)]; rfl)
    subst hk2
    go_wp2_with fail
    refine (tnum_any tb w.heap.size l false 4 _ HT.out hl (by omega)).mono ?_
    rintro e w1 ⟨hc, m, l1, bad1, rfl, hr, hm, hll, hor⟩
    have hq1 := HQV.out.chg hc HLT.out
    clear d10 d11 d20 d21 f20 f21 hc hll
    obtain ⟨a1, cap1, eR, _, _, _⟩ := hr.ex
    have g0 := cell_of_blk eR 0
    have g1 := cell_of_blk eR 1
    simp at g0 g1
    have hm4 : m < 4294967296 := hm
    obtain ⟨d10, d11, d20, d21, f20, f21⟩ := hq1.cells
    have HQ1 := Lib.hid hq1
    clear eR hr hq1 hm
    cases bad1
    · have ho : nuN l 4 = some (m, l1) := by
        rcases hor with ⟨_, h⟩ | ⟨h, _⟩
        · exact h
        · cases h
      have HP2 : Hid (p = if l1 ≠ [] ∨ 2147483647 < m then .err 10 else .mark m) := Lib.hid (by rw [HP1.out, ho]; rfl)
      clear hor ho
      by_cases hne : l1 = []
      · subst hne
        by_cases hbig : 2147483647 < m
        · have HN : Hid (p = .err 10) := Lib.hid (by rw [HP2.out, if_pos (.inr hbig)])
          have t1 : decide ((2147483647 : Int) < (m : Int)) = true := by simp; omega
          clear hbig HP2
          go_wp2_with fail
          exact rp_ret rfl rfl rfl (HQ1.out.set2 _ _).e2 (qb_err 10 HN.out HQ1.out)
        · have HN : Hid (p = .mark m) := Lib.hid (by rw [HP2.out, if_neg (by simp; omega)])
          have t1 : decide ((2147483647 : Int) < (m : Int)) = false := by simp; omega
          clear hbig HP2
          go_wp2_with fail
          refine rp_ret rfl rfl rfl (HQ1.out.set2 _ _).e2 ⟨(HQ1.out.set2 _ _).bel, ?_⟩
          rw [HN.out]
          rfl
      · have HN : Hid (p = .err 10) := Lib.hid (by rw [HP2.out, if_pos (.inl hne)])
        have t1 : decide ((0 : Int) < (l1.length : Int)) = true := by
          have := List.length_pos_iff.2 hne
          simp; omega
        have t2 : decide (0 < l1.length) = true := by simpa using List.length_pos_iff.2 hne
        clear HP2
        go_wp2_with fail
        exact rp_ret rfl rfl rfl (HQ1.out.set2 _ _).e2 (qb_err 10 HN.out HQ1.out)
    · have ho : nuN l 4 = none := by
        rcases hor with ⟨h, _⟩ | ⟨_, h⟩
        · cases h
        · exact h
      have HN : Hid (p = .err 10) := Lib.hid (by rw [HP1.out, ho]; rfl)
      clear hor ho
      go_wp2_with fail
      exact rp_ret rfl rfl rfl (HQ1.out.set2 _ _).e2 (qb_err 10 HN.out HQ1.out)
  · by_cases hk1 : kn = 1
    · have HP1 : Hid (p = psR (tkR l)) := Lib.hid (by rw [HP.out, show k = 1 from UInt8.toNat_inj.1 (by rw [← HKN.out, hk1]; rfl)]; rfl)
      subst hk1
      clear hk2
      go_wp2_with fail
      obtain ⟨R, hR⟩ : ∃ R, R = tkR l := ⟨_, rfl⟩
      rw [← hR] at HP1
      have hI0 : Inv R false (match nuN l 8 with | none => none | some (st, l) => tkR1 st l) := ⟨fun _ => hR, fun e => (by cases e)⟩
      clear hR
      refine (ttake_any tb w.heap.size l false 8 _ HT.out hl (by omega)).mono ?_
      rintro e w1 ⟨hc, sa, x, sc, l1, bad1, rfl, hv, hxc, hsrc, hr, hll, hor⟩
      have HI : Hid (Inv R bad1 (tkR1 (numL x) l1)) := Lib.hid (inv_step (fun o => match o with | none => none | some (st, l) => tkR1 st l) hI0 rfl (hor_num hor))
      have HQ1 := Lib.hid (HQV.out.chg hc HLT.out)
      have hx8 := hor_len hor
      have hl1 : l1.length ≤ 3000000 := by omega
      have HV1 := Lib.hid hv
      have HXC := Lib.hid hxc
      have HSRC := Lib.hid hsrc
      replace HT := Lib.hid hr
      clear hI0 hc hor hll hr hv hxc hsrc d10 d11 d20 d21 f20 f21
      obtain ⟨xn, hxn⟩ : ∃ n, n = x.length := ⟨_, rfl⟩
      rw [← hxn] at hx8 ⊢
      have HXN := Lib.hid hxn
      clear hxn
      go_upto_region 11 with fail
      obtain ⟨U, hU⟩ : ∃ U, U = w1.alloc (.cells #[.int .u64 0, .slice none 0 0] 35) := ⟨_, rfl⟩
      obtain ⟨ob, hob⟩ : ∃ b, b = w1.heap.size := ⟨_, rfl⟩
      obtain ⟨B, hB⟩ : ∃ b, b = U.heap.size := ⟨_, rfl⟩
      have zU : U.heap.size = w1.heap.size + 1 := by rw [hU]; simp
      have bU : Below w1.heap.size w1 U := by rw [hU]; exact below_box _ _
      have htl := HT.out.lt
      have HS : Hid (TrS w1 tb ob B (numL (x.take 0)) (.slice none 0 0) [] U) := Lib.hid ⟨Chg.of_below bU _, by rw [hU, hob]; exact heap_new _ _, RowK.Own.nil kW _ _, htl, by omega, by omega, by omega⟩
      replace HV1 := Lib.hid (HV1.out.below bU)
      replace HT := Lib.hid (HT.out.below bU)
      have HU := Lib.hid hU
      have HOB := Lib.hid hob
      have HDO : Hid (w.heap.size ≤ ob) := Lib.hid (by rw [hob]; exact HQ1.out.bel.size)
      have HTBO : Hid (tb < ob) := Lib.hid (by rw [hob]; exact htl)
      clear hU hob hB zU bU htl
      rw [← HU.out, ← HOB.out]
      clear HU HQV HV HV0 HQ0 HA HH HCAP HTB HL2
      go_wp2_with fail
      go_loopw [9] (fun i wr => ∃ j : Nat, j ≤ xn ∧ i = .int .i64 j ∧ Hid (TrS w1 tb ob B (numL (x.take j)) (.slice none 0 0) [] wr) ∧ Hid (TpS wr tb w.heap.size l1 bad1) ∧ Hid (BsV wr sa x)) (fun i _ => xn - (intOf i).toNat)
      case atStart => exact ⟨0, by omega, rfl, HS, HT, HV1⟩
      case round =>
        clear HS HT HV1
        obtain ⟨j, hj, rfl, HS, HT, HV1⟩ := hrel
        by_cases hlt : j < xn
        · have hjm : j < x.length := by rw [← HXN.out]; exact hlt
          have HSR : Hid (∃ so, sa = some so) := Lib.hid (by
            obtain ⟨sb, so, e, _⟩ := HV1.out (fun e => by rw [e] at hjm; simp at hjm)
            exact ⟨_, e⟩)
          obtain ⟨sb, so, he, hat⟩ := HV1.out (fun e => by rw [e] at hjm; simp at hjm)
          have c1 := hat.cells j x[j] (List.getElem?_eq_getElem hjm)
          unfold bv at c1
          have hlt2 := hat.lt
          have hsn := numL_snoc hjm
          have hs := numL_small (l := x) (k := j) (by omega) (by omega)
          have g0 := cell_of_blk HS.out.eo 0
          have fg0 := frozen_of_blk HS.out.eo 0
          simp at g0
          obtain ⟨s, hse⟩ : ∃ s, numL (x.take j) = s := ⟨_, rfl⟩
          have hy := x[j].toNat_lt
          obtain ⟨y, hye⟩ : ∃ y, x[j].toNat = y := ⟨_, rfl⟩
          rw [hye] at c1 hsn hy
          rw [hse] at hs hsn g0 HS
          have HSN := Lib.hid hsn
          have hw1 : IntKind.u64.wrap ((s : Int) * 256) = (s : Int) * 256 := by simp [IntKind.wrap, IntKind.bits, IntKind.signed]; omega
          have hw2 : IntKind.u64.wrap ((s : Int) * 256 + (y : Int)) = (s : Int) * 256 + (y : Int) := by simp [IntKind.wrap, IntKind.bits, IntKind.signed]; omega
          have hw3 : IntKind.u64.wrap (y : Int) = y := by simp [IntKind.wrap, IntKind.bits, IntKind.signed]; omega
          have lob := (Array.getElem?_eq_some_iff.1 HS.out.eo).1
          have HE := Lib.hid he
          clear hse hye hat hjm hsn
          subst he
          go_wp2_with fail
          refine wp_region_still_tail 10 (by kernel_rfl) (by kernel_rfl) ?_
          change wpStill _ _ (World.drew _) (fun a' => wpList _ _ _ _ a' (World.drew _)) _ _
          simp only [List.take_succ_cons, List.take_zero, List.drop_succ_cons, List.drop_zero]
          repeat still_step
          refine wpStill_nil ?_
          go_wp2_with fail
          have ec : ((s * 256 + y : Nat) : Int) = (s : Int) * 256 + (y : Int) := by simp
          have h1 := (HS.out.set0 (s * 256 + y)).drew
          rw [ec] at h1
          have hl1' := HTBO.out
          have hl2' := HDO.out
          have hd2 := (Below.refl (wr.setCell ⟨ob, 0, none⟩ (.int .u64 ((s : Int) * 256 + (y : Int)))).heap.size (wr.setCell ⟨ob, 0, none⟩ (.int .u64 ((s : Int) * 256 + (y : Int))))).drew
          exact ⟨⟨j + 1, by omega, by go_num, Lib.hid (by rw [HSN.out]; exact h1), Lib.hid ((HT.out.set (by omega) (by omega)).below hd2), Lib.hid ((bsv_set HV1.out HSRC.out (by omega)).below hd2)⟩, by simp [intOf]; omega⟩
        · obtain rfl : j = xn := by omega
          obtain ⟨st, hst⟩ : ∃ s, s = numL x := ⟨_, rfl⟩
          have hst2 : numL (x.take j) = st := by rw [hst, HXN.out, List.take_length]
          have HST : Hid (st < 18446744073709551616) := Lib.hid (by
            rw [← hst2]
            exact Nat.lt_of_lt_of_le (numL_take x j (by rw [← HXN.out]; exact Nat.le_refl _)) (Nat.le_trans (Nat.pow_le_pow_right (by omega) hx8) (by decide)))
          rw [hst2] at HS
          rw [← hst] at HI
          clear hst hst2 HV1 HSRC HXC
          replace HI : Hid (Inv R bad1 (match nuN l1 2 with | none => none | some (n, l) => tkR2 st n l)) := HI
          go_wp2_with fail
          refine (tnum_any tb w.heap.size l1 bad1 2 _ HT.out hl1 (by omega)).mono ?_
          rintro e w2 ⟨hc, n, l2, bad2, rfl, hr, hmn, hll, hor⟩
          replace HS := Lib.hid (HS.out.step hc)
          replace HT := Lib.hid hr
          have HI2 : Hid (Inv R bad2 (match tkWs n l2 [] with | none => none | some (ws, l) => some ((⟨st, ws⟩ : Rc), l))) := Lib.hid (inv_step (fun o => match o with | none => none | some (n, l) => tkR2 st n l) HI.out rfl hor)
          have hn16 : n < 65536 := hmn
          have hl2 : l2.length ≤ 3000000 := by omega
          clear hc hr hor hll hmn hx8 hl1 HI
          go_wp2_with fail
          go_loopw [11] (fun i wr => ∃ (j : Nat) (acc : List Wr) (lr : List UInt8) (v : Value) (bad : Bool), j ≤ n ∧ i = .int .i64 j ∧ acc.length = j ∧ lr.length ≤ 3000000 ∧ Hid (TrS w1 tb ob B st v acc wr) ∧ Hid (TpS wr tb w.heap.size lr bad) ∧ Hid (∀ x ∈ acc, x.Ok) ∧ Hid (Inv R bad (match tkWs (n - j) lr acc with | none => none | some (ws, l) => some ((⟨st, ws⟩ : Rc), l)))) (fun i _ => n - (intOf i).toNat)
          case atStart => exact ⟨0, [], l2, _, bad2, by omega, rfl, rfl, hl2, HS, HT, Lib.hid (fun x hx => by cases hx), HI2⟩
          case round =>
            clear HS HT HI2
            obtain ⟨j, acc, lr, v, bad, hj, rfl, hak, hlr, HS, HT, HOK, HI⟩ := hrel
            obtain ⟨l1', l2', l3', l4'⟩ := HS.out.lt
            have HAK := Lib.hid hak
            clear hak
            obtain ⟨ta, tc, eT, _, _, _⟩ := HT.out.ex
            have g0 := cell_of_blk eT 0
            have g1 := cell_of_blk eT 1
            simp at g0 g1
            clear eT
            cases bad
            · by_cases hlt2 : j < n
              · obtain ⟨q, hq⟩ : ∃ q, n - j = q + 1 := ⟨n - j - 1, by omega⟩
                have HQ : Hid (n - (j + 1) = q) := Lib.hid (by omega)
                rw [hq] at HI
                replace HI : Hid (Inv R false (match (match (match nuN lr 1 with | none => none | some (k, l) => tkW1 k l) with | none => none | some (x, l) => tkWs q l (acc ++ [x])) with | none => none | some (ws, l) => some ((⟨st, ws⟩ : Rc), l))) := HI
                clear hq
                have hdo := HDO.out
                go_upto_region 20 with fail
                obtain ⟨s0, hs0⟩ : ∃ s, s = wr.alloc (.cells #[.int .i64 0, .int .i64 0, .int .i64 0, .string ⟨#[]⟩, .string ⟨#[]⟩, .bool false] 80) := ⟨_, rfl⟩
                obtain ⟨wb, hwb⟩ : ∃ b, b = wr.heap.size := ⟨_, rfl⟩
                rw [← hs0, ← hwb]
                have EW : Hid (s0.heap[wb]? = some (.cells #[.int .i64 0, .int .i64 0, .int .i64 0, .string ⟨#[]⟩, .string ⟨#[]⟩, .bool false] 80)) := Lib.hid (by rw [hs0, hwb]; exact heap_new _ _)
                have HC0 : Hid (Chg wr s0 (· = tb)) := Lib.hid (by rw [hs0]; exact (Chg.refl _ _).alloc _)
                have hB0 : Below wr.heap.size wr s0 := by rw [hs0]; exact below_box _ _
                replace HT := Lib.hid (HT.out.below hB0)
                have hwbr : wr.heap.size ≤ wb := by rw [hwb]; exact Nat.le_refl _
                clear hs0 hwb g0 g1 hB0
                go_wp2_with fail
                refine (tnum_any tb w.heap.size lr false 1 _ HT.out (by omega) (by omega)).mono ?_
                rintro e y1 ⟨hc, kd, m1, bd1, rfl, hr, hmv, hll, hor⟩
                have HC := Lib.hid hc
                replace HC0 := Lib.hid (HC0.out.trans HC.out (fun i _ hi => hi))
                replace EW := Lib.hid ((HC.out.block _ (Array.getElem?_eq_some_iff.1 EW.out).1 (by omega)).trans EW.out)
                have HIN : Hid (Inv R bd1 (match (match (tkW1 kd m1) with | none => none | some (x, l) => tkWs q l (acc ++ [x])) with | none => none | some (ws, l) => some ((⟨st, ws⟩ : Rc), l))) := Lib.hid (inv_step (α := Nat) (o := nuN lr 1) (fun o => match (match (match o with | none => none | some (kd, l) => tkW1 kd l) with | none => none | some (x, l) => tkWs q l (acc ++ [x])) with | none => none | some (ws, l) => some ((⟨st, ws⟩ : Rc), l)) HI.out rfl hor)
                replace HI := HIN
                replace HT := Lib.hid hr
                have hkd : kd < 256 := hmv
                have hm1 : m1.length ≤ 3000000 := by omega
                clear HIN hc hr hor hll hmv HC
                have gw := cell_of_blk EW.out 0
                have fw := frozen_of_blk EW.out 0
                simp at gw
                have lw := (Array.getElem?_eq_some_iff.1 EW.out).1
                obtain ⟨t1, ht⟩ : ∃ t, t = y1.setCell ⟨wb, 0, none⟩ (.int .i64 (kd : Int)) := ⟨_, rfl⟩
                have eT : t1.heap[wb]? = some (.cells #[.int .i64 (kd : Int), .int .i64 0, .int .i64 0, .string ⟨#[]⟩, .string ⟨#[]⟩, .bool false] 80) := by rw [ht, setB EW.out]; rfl
                have cT : Chg wr t1 (· = tb) := by rw [ht]; exact HC0.out.setCell (fun h => absurd h (by show ¬ wb < _; omega)) _
                have dT : TpS t1 tb w.heap.size m1 bd1 := by rw [ht]; exact HT.out.set (by omega) (by omega)
                have HTT := Lib.hid ht
                replace EW := Lib.hid eT
                replace HC0 := Lib.hid cT
                replace HT := Lib.hid dT
                clear ht eT cT dT
                go_wp2_with fail
                rw [← HTT.out]
                clear gw fw lw HTT
                refine (tnum_any tb w.heap.size m1 bd1 5 _ HT.out (by omega) (by omega)).mono ?_
                rintro e y2 ⟨hc, ka, m2, bd2, rfl, hr, hmv, hll, hor⟩
                have HC := Lib.hid hc
                replace HC0 := Lib.hid (HC0.out.trans HC.out (fun i _ hi => hi))
                replace EW := Lib.hid ((HC.out.block _ (Array.getElem?_eq_some_iff.1 EW.out).1 (by omega)).trans EW.out)
                have HIN : Hid (Inv R bd2 (match (match (tkW2 kd ka m2) with | none => none | some (x, l) => tkWs q l (acc ++ [x])) with | none => none | some (ws, l) => some ((⟨st, ws⟩ : Rc), l))) := Lib.hid (inv_step (α := Nat) (o := nuN m1 5) (fun o => match (match (match o with | none => none | some (ka, l) => tkW2 kd ka l) with | none => none | some (x, l) => tkWs q l (acc ++ [x])) with | none => none | some (ws, l) => some ((⟨st, ws⟩ : Rc), l)) HI.out rfl hor)
                replace HI := HIN
                replace HT := Lib.hid hr
                have hka : ka < 1099511627776 := hmv
                have hm2 : m2.length ≤ 3000000 := by omega
                clear HIN hc hr hor hll hmv HC
                have gw := cell_of_blk EW.out 1
                have fw := frozen_of_blk EW.out 1
                simp at gw
                have lw := (Array.getElem?_eq_some_iff.1 EW.out).1
                obtain ⟨t2, ht⟩ : ∃ t, t = y2.setCell ⟨wb, 1, none⟩ (.int .i64 (ka : Int)) := ⟨_, rfl⟩
                have eT : t2.heap[wb]? = some (.cells #[.int .i64 (kd : Int), .int .i64 (ka : Int), .int .i64 0, .string ⟨#[]⟩, .string ⟨#[]⟩, .bool false] 80) := by rw [ht, setB EW.out]; rfl
                have cT : Chg wr t2 (· = tb) := by rw [ht]; exact HC0.out.setCell (fun h => absurd h (by show ¬ wb < _; omega)) _
                have dT : TpS t2 tb w.heap.size m2 bd2 := by rw [ht]; exact HT.out.set (by omega) (by omega)
                have HTT := Lib.hid ht
                replace EW := Lib.hid eT
                replace HC0 := Lib.hid cT
                replace HT := Lib.hid dT
                clear ht eT cT dT
                go_wp2_with fail
                rw [← HTT.out]
                clear gw fw lw HTT
                refine (tnum_any tb w.heap.size m2 bd2 5 _ HT.out (by omega) (by omega)).mono ?_
                rintro e y3 ⟨hc, kb, m3, bd3, rfl, hr, hmv, hll, hor⟩
                have HC := Lib.hid hc
                replace HC0 := Lib.hid (HC0.out.trans HC.out (fun i _ hi => hi))
                replace EW := Lib.hid ((HC.out.block _ (Array.getElem?_eq_some_iff.1 EW.out).1 (by omega)).trans EW.out)
                have HIN : Hid (Inv R bd3 (match (match (tkW3 kd ka kb m3) with | none => none | some (x, l) => tkWs q l (acc ++ [x])) with | none => none | some (ws, l) => some ((⟨st, ws⟩ : Rc), l))) := Lib.hid (inv_step (α := Nat) (o := nuN m2 5) (fun o => match (match (match o with | none => none | some (kb, l) => tkW3 kd ka kb l) with | none => none | some (x, l) => tkWs q l (acc ++ [x])) with | none => none | some (ws, l) => some ((⟨st, ws⟩ : Rc), l)) HI.out rfl hor)
                replace HI := HIN
                replace HT := Lib.hid hr
                have hkb : kb < 1099511627776 := hmv
                have hm3 : m3.length ≤ 3000000 := by omega
                clear HIN hc hr hor hll hmv HC
                have gw := cell_of_blk EW.out 2
                have fw := frozen_of_blk EW.out 2
                simp at gw
                have lw := (Array.getElem?_eq_some_iff.1 EW.out).1
                obtain ⟨t3, ht⟩ : ∃ t, t = y3.setCell ⟨wb, 2, none⟩ (.int .i64 (kb : Int)) := ⟨_, rfl⟩
                have eT : t3.heap[wb]? = some (.cells #[.int .i64 (kd : Int), .int .i64 (ka : Int), .int .i64 (kb : Int), .string ⟨#[]⟩, .string ⟨#[]⟩, .bool false] 80) := by rw [ht, setB EW.out]; rfl
                have cT : Chg wr t3 (· = tb) := by rw [ht]; exact HC0.out.setCell (fun h => absurd h (by show ¬ wb < _; omega)) _
                have dT : TpS t3 tb w.heap.size m3 bd3 := by rw [ht]; exact HT.out.set (by omega) (by omega)
                have HTT := Lib.hid ht
                replace EW := Lib.hid eT
                replace HC0 := Lib.hid cT
                replace HT := Lib.hid dT
                clear ht eT cT dT
                go_wp2_with fail
                rw [← HTT.out]
                clear gw fw lw HTT
                refine (tnum_any tb w.heap.size m3 bd3 2 _ HT.out (by omega) (by omega)).mono ?_
                rintro e y4 ⟨hc, sn, m4, bd4, rfl, hr, hmv, hll, hor⟩
                have HC := Lib.hid hc
                replace HC0 := Lib.hid (HC0.out.trans HC.out (fun i _ hi => hi))
                replace EW := Lib.hid ((HC.out.block _ (Array.getElem?_eq_some_iff.1 EW.out).1 (by omega)).trans EW.out)
                have HIN : Hid (Inv R bd4 (match (match (tkW4 kd ka kb sn m4) with | none => none | some (x, l) => tkWs q l (acc ++ [x])) with | none => none | some (ws, l) => some ((⟨st, ws⟩ : Rc), l))) := Lib.hid (inv_step (α := Nat) (o := nuN m3 2) (fun o => match (match (match o with | none => none | some (sn, l) => tkW4 kd ka kb sn l) with | none => none | some (x, l) => tkWs q l (acc ++ [x])) with | none => none | some (ws, l) => some ((⟨st, ws⟩ : Rc), l)) HI.out rfl hor)
                replace HI := HIN
                replace HT := Lib.hid hr
                have hsn : sn < 65536 := hmv
                have hm4 : m4.length ≤ 3000000 := by omega
                clear HIN hc hr hor hll hmv HC
                go_wp2_with fail
                refine (ttake_any tb w.heap.size m4 bd4 sn _ HT.out (by omega) (by omega)).mono ?_
                rintro e y5 ⟨hc, xa, xl, xc, m5, bd5, rfl, hv, hxc, hsrc, hr, hll, hor⟩
                have HC := Lib.hid hc
                replace HC0 := Lib.hid (HC0.out.trans HC.out (fun i _ hi => hi))
                replace EW := Lib.hid ((HC.out.block _ (Array.getElem?_eq_some_iff.1 EW.out).1 (by omega)).trans EW.out)
                have hcv := conv_any hv hxc hsrc
                have hsz : (⟨xl.toArray⟩ : ByteArray).size ≤ sn := hor_len hor
                have hio := hor_txt hor
                obtain ⟨ks, hks⟩ : ∃ s : ByteArray, s = ⟨xl.toArray⟩ := ⟨_, rfl⟩
                rw [← hks] at hcv hsz hio
                have HIN : Hid (Inv R bd5 (match (match (tkW5 kd ka kb ks m5) with | none => none | some (x, l) => tkWs q l (acc ++ [x])) with | none => none | some (ws, l) => some ((⟨st, ws⟩ : Rc), l))) := Lib.hid (inv_step (α := ByteArray) (o := txN m4 sn) (fun o => match (match (match o with | none => none | some (ks, l) => tkW5 kd ka kb ks l) with | none => none | some (x, l) => tkWs q l (acc ++ [x])) with | none => none | some (ws, l) => some ((⟨st, ws⟩ : Rc), l)) HI.out rfl hio)
                replace HI := HIN
                replace HT := Lib.hid hr
                have hm5 : m5.length ≤ 3000000 := by omega
                have HSks := Lib.hid hsz
                clear HIN hc hr hor hll hv hxc hsrc hio hsz HC hks
                obtain ⟨xn, hxn⟩ : ∃ n, n = xl.length := ⟨_, rfl⟩
                rw [← hxn] at hcv ⊢
                clear hxn
                have gw := cell_of_blk EW.out 3
                have fw := frozen_of_blk EW.out 3
                simp at gw
                have lw := (Array.getElem?_eq_some_iff.1 EW.out).1
                obtain ⟨t5, ht⟩ : ∃ t, t = y5.setCell ⟨wb, 3, none⟩ (.string ks) := ⟨_, rfl⟩
                have eT : t5.heap[wb]? = some (.cells #[.int .i64 (kd : Int), .int .i64 (ka : Int), .int .i64 (kb : Int), .string ks, .string ⟨#[]⟩, .bool false] 80) := by rw [ht, setB EW.out]; rfl
                have cT : Chg wr t5 (· = tb) := by rw [ht]; exact HC0.out.setCell (fun h => absurd h (by show ¬ wb < _; omega)) _
                have dT : TpS t5 tb w.heap.size m5 bd5 := by rw [ht]; exact HT.out.set (by omega) (by omega)
                have HTT := Lib.hid ht
                replace EW := Lib.hid eT
                replace HC0 := Lib.hid cT
                replace HT := Lib.hid dT
                clear ht eT cT dT
                go_wp2_with fail
                rw [← HTT.out]
                clear gw fw lw HTT
                clear hcv
                refine (tnum_any tb w.heap.size m5 bd5 1 _ HT.out (by omega) (by omega)).mono ?_
                rintro e y6 ⟨hc, hn, m6, bd6, rfl, hr, hmv, hll, hor⟩
                have HC := Lib.hid hc
                replace HC0 := Lib.hid (HC0.out.trans HC.out (fun i _ hi => hi))
                replace EW := Lib.hid ((HC.out.block _ (Array.getElem?_eq_some_iff.1 EW.out).1 (by omega)).trans EW.out)
                have HIN : Hid (Inv R bd6 (match (match (if 1 < hn then none else tkW6 kd ka kb ks hn m6) with | none => none | some (x, l) => tkWs q l (acc ++ [x])) with | none => none | some (ws, l) => some ((⟨st, ws⟩ : Rc), l))) := Lib.hid (inv_step (α := Nat) (o := nuN m5 1) (fun o => match (match (match o with | none => none | some (hn, l) => if 1 < hn then none else tkW6 kd ka kb ks hn l) with | none => none | some (x, l) => tkWs q l (acc ++ [x])) with | none => none | some (ws, l) => some ((⟨st, ws⟩ : Rc), l)) HI.out rfl hor)
                replace HI := HIN
                replace HT := Lib.hid hr
                have hhn : hn < 256 := hmv
                have hm6 : m6.length ≤ 3000000 := by omega
                clear HIN hc hr hor hll hmv HC
                obtain ⟨hh, hhb⟩ : ∃ h, (hn == 1) = h := ⟨_, rfl⟩
                have HHB := Lib.hid hhb
                have thh : ((hn : Int) == 1) = hh := by rw [← hhb]; exact beq_cast hn 1
                clear hhb
                obtain ⟨ta6, tc6, eT, _, _, _⟩ := HT.out.ex
                have g1 := cell_of_blk eT 1
                have fg1 := frozen_of_blk eT 1
                have ltb := (Array.getElem?_eq_some_iff.1 eT).1
                simp at g1
                clear eT
                have gw := cell_of_blk EW.out 5
                have fw := frozen_of_blk EW.out 5
                simp at gw
                have lw := (Array.getElem?_eq_some_iff.1 EW.out).1
                have htw : tb ≠ wb := by omega
                have htw2 : wb ≠ tb := by omega
                cases bd6
                · by_cases h1 : 1 < hn
                  · have t1 : decide ((1 : Int) < (hn : Int)) = true := by simp; omega
                    have HI7 : Hid (Inv R true (match (match (match nuN m6 2 with | none => none | some (vn, l) => tkW7 kd ka kb ks hn vn l) with | none => none | some (x, l) => tkWs q l (acc ++ [x])) with | none => none | some (ws, l) => some ((⟨st, ws⟩ : Rc), l))) := Lib.hid (inv_bad HI.out (.inr (by rw [if_pos h1])))
                    replace HI := HI7
                    clear HI7 h1
                    have e7 : ((y6.setCell ⟨tb, 1, none⟩ (.bool true)).setCell ⟨wb, 5, none⟩ (.bool hh)).heap[wb]? = some (.cells #[.int .i64 (kd : Int), .int .i64 (ka : Int), .int .i64 (kb : Int), .string ks, .string ⟨#[]⟩, .bool hh] 80) := by rw [setB ((set_other _ htw2).trans EW.out)]; rfl
                    obtain ⟨t7, ht⟩ : ∃ t, t = (y6.setCell ⟨tb, 1, none⟩ (.bool true)).setCell ⟨wb, 5, none⟩ (.bool hh) := ⟨_, rfl⟩
                    rw [← ht] at e7
                    have cT : Chg wr t7 (· = tb) := by rw [ht]; exact (HC0.out.setCell (fun _ => rfl) _).setCell (fun h => absurd h (by show ¬ wb < _; omega)) _
                    have dT : TpS t7 tb w.heap.size m6 true := by rw [ht]; exact (HT.out.mark true).set (by omega) (by omega)
                    have HTT := Lib.hid ht
                    replace EW := Lib.hid e7
                    replace HC0 := Lib.hid cT
                    replace HT := Lib.hid dT
                    clear ht e7 cT dT
                    go_wp2_with fail
                    rw [← HTT.out]
                    clear gw fw lw HTT thh g1 fg1 ltb
                    refine (tnum_any tb w.heap.size m6 true 2 _ HT.out (by omega) (by omega)).mono ?_
                    rintro e y8 ⟨hc, vn, m8, bd8, rfl, hr, hmv, hll, hor⟩
                    have HC := Lib.hid hc
                    replace HC0 := Lib.hid (HC0.out.trans HC.out (fun i _ hi => hi))
                    replace EW := Lib.hid ((HC.out.block _ (Array.getElem?_eq_some_iff.1 EW.out).1 (by omega)).trans EW.out)
                    have HIN : Hid (Inv R bd8 (match (match (tkW7 kd ka kb ks hn vn m8) with | none => none | some (x, l) => tkWs q l (acc ++ [x])) with | none => none | some (ws, l) => some ((⟨st, ws⟩ : Rc), l))) := Lib.hid (inv_step (α := Nat) (o := nuN m6 2) (fun o => match (match (match o with | none => none | some (vn, l) => tkW7 kd ka kb ks hn vn l) with | none => none | some (x, l) => tkWs q l (acc ++ [x])) with | none => none | some (ws, l) => some ((⟨st, ws⟩ : Rc), l)) HI.out rfl hor)
                    replace HI := HIN
                    replace HT := Lib.hid hr
                    have hvn : vn < 65536 := hmv
                    have hm8 : m8.length ≤ 3000000 := by omega
                    clear HIN hc hr hor hll hmv HC
                    go_wp2_with fail
                    refine (ttake_any tb w.heap.size m8 bd8 vn _ HT.out (by omega) (by omega)).mono ?_
                    rintro e y9 ⟨hc, xa, xl, xc, m9, bd9, rfl, hv, hxc, hsrc, hr, hll, hor⟩
                    have HC := Lib.hid hc
                    replace HC0 := Lib.hid (HC0.out.trans HC.out (fun i _ hi => hi))
                    replace EW := Lib.hid ((HC.out.block _ (Array.getElem?_eq_some_iff.1 EW.out).1 (by omega)).trans EW.out)
                    have hcv := conv_any hv hxc hsrc
                    have hsz : (⟨xl.toArray⟩ : ByteArray).size ≤ vn := hor_len hor
                    have hio := hor_txt hor
                    obtain ⟨val, hval⟩ : ∃ s : ByteArray, s = ⟨xl.toArray⟩ := ⟨_, rfl⟩
                    rw [← hval] at hcv hsz hio
                    have HIN : Hid (Inv R bd9 (match (match (some ((⟨⟨kd, ka, kb, ks⟩, val, hn == 1⟩ : Wr), m9)) with | none => none | some (x, l) => tkWs q l (acc ++ [x])) with | none => none | some (ws, l) => some ((⟨st, ws⟩ : Rc), l))) := Lib.hid (inv_step (α := ByteArray) (o := txN m8 vn) (fun o => match (match (match o with | none => none | some (val, l) => some ((⟨⟨kd, ka, kb, ks⟩, val, hn == 1⟩ : Wr), l)) with | none => none | some (x, l) => tkWs q l (acc ++ [x])) with | none => none | some (ws, l) => some ((⟨st, ws⟩ : Rc), l)) HI.out rfl hio)
                    replace HI := HIN
                    replace HT := Lib.hid hr
                    have hm9 : m9.length ≤ 3000000 := by omega
                    have HSval := Lib.hid hsz
                    clear HIN hc hr hor hll hv hxc hsrc hio hsz HC hval
                    obtain ⟨xn, hxn⟩ : ∃ n, n = xl.length := ⟨_, rfl⟩
                    rw [← hxn] at hcv ⊢
                    clear hxn
                    rw [HHB.out] at HI
                    replace HI : Hid (Inv R bd9 (match tkWs q m9 (acc ++ [(⟨⟨kd, ka, kb, ks⟩, val, hh⟩ : Wr)]) with | none => none | some (ws, l) => some ((⟨st, ws⟩ : Rc), l))) := HI
                    have fw4 := frozen_of_blk EW.out 4
                    have d4 := cell_of_blk EW.out 4
                    simp at d4
                    obtain ⟨u, hu⟩ : ∃ u, u = y9.setCell ⟨wb, 4, none⟩ (.string val) := ⟨_, rfl⟩
                    have eU : u.heap[wb]? = some (.cells #[.int .i64 (kd : Int), .int .i64 (ka : Int), .int .i64 (kb : Int), .string ks, .string val, .bool hh] 80) := by rw [hu, setB EW.out]; rfl
                    have cU : Chg wr u (· = tb) := by rw [hu]; exact HC0.out.setCell (fun h => absurd h (by show ¬ wb < _; omega)) _
                    have dU : TpS u tb w.heap.size m9 bd9 := by rw [hu]; exact HT.out.set (by omega) (by omega)
                    have HU := Lib.hid hu
                    have EU := Lib.hid eU
                    have CU := Lib.hid cU
                    have DU := Lib.hid dU
                    have lU := (Array.getElem?_eq_some_iff.1 eU).1
                    clear hu eU cU dU HT EW HC0
                    have SU := Lib.hid (HS.out.step CU.out)
                    obtain ⟨va, vc, hv⟩ := SU.out.own.shape
                    have HV0 := Lib.hid hv
                    subst hv
                    have a0 := cell_of_blk EU.out 0
                    have a1 := cell_of_blk EU.out 1
                    have a2 := cell_of_blk EU.out 2
                    have a3 := cell_of_blk EU.out 3
                    have a4 := cell_of_blk EU.out 4
                    have a5 := cell_of_blk EU.out 5
                    have b0 := cell_of_blk SU.out.eo 0
                    have b1 := cell_of_blk SU.out.eo 1
                    simp at a0 a1 a2 a3 a4 a5 b0 b1
                    go_upto_region 28 with fail
                    rw [← HU.out]
                    clear fw4 d4 hcv
                    have XV : Hid (kW.V (u.alloc (.cells #[.int .i64 (kd : Int), .int .i64 (ka : Int), .int .i64 (kb : Int), .string ks, .string val, .bool hh] 80)) (some ⟨u.heap.size, 0, none⟩) [(⟨⟨kd, ka, kb, ks⟩, val, hh⟩ : Wr)]) := Lib.hid (fun _ => ⟨_, 0, rfl, RowK.new_at (heap_new u _) rfl⟩)
                    have BX := Lib.hid (below_box u (.cells #[.int .i64 (kd : Int), .int .i64 (ka : Int), .int .i64 (kb : Int), .string ks, .string val, .bool hh] 80))
                    have lB := SU.out.lt.2.2.2
                    go_wp2_with (at_builtin; refine RowK.wpList_app (k := kW) (B := B) (v := .slice va acc.length vc) (l := acc) rfl (.tmp 122) (.tmp 124) rfl rfl (SU.out.own.alloc _) (some ⟨u.heap.size, 0, none⟩) 1 [(⟨⟨kd, ka, kb, ks⟩, val, hh⟩ : Wr)] 1 rfl rfl XV.out (fun e => by cases e) (by rw [HAK.out]; simp; omega) (by simp; omega) ?_; rintro v9 w9 ⟨o9, g9, k9⟩; obtain ⟨va9, vc9, hv9⟩ := o9.shape; subst hv9; have hg9 : ∀ i, i < u.heap.size → (Value.slice va acc.length vc).ownBlock ≠ some i → w9.heap[i]? = u.heap[i]? := (fun i hi hn => (g9.block i (by simp; omega) (fun e => hn e.symm)).trans (Below.heap_alloc _ _ _ hi)); have hOB : Hid (w9.heap[ob]? = some (.cells #[.int .u64 (st : Int), .slice va acc.length vc] 35)) := Lib.hid ((hg9 ob (by omega) (fun e => by have := (SU.out.own.lt _ e).1; omega)).trans SU.out.eo); have HG9 := Lib.hid hg9; have HS9 := Lib.hid g9; have O9 := Lib.hid o9; have x0 := cell_of_blk hOB.out 0; have x1 := cell_of_blk hOB.out 1; have z0 := frozen_of_blk hOB.out 0; have z1 := frozen_of_blk hOB.out 1; simp at x0 x1; have lOB := (Array.getElem?_eq_some_iff.1 hOB.out).1; clear hg9 g9 k9 o9)
                    refine ⟨⟨j + 1, acc ++ [(⟨⟨kd, ka, kb, ks⟩, val, hh⟩ : Wr)], m9, .slice va9 (acc ++ [(⟨⟨kd, ka, kb, ks⟩, val, hh⟩ : Wr)]).length vc9, bd9, by omega, by go_num, by rw [List.length_append, HAK.out]; rfl, hm9, Lib.hid ?_, Lib.hid ?_, Lib.hid ?_, ?_⟩, by simp [intOf]; omega⟩
                    · have hl1 : (acc ++ [(⟨⟨kd, ka, kb, ks⟩, val, hh⟩ : Wr)]).length = acc.length + 1 := by simp
                      have hR9 := trs_next SU.out HG9.out HS9.out O9.out
                      rw [hl1] at hR9 ⊢
                      exact hR9
                    · exact tps_next (B := B) DU.out HG9.out (fun i e => (SU.out.own.lt i e).1) (by omega) (by omega) (by omega) lB
                    · intro x hx
                      rcases List.mem_append.1 hx with hx | hx
                      · exact HOK.out x hx
                      · rw [List.mem_singleton] at hx
                        subst hx
                        exact ⟨⟨show I64 (kd : Int) from ⟨by omega, by omega⟩, show I64 (ka : Int) from ⟨by omega, by omega⟩, show I64 (kb : Int) from ⟨by omega, by omega⟩, show ks.size ≤ maxLen by have := HSks.out; unfold maxLen; omega⟩, show val.size ≤ maxLen by have := HSval.out; unfold maxLen; omega⟩
                    · rw [HQ.out]; exact HI
                  · have t1 : decide ((1 : Int) < (hn : Int)) = false := by simp; omega
                    rw [if_neg h1] at HI
                    have HI7 : Hid (Inv R false (match (match (match nuN m6 2 with | none => none | some (vn, l) => tkW7 kd ka kb ks hn vn l) with | none => none | some (x, l) => tkWs q l (acc ++ [x])) with | none => none | some (ws, l) => some ((⟨st, ws⟩ : Rc), l))) := HI
                    replace HI := HI7
                    clear HI7 h1
                    have e7 : ((y6.setCell ⟨tb, 1, none⟩ (.bool false)).setCell ⟨wb, 5, none⟩ (.bool hh)).heap[wb]? = some (.cells #[.int .i64 (kd : Int), .int .i64 (ka : Int), .int .i64 (kb : Int), .string ks, .string ⟨#[]⟩, .bool hh] 80) := by rw [setB ((set_other _ htw2).trans EW.out)]; rfl
                    obtain ⟨t7, ht⟩ : ∃ t, t = (y6.setCell ⟨tb, 1, none⟩ (.bool false)).setCell ⟨wb, 5, none⟩ (.bool hh) := ⟨_, rfl⟩
                    rw [← ht] at e7
                    have cT : Chg wr t7 (· = tb) := by rw [ht]; exact (HC0.out.setCell (fun _ => rfl) _).setCell (fun h => absurd h (by show ¬ wb < _; omega)) _
                    have dT : TpS t7 tb w.heap.size m6 false := by rw [ht]; exact (HT.out.mark false).set (by omega) (by omega)
                    have HTT := Lib.hid ht
                    replace EW := Lib.hid e7
                    replace HC0 := Lib.hid cT
                    replace HT := Lib.hid dT
                    clear ht e7 cT dT
                    go_wp2_with fail
                    rw [← HTT.out]
                    clear gw fw lw HTT thh g1 fg1 ltb
                    refine (tnum_any tb w.heap.size m6 false 2 _ HT.out (by omega) (by omega)).mono ?_
                    rintro e y8 ⟨hc, vn, m8, bd8, rfl, hr, hmv, hll, hor⟩
                    have HC := Lib.hid hc
                    replace HC0 := Lib.hid (HC0.out.trans HC.out (fun i _ hi => hi))
                    replace EW := Lib.hid ((HC.out.block _ (Array.getElem?_eq_some_iff.1 EW.out).1 (by omega)).trans EW.out)
                    have HIN : Hid (Inv R bd8 (match (match (tkW7 kd ka kb ks hn vn m8) with | none => none | some (x, l) => tkWs q l (acc ++ [x])) with | none => none | some (ws, l) => some ((⟨st, ws⟩ : Rc), l))) := Lib.hid (inv_step (α := Nat) (o := nuN m6 2) (fun o => match (match (match o with | none => none | some (vn, l) => tkW7 kd ka kb ks hn vn l) with | none => none | some (x, l) => tkWs q l (acc ++ [x])) with | none => none | some (ws, l) => some ((⟨st, ws⟩ : Rc), l)) HI.out rfl hor)
                    replace HI := HIN
                    replace HT := Lib.hid hr
                    have hvn : vn < 65536 := hmv
                    have hm8 : m8.length ≤ 3000000 := by omega
                    clear HIN hc hr hor hll hmv HC
                    go_wp2_with fail
                    refine (ttake_any tb w.heap.size m8 bd8 vn _ HT.out (by omega) (by omega)).mono ?_
                    rintro e y9 ⟨hc, xa, xl, xc, m9, bd9, rfl, hv, hxc, hsrc, hr, hll, hor⟩
                    have HC := Lib.hid hc
                    replace HC0 := Lib.hid (HC0.out.trans HC.out (fun i _ hi => hi))
                    replace EW := Lib.hid ((HC.out.block _ (Array.getElem?_eq_some_iff.1 EW.out).1 (by omega)).trans EW.out)
                    have hcv := conv_any hv hxc hsrc
                    have hsz : (⟨xl.toArray⟩ : ByteArray).size ≤ vn := hor_len hor
                    have hio := hor_txt hor
                    obtain ⟨val, hval⟩ : ∃ s : ByteArray, s = ⟨xl.toArray⟩ := ⟨_, rfl⟩
                    rw [← hval] at hcv hsz hio
                    have HIN : Hid (Inv R bd9 (match (match (some ((⟨⟨kd, ka, kb, ks⟩, val, hn == 1⟩ : Wr), m9)) with | none => none | some (x, l) => tkWs q l (acc ++ [x])) with | none => none | some (ws, l) => some ((⟨st, ws⟩ : Rc), l))) := Lib.hid (inv_step (α := ByteArray) (o := txN m8 vn) (fun o => match (match (match o with | none => none | some (val, l) => some ((⟨⟨kd, ka, kb, ks⟩, val, hn == 1⟩ : Wr), l)) with | none => none | some (x, l) => tkWs q l (acc ++ [x])) with | none => none | some (ws, l) => some ((⟨st, ws⟩ : Rc), l)) HI.out rfl hio)
                    replace HI := HIN
                    replace HT := Lib.hid hr
                    have hm9 : m9.length ≤ 3000000 := by omega
                    have HSval := Lib.hid hsz
                    clear HIN hc hr hor hll hv hxc hsrc hio hsz HC hval
                    obtain ⟨xn, hxn⟩ : ∃ n, n = xl.length := ⟨_, rfl⟩
                    rw [← hxn] at hcv ⊢
                    clear hxn
                    rw [HHB.out] at HI
                    replace HI : Hid (Inv R bd9 (match tkWs q m9 (acc ++ [(⟨⟨kd, ka, kb, ks⟩, val, hh⟩ : Wr)]) with | none => none | some (ws, l) => some ((⟨st, ws⟩ : Rc), l))) := HI
                    have fw4 := frozen_of_blk EW.out 4
                    have d4 := cell_of_blk EW.out 4
                    simp at d4
                    obtain ⟨u, hu⟩ : ∃ u, u = y9.setCell ⟨wb, 4, none⟩ (.string val) := ⟨_, rfl⟩
                    have eU : u.heap[wb]? = some (.cells #[.int .i64 (kd : Int), .int .i64 (ka : Int), .int .i64 (kb : Int), .string ks, .string val, .bool hh] 80) := by rw [hu, setB EW.out]; rfl
                    have cU : Chg wr u (· = tb) := by rw [hu]; exact HC0.out.setCell (fun h => absurd h (by show ¬ wb < _; omega)) _
                    have dU : TpS u tb w.heap.size m9 bd9 := by rw [hu]; exact HT.out.set (by omega) (by omega)
                    have HU := Lib.hid hu
                    have EU := Lib.hid eU
                    have CU := Lib.hid cU
                    have DU := Lib.hid dU
                    have lU := (Array.getElem?_eq_some_iff.1 eU).1
                    clear hu eU cU dU HT EW HC0
                    have SU := Lib.hid (HS.out.step CU.out)
                    obtain ⟨va, vc, hv⟩ := SU.out.own.shape
                    have HV0 := Lib.hid hv
                    subst hv
                    have a0 := cell_of_blk EU.out 0
                    have a1 := cell_of_blk EU.out 1
                    have a2 := cell_of_blk EU.out 2
                    have a3 := cell_of_blk EU.out 3
                    have a4 := cell_of_blk EU.out 4
                    have a5 := cell_of_blk EU.out 5
                    have b0 := cell_of_blk SU.out.eo 0
                    have b1 := cell_of_blk SU.out.eo 1
                    simp at a0 a1 a2 a3 a4 a5 b0 b1
                    go_upto_region 28 with fail
                    rw [← HU.out]
                    clear fw4 d4 hcv
                    have XV : Hid (kW.V (u.alloc (.cells #[.int .i64 (kd : Int), .int .i64 (ka : Int), .int .i64 (kb : Int), .string ks, .string val, .bool hh] 80)) (some ⟨u.heap.size, 0, none⟩) [(⟨⟨kd, ka, kb, ks⟩, val, hh⟩ : Wr)]) := Lib.hid (fun _ => ⟨_, 0, rfl, RowK.new_at (heap_new u _) rfl⟩)
                    have BX := Lib.hid (below_box u (.cells #[.int .i64 (kd : Int), .int .i64 (ka : Int), .int .i64 (kb : Int), .string ks, .string val, .bool hh] 80))
                    have lB := SU.out.lt.2.2.2
                    go_wp2_with (at_builtin; refine RowK.wpList_app (k := kW) (B := B) (v := .slice va acc.length vc) (l := acc) rfl (.tmp 122) (.tmp 124) rfl rfl (SU.out.own.alloc _) (some ⟨u.heap.size, 0, none⟩) 1 [(⟨⟨kd, ka, kb, ks⟩, val, hh⟩ : Wr)] 1 rfl rfl XV.out (fun e => by cases e) (by rw [HAK.out]; simp; omega) (by simp; omega) ?_; rintro v9 w9 ⟨o9, g9, k9⟩; obtain ⟨va9, vc9, hv9⟩ := o9.shape; subst hv9; have hg9 : ∀ i, i < u.heap.size → (Value.slice va acc.length vc).ownBlock ≠ some i → w9.heap[i]? = u.heap[i]? := (fun i hi hn => (g9.block i (by simp; omega) (fun e => hn e.symm)).trans (Below.heap_alloc _ _ _ hi)); have hOB : Hid (w9.heap[ob]? = some (.cells #[.int .u64 (st : Int), .slice va acc.length vc] 35)) := Lib.hid ((hg9 ob (by omega) (fun e => by have := (SU.out.own.lt _ e).1; omega)).trans SU.out.eo); have HG9 := Lib.hid hg9; have HS9 := Lib.hid g9; have O9 := Lib.hid o9; have x0 := cell_of_blk hOB.out 0; have x1 := cell_of_blk hOB.out 1; have z0 := frozen_of_blk hOB.out 0; have z1 := frozen_of_blk hOB.out 1; simp at x0 x1; have lOB := (Array.getElem?_eq_some_iff.1 hOB.out).1; clear hg9 g9 k9 o9)
                    refine ⟨⟨j + 1, acc ++ [(⟨⟨kd, ka, kb, ks⟩, val, hh⟩ : Wr)], m9, .slice va9 (acc ++ [(⟨⟨kd, ka, kb, ks⟩, val, hh⟩ : Wr)]).length vc9, bd9, by omega, by go_num, by rw [List.length_append, HAK.out]; rfl, hm9, Lib.hid ?_, Lib.hid ?_, Lib.hid ?_, ?_⟩, by simp [intOf]; omega⟩
                    · have hl1 : (acc ++ [(⟨⟨kd, ka, kb, ks⟩, val, hh⟩ : Wr)]).length = acc.length + 1 := by simp
                      have hR9 := trs_next SU.out HG9.out HS9.out O9.out
                      rw [hl1] at hR9 ⊢
                      exact hR9
                    · exact tps_next (B := B) DU.out HG9.out (fun i e => (SU.out.own.lt i e).1) (by omega) (by omega) (by omega) lB
                    · intro x hx
                      rcases List.mem_append.1 hx with hx | hx
                      · exact HOK.out x hx
                      · rw [List.mem_singleton] at hx
                        subst hx
                        exact ⟨⟨show I64 (kd : Int) from ⟨by omega, by omega⟩, show I64 (ka : Int) from ⟨by omega, by omega⟩, show I64 (kb : Int) from ⟨by omega, by omega⟩, show ks.size ≤ maxLen by have := HSks.out; unfold maxLen; omega⟩, show val.size ≤ maxLen by have := HSval.out; unfold maxLen; omega⟩
                    · rw [HQ.out]; exact HI
                · have HI7 : Hid (Inv R true (match (match (match nuN m6 2 with | none => none | some (vn, l) => tkW7 kd ka kb ks hn vn l) with | none => none | some (x, l) => tkWs q l (acc ++ [x])) with | none => none | some (ws, l) => some ((⟨st, ws⟩ : Rc), l))) := Lib.hid (inv_bad HI.out (.inl rfl))
                  replace HI := HI7
                  clear HI7
                  have e7 : ((y6.setCell ⟨tb, 1, none⟩ (.bool true)).setCell ⟨wb, 5, none⟩ (.bool hh)).heap[wb]? = some (.cells #[.int .i64 (kd : Int), .int .i64 (ka : Int), .int .i64 (kb : Int), .string ks, .string ⟨#[]⟩, .bool hh] 80) := by rw [setB ((set_other _ htw2).trans EW.out)]; rfl
                  obtain ⟨t7, ht⟩ : ∃ t, t = (y6.setCell ⟨tb, 1, none⟩ (.bool true)).setCell ⟨wb, 5, none⟩ (.bool hh) := ⟨_, rfl⟩
                  rw [← ht] at e7
                  have cT : Chg wr t7 (· = tb) := by rw [ht]; exact (HC0.out.setCell (fun _ => rfl) _).setCell (fun h => absurd h (by show ¬ wb < _; omega)) _
                  have dT : TpS t7 tb w.heap.size m6 true := by rw [ht]; exact (HT.out.mark true).set (by omega) (by omega)
                  have HTT := Lib.hid ht
                  replace EW := Lib.hid e7
                  replace HC0 := Lib.hid cT
                  replace HT := Lib.hid dT
                  clear ht e7 cT dT
                  go_wp2_with fail
                  rw [← HTT.out]
                  clear gw fw lw HTT thh g1 fg1 ltb
                  refine (tnum_any tb w.heap.size m6 true 2 _ HT.out (by omega) (by omega)).mono ?_
                  rintro e y8 ⟨hc, vn, m8, bd8, rfl, hr, hmv, hll, hor⟩
                  have HC := Lib.hid hc
                  replace HC0 := Lib.hid (HC0.out.trans HC.out (fun i _ hi => hi))
                  replace EW := Lib.hid ((HC.out.block _ (Array.getElem?_eq_some_iff.1 EW.out).1 (by omega)).trans EW.out)
                  have HIN : Hid (Inv R bd8 (match (match (tkW7 kd ka kb ks hn vn m8) with | none => none | some (x, l) => tkWs q l (acc ++ [x])) with | none => none | some (ws, l) => some ((⟨st, ws⟩ : Rc), l))) := Lib.hid (inv_step (α := Nat) (o := nuN m6 2) (fun o => match (match (match o with | none => none | some (vn, l) => tkW7 kd ka kb ks hn vn l) with | none => none | some (x, l) => tkWs q l (acc ++ [x])) with | none => none | some (ws, l) => some ((⟨st, ws⟩ : Rc), l)) HI.out rfl hor)
                  replace HI := HIN
                  replace HT := Lib.hid hr
                  have hvn : vn < 65536 := hmv
                  have hm8 : m8.length ≤ 3000000 := by omega
                  clear HIN hc hr hor hll hmv HC
                  go_wp2_with fail
                  refine (ttake_any tb w.heap.size m8 bd8 vn _ HT.out (by omega) (by omega)).mono ?_
                  rintro e y9 ⟨hc, xa, xl, xc, m9, bd9, rfl, hv, hxc, hsrc, hr, hll, hor⟩
                  have HC := Lib.hid hc
                  replace HC0 := Lib.hid (HC0.out.trans HC.out (fun i _ hi => hi))
                  replace EW := Lib.hid ((HC.out.block _ (Array.getElem?_eq_some_iff.1 EW.out).1 (by omega)).trans EW.out)
                  have hcv := conv_any hv hxc hsrc
                  have hsz : (⟨xl.toArray⟩ : ByteArray).size ≤ vn := hor_len hor
                  have hio := hor_txt hor
                  obtain ⟨val, hval⟩ : ∃ s : ByteArray, s = ⟨xl.toArray⟩ := ⟨_, rfl⟩
                  rw [← hval] at hcv hsz hio
                  have HIN : Hid (Inv R bd9 (match (match (some ((⟨⟨kd, ka, kb, ks⟩, val, hn == 1⟩ : Wr), m9)) with | none => none | some (x, l) => tkWs q l (acc ++ [x])) with | none => none | some (ws, l) => some ((⟨st, ws⟩ : Rc), l))) := Lib.hid (inv_step (α := ByteArray) (o := txN m8 vn) (fun o => match (match (match o with | none => none | some (val, l) => some ((⟨⟨kd, ka, kb, ks⟩, val, hn == 1⟩ : Wr), l)) with | none => none | some (x, l) => tkWs q l (acc ++ [x])) with | none => none | some (ws, l) => some ((⟨st, ws⟩ : Rc), l)) HI.out rfl hio)
                  replace HI := HIN
                  replace HT := Lib.hid hr
                  have hm9 : m9.length ≤ 3000000 := by omega
                  have HSval := Lib.hid hsz
                  clear HIN hc hr hor hll hv hxc hsrc hio hsz HC hval
                  obtain ⟨xn, hxn⟩ : ∃ n, n = xl.length := ⟨_, rfl⟩
                  rw [← hxn] at hcv ⊢
                  clear hxn
                  rw [HHB.out] at HI
                  replace HI : Hid (Inv R bd9 (match tkWs q m9 (acc ++ [(⟨⟨kd, ka, kb, ks⟩, val, hh⟩ : Wr)]) with | none => none | some (ws, l) => some ((⟨st, ws⟩ : Rc), l))) := HI
                  have fw4 := frozen_of_blk EW.out 4
                  have d4 := cell_of_blk EW.out 4
                  simp at d4
                  obtain ⟨u, hu⟩ : ∃ u, u = y9.setCell ⟨wb, 4, none⟩ (.string val) := ⟨_, rfl⟩
                  have eU : u.heap[wb]? = some (.cells #[.int .i64 (kd : Int), .int .i64 (ka : Int), .int .i64 (kb : Int), .string ks, .string val, .bool hh] 80) := by rw [hu, setB EW.out]; rfl
                  have cU : Chg wr u (· = tb) := by rw [hu]; exact HC0.out.setCell (fun h => absurd h (by show ¬ wb < _; omega)) _
                  have dU : TpS u tb w.heap.size m9 bd9 := by rw [hu]; exact HT.out.set (by omega) (by omega)
                  have HU := Lib.hid hu
                  have EU := Lib.hid eU
                  have CU := Lib.hid cU
                  have DU := Lib.hid dU
                  have lU := (Array.getElem?_eq_some_iff.1 eU).1
                  clear hu eU cU dU HT EW HC0
                  have SU := Lib.hid (HS.out.step CU.out)
                  obtain ⟨va, vc, hv⟩ := SU.out.own.shape
                  have HV0 := Lib.hid hv
                  subst hv
                  have a0 := cell_of_blk EU.out 0
                  have a1 := cell_of_blk EU.out 1
                  have a2 := cell_of_blk EU.out 2
                  have a3 := cell_of_blk EU.out 3
                  have a4 := cell_of_blk EU.out 4
                  have a5 := cell_of_blk EU.out 5
                  have b0 := cell_of_blk SU.out.eo 0
                  have b1 := cell_of_blk SU.out.eo 1
                  simp at a0 a1 a2 a3 a4 a5 b0 b1
                  go_upto_region 28 with fail
                  rw [← HU.out]
                  clear fw4 d4 hcv
                  have XV : Hid (kW.V (u.alloc (.cells #[.int .i64 (kd : Int), .int .i64 (ka : Int), .int .i64 (kb : Int), .string ks, .string val, .bool hh] 80)) (some ⟨u.heap.size, 0, none⟩) [(⟨⟨kd, ka, kb, ks⟩, val, hh⟩ : Wr)]) := Lib.hid (fun _ => ⟨_, 0, rfl, RowK.new_at (heap_new u _) rfl⟩)
                  have BX := Lib.hid (below_box u (.cells #[.int .i64 (kd : Int), .int .i64 (ka : Int), .int .i64 (kb : Int), .string ks, .string val, .bool hh] 80))
                  have lB := SU.out.lt.2.2.2
                  go_wp2_with (at_builtin; refine RowK.wpList_app (k := kW) (B := B) (v := .slice va acc.length vc) (l := acc) rfl (.tmp 122) (.tmp 124) rfl rfl (SU.out.own.alloc _) (some ⟨u.heap.size, 0, none⟩) 1 [(⟨⟨kd, ka, kb, ks⟩, val, hh⟩ : Wr)] 1 rfl rfl XV.out (fun e => by cases e) (by rw [HAK.out]; simp; omega) (by simp; omega) ?_; rintro v9 w9 ⟨o9, g9, k9⟩; obtain ⟨va9, vc9, hv9⟩ := o9.shape; subst hv9; have hg9 : ∀ i, i < u.heap.size → (Value.slice va acc.length vc).ownBlock ≠ some i → w9.heap[i]? = u.heap[i]? := (fun i hi hn => (g9.block i (by simp; omega) (fun e => hn e.symm)).trans (Below.heap_alloc _ _ _ hi)); have hOB : Hid (w9.heap[ob]? = some (.cells #[.int .u64 (st : Int), .slice va acc.length vc] 35)) := Lib.hid ((hg9 ob (by omega) (fun e => by have := (SU.out.own.lt _ e).1; omega)).trans SU.out.eo); have HG9 := Lib.hid hg9; have HS9 := Lib.hid g9; have O9 := Lib.hid o9; have x0 := cell_of_blk hOB.out 0; have x1 := cell_of_blk hOB.out 1; have z0 := frozen_of_blk hOB.out 0; have z1 := frozen_of_blk hOB.out 1; simp at x0 x1; have lOB := (Array.getElem?_eq_some_iff.1 hOB.out).1; clear hg9 g9 k9 o9)
                  refine ⟨⟨j + 1, acc ++ [(⟨⟨kd, ka, kb, ks⟩, val, hh⟩ : Wr)], m9, .slice va9 (acc ++ [(⟨⟨kd, ka, kb, ks⟩, val, hh⟩ : Wr)]).length vc9, bd9, by omega, by go_num, by rw [List.length_append, HAK.out]; rfl, hm9, Lib.hid ?_, Lib.hid ?_, Lib.hid ?_, ?_⟩, by simp [intOf]; omega⟩
                  · have hl1 : (acc ++ [(⟨⟨kd, ka, kb, ks⟩, val, hh⟩ : Wr)]).length = acc.length + 1 := by simp
                    have hR9 := trs_next SU.out HG9.out HS9.out O9.out
                    rw [hl1] at hR9 ⊢
                    exact hR9
                  · exact tps_next (B := B) DU.out HG9.out (fun i e => (SU.out.own.lt i e).1) (by omega) (by omega) (by omega) lB
                  · intro x hx
                    rcases List.mem_append.1 hx with hx | hx
                    · exact HOK.out x hx
                    · rw [List.mem_singleton] at hx
                      subst hx
                      exact ⟨⟨show I64 (kd : Int) from ⟨by omega, by omega⟩, show I64 (ka : Int) from ⟨by omega, by omega⟩, show I64 (kb : Int) from ⟨by omega, by omega⟩, show ks.size ≤ maxLen by have := HSks.out; unfold maxLen; omega⟩, show val.size ≤ maxLen by have := HSval.out; unfold maxLen; omega⟩
                  · rw [HQ.out]; exact HI
              · obtain rfl : j = n := by omega
                obtain ⟨va, vc, hvv⟩ := HS.out.own.shape
                subst hvv
                have HR : Hid (R = some ((⟨st, acc⟩ : Rc), lr)) := Lib.hid (by rw [HI.out.1 rfl, Nat.sub_self]; rfl)
                have HP2 : Hid (p = if lr ≠ [] ∨ Rc.wrong ⟨st, acc⟩ = true then .err 10 else .rc ⟨st, acc⟩) := Lib.hid (by rw [HP1.out, HR.out]; rfl)
                have HQE := Lib.hid (HQ1.out.chg HS.out.chg HLT.out)
                obtain ⟨d10, d11, d20, d21, f20, f21⟩ := HQE.out.cells
                have e0 := cell_of_blk HS.out.eo 0
                have e1 := cell_of_blk HS.out.eo 1
                simp at e0 e1
                have hacc : acc.length ≤ 1000000 := by have := HAK.out; omega
                have HAC := Lib.hid hacc
                clear hacc
                by_cases hne : lr = []
                · subst hne
                  go_wp2_with fail
                  refine (r14right_any st va vc acc _ (ws_of_row HS.out.own.toV HOK.out) HST.out HAC.out).mono ?_
                  rintro e w3 ⟨rfl, hb3⟩
                  have HQ3 := Lib.hid (HQE.out.below hb3)
                  have HO3 := Lib.hid (HS.out.own.below hb3)
                  have e3 := (hb3.block _ (Array.getElem?_eq_some_iff.1 HS.out.eo).1).trans HS.out.eo
                  clear d10 d11 d20 d21 f20 f21 e0 e1 g0 g1 hb3
                  obtain ⟨d10, d11, d20, d21, f20, f21⟩ := HQ3.out.cells
                  have e0 := cell_of_blk e3 0
                  have e1 := cell_of_blk e3 1
                  simp at e0 e1
                  clear e3
                  rw [right_eq]
                  obtain ⟨q, hq⟩ : ∃ q, Rc.wrong ⟨st, acc⟩ = q := ⟨_, rfl⟩
                  rw [hq] at HP2 ⊢
                  clear hq
                  cases q
                  · have HN : Hid (p = .rc ⟨st, acc⟩) := Lib.hid (by rw [HP2.out]; simp)
                    clear HP2
                    go_wp2_with fail
                    refine rp_ret rfl rfl rfl (HQ3.out.set2 _ _).e2 ⟨(HQ3.out.set2 _ _).bel, ?_⟩
                    rw [HN.out]
                    have hlt9 := HLT.out
                    have hdo := HDO.out
                    exact ⟨_, rfl, (own_set (own_set HO3.out (by omega)) (by omega)).mono (by omega), HOK.out, HST.out, by show acc.length < 65536; rw [HAK.out]; omega⟩
                  · have HN : Hid (p = .err 10) := Lib.hid (by rw [HP2.out]; simp)
                    clear HP2
                    go_wp2_with fail
                    exact rp_ret rfl rfl rfl (HQ3.out.set2 _ _).e2 (qb_err 10 HN.out HQ3.out)
                · have HN : Hid (p = .err 10) := Lib.hid (by rw [HP2.out, if_pos (.inl hne)])
                  have t1 : decide ((0 : Int) < (lr.length : Int)) = true := by
                    have := List.length_pos_iff.2 hne
                    simp; omega
                  have t2 : decide (0 < lr.length) = true := by simpa using List.length_pos_iff.2 hne
                  clear HP2
                  go_wp2_with fail
                  exact rp_ret rfl rfl rfl (HQE.out.set2 _ _).e2 (qb_err 10 HN.out HQE.out)
            · have HN : Hid (p = .err 10) := Lib.hid (by rw [HP1.out, HI.out.2 rfl]; rfl)
              have HQE := Lib.hid (HQ1.out.chg HS.out.chg HLT.out)
              obtain ⟨d10, d11, d20, d21, f20, f21⟩ := HQE.out.cells
              by_cases hlt2 : j < n
              · go_wp2_with fail
                exact rp_ret rfl rfl rfl (HQE.out.set2 _ _).e2 (qb_err 10 HN.out HQE.out)
              · go_wp2_with fail
                exact rp_ret rfl rfl rfl (HQE.out.set2 _ _).e2 (qb_err 10 HN.out HQE.out)
    · have HN : Hid (p = .err 22) := Lib.hid (by
        rw [HP.out]; unfold psB
        rw [if_neg (fun e => hk1 (by rw [HKN.out, e]; rfl)), if_neg (fun e => hk2 (by rw [HKN.out, e]; rfl))])
      have t1 : ((kn : Int) == 1) = false := by simp; omega
      have t2 : ((kn : Int) == 2) = false := by simp; omega
      have t3 : ((kn : Int) != 1) = true := by simp; omega
      clear hk1 hk2
      go_wp2_with fail
      exact rp_ret rfl rfl rfl (HQV.out.set2 _ _).e2 (qb_err 22 HN.out HQV.out)
end Go.Proofs.Ytcghgnncmnoalaa
