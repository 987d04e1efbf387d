/- GraphFinds. Conditions: the law's own premises. -/
import Derived.Test.YtonilojjahfboaaGreatGfA
namespace Go.Proofs.YtonilojjahfboaaGreat
open Go.RowKit Go.Maps

set_option maxRecDepth 100000 in
set_option maxHeartbeats 16000000 in
theorem finds_any (a : Option Addr) (cap : Nat) (acts : List Ac) (lab key : ByteArray) (low high : Vl) (w : World) (hv : kAc.V w a acts) (hr : ∀ x ∈ acts, AcRaw w x) (hm : acts.length ≤ maxLen) :
    Calls Tryz.prog 11 #[.slice a acts.length cap, .agg #[.string lab, .string key, .int .i64 low.kind, .int .i64 low.n, .string low.s, .int .i64 high.kind, .int .i64 high.n, .string high.s]] w fun e w' => e = .returned (.bool true) ∧ Below w.heap.size w w' := by
  by_cases hbig : 50 < acts.length ∨ 300 < low.s.size ∨ 300 < high.s.size
  · exact finds_refused a cap acts.length lab key low high w hm hbig
  have h50 : ¬ 50 < acts.length := fun h => hbig (.inl h)
  have hlo : ¬ 300 < low.s.size := fun h => hbig (.inr (.inl h))
  have hhi : ¬ 300 < high.s.size := fun h => hbig (.inr (.inr h))
  clear hbig
  obtain ⟨W0, hW0⟩ : ∃ W, W = w.alloc (.cells #[.string lab, .string key, .int .i64 low.kind, .int .i64 low.n, .string low.s, .int .i64 high.kind, .int .i64 high.n, .string high.s] 129) := ⟨_, rfl⟩
  have hBW0 : Below w.heap.size w W0 := by rw [hW0]; exact below_box w _
  have hAB : AskB W0 w.heap.size lab key low high := by unfold AskB; rw [hW0]; exact heap_new w _
  obtain ⟨kb, hkb⟩ : ∃ k, k = w.heap.size := ⟨_, rfl⟩
  rw [← hkb] at hAB
  have HW0 := Lib.hid hW0
  have HBW0 := Lib.hid hBW0
  have HAB := Lib.hid hAB
  have HKB := Lib.hid hkb
  have HV := Lib.hid (hv.below hBW0)
  have HR := Lib.hid (fun x hx => (hr x hx).below hBW0)
  obtain ⟨na, hna⟩ : ∃ n, n = acts.length := ⟨_, rfl⟩
  have HN : Hid (na = acts.length ∧ na ≤ 50) := Lib.hid ⟨hna, by omega⟩
  have HLS : Hid (low.s.size ≤ 300 ∧ high.s.size ≤ 300) := Lib.hid (by omega)
  have t1 : decide (50 < na) = false := decide_eq_false (by omega)
  have t1' : decide ((50 : Int) < (na : Int)) = false := decide_eq_false (by omega)
  have t2 : decide (300 < low.s.size) = false := decide_eq_false hlo
  have t2' : decide ((300 : Int) < (low.s.size : Int)) = false := decide_eq_false (by omega)
  have t3 : decide (300 < high.s.size) = false := decide_eq_false hhi
  have t3' : decide ((300 : Int) < (high.s.size : Int)) = false := decide_eq_false (by omega)
  rw [← hna]
  clear hW0 hBW0 hAB hkb hv hr hm hna h50 hlo hhi
  go_enter Tryz.func11, Tryz.ntmps11
  go_upto_region 1 with fail
  rw [← HW0.out, ← HKB.out]
  go_upto_region 3 with (go_at_call 14; refine (awake16_any _).mono ?_; rintro e w1 ⟨rfl, hb1⟩; have HB1 := Lib.hid hb1; obtain ⟨x0, x1, x2, x3, x4, x5, x6, x7, xl⟩ := (HAB.out.below hb1).cells; clear hb1)
  clear x0 x1 x2 x3 x4 x5 x6 x7 xl t1 t1' t2 t2' t3 t3'
  go_wp2_with fail
  refine (gnew_any w1).mono ?_
  rintro e w2 ⟨rfl, hg2, hb2⟩
  obtain ⟨gb, hgb⟩ : ∃ g, g = w1.heap.size + 2 := ⟨_, rfl⟩
  rw [← hgb] at hg2 ⊢
  have HI0 : Hid (EnI W0 gb w1.heap.size (w1.heap.size + 1) 0 [] [] w2) := Lib.hid ⟨hg2, below_then HB1.out hb2, Nat.le_refl _, Nat.le_refl _, ⟨HB1.out.size, hg2.ltV⟩, ⟨by have := HB1.out.size; omega, hg2.ltE⟩⟩
  obtain ⟨vb, hvb⟩ : ∃ g, g = w1.heap.size := ⟨_, rfl⟩
  obtain ⟨eb, heb⟩ : ∃ g, g = w1.heap.size + 1 := ⟨_, rfl⟩
  rw [← heb, ← hvb] at HI0
  clear hg2 hb2 hgb hvb heb
  go_wp2_with fail
  go_loopw [6] (fun i wr => ∃ k : Nat, ∃ (V : List Vt) (E : List Eg), k ≤ na ∧ i = .int .i64 k ∧ Hid (EnI W0 gb vb eb k V E wr)) (fun i _ => na - (intOf i).toNat)
  case atStart => exact ⟨0, [], [], Nat.zero_le _, rfl, HI0⟩
  case round =>
    clear HI0
    obtain ⟨k, V, E, hk, rfl, HI⟩ := hrel
    have hn80 := HN.out.2
    by_cases hlt : k < na
    · obtain ⟨x, hx⟩ : ∃ x, acts[k]? = some x := ⟨_, List.getElem?_eq_getElem (by have := HN.out.1; omega)⟩
      obtain ⟨b, off, rfl, hat⟩ := (HV.out.below HI.out.bel) (fun e => by rw [e] at hx; simp at hx)
      have HATX : Hid (∀ u, Below wr.heap.size wr u → kAc.At u b off acts) := Lib.hid (fun u hu => hat.below hu)
      obtain ⟨c0, c1, c2, c3, c4, c5, c6, c7, c8, c9, c10, c11, c12⟩ := kAc_cells hat hx
      have hbl := hat.lt
      have HX := Lib.hid ((HR.out x (List.mem_of_getElem? hx)).below HI.out.bel)
      obtain ⟨sm, hsm⟩ : ∃ q, x.small = q := ⟨_, rfl⟩
      have hcs := small16_any x wr HX.out
      rw [hsm] at hcs
      have HCS := Lib.hid hcs
      have HSM := Lib.hid hsm
      have HXI := Lib.hid hx
      clear hcs hsm hx hat
      cases sm
      · go_wp2_with (go_at_call 16; refine HCS.out.mono ?_; rintro e w5 ⟨rfl, hb5⟩; have HB5 := Lib.hid hb5; clear hb5)
        go_ret
        exact ⟨rfl, below_then HBW0.out (HI.out.below HB5.out).bel⟩
      go_upto_region 9 with (go_at_call 16; refine HCS.out.mono ?_; rintro e w5 ⟨rfl, hb5⟩; have HB5 := Lib.hid hb5; clear hb5)
      obtain ⟨rb, hrb⟩ : ∃ b, b = w5.heap.size := ⟨_, rfl⟩
      obtain ⟨W5, hW5⟩ : ∃ W5, W5 = w5.alloc (.cells #[.slice none 0 0, .slice none 0 0] 39) := ⟨_, rfl⟩
      have hb55 : Below w5.heap.size w5 W5 := by rw [hW5]; exact below_box w5 _
      have hBW5 : Below wr.heap.size wr W5 := below_then HB5.out hb55
      have hr5 : RgL W5 rb (rb + 1) [] [] := ⟨⟨none, 0, none, 0, by rw [hW5, hrb]; exact heap_new w5 _, RowK.Own.nil kVr _ _, RowK.Own.nil kEr _ _⟩, (fun x hx => by cases hx), (fun x hx => by cases hx), by omega⟩
      have hi5 := HI.out.below hBW5
      have hz5 : rb + 1 ≤ W5.heap.size := by rw [hW5, hrb]; simp
      have hwr5 : wr.heap.size ≤ rb := by have := HB5.out.size; omega
      have hd := does16_nil gb vb eb rb V E x W5 hi5.g hr5 hz5 (by have := HI.out.vb.2; omega) (by have := HI.out.eb.2; omega) (HX.out.below hBW5) HSM.out (by have := HI.out.lv; omega) (by have := HI.out.le; omega)
      have HD := Lib.hid hd
      have HI5 := Lib.hid hi5
      have HW5 := Lib.hid hW5
      have HRB := Lib.hid hrb
      have HRZ : Hid (W0.heap.size ≤ rb) := Lib.hid (by have := HI.out.bel.size; omega)
      clear c0 c1 c2 c3 c4 c5 c6 c7 c8 c9 c10 c11 c12
      obtain ⟨c0, c1, c2, c3, c4, c5, c6, c7, c8, c9, c10, c11, c12⟩ := kAc_cells (HATX.out w5 HB5.out) HXI.out
      have hbl5 := (HATX.out w5 HB5.out).lt
      clear hd hi5 hr5 hz5 hwr5 hb55 hBW5
      go_wp2_with (first | (go_at_call 17; rw [← HW5.out, ← HRB.out]; refine HD.out.mono ?_; rintro e w6 ⟨⟨q6, rfl⟩, hg6, hc6⟩; have HG6 := Lib.hid hg6; have HC6 := Lib.hid hc6; clear hg6 hc6) | fail)
      obtain ⟨V2, hV2⟩ : ∃ v, v = (stepG V E x).1 := ⟨_, rfl⟩
      obtain ⟨E2, hE2⟩ : ∃ v, v = (stepG V E x).2 := ⟨_, rfl⟩
      have HI6 : Hid (EnI W0 gb vb eb (k + 1) V2 E2 w6) := Lib.hid (by
        obtain ⟨l1, l2⟩ := stepG_len V E x
        have h5 := HI5.out
        refine ⟨by rw [hV2, hE2]; exact HG6.out, h5.bel.trans (HC6.out.below h5.bel.size ?_), by rw [hV2]; have := h5.lv; omega, by rw [hE2]; have := h5.le; omega, ⟨h5.vb.1, Nat.lt_of_lt_of_le h5.vb.2 HC6.out.size⟩, ⟨h5.eb.1, Nat.lt_of_lt_of_le h5.eb.2 HC6.out.size⟩⟩
        rintro q (e | e | e)
        · rw [e]; exact h5.vb.1
        · rw [e]; exact h5.eb.1
        · rw [e]; exact HRZ.out)
      exact ⟨⟨k + 1, V2, E2, by omega, by go_num, HI6⟩, by simp [intOf]; omega⟩
    · have hk0 : k ≤ 50 := by omega
      have HKE : Hid (k ≤ 50) := Lib.hid hk0
      obtain ⟨wo, rfl⟩ : ∃ wo : World, wo = wr := ⟨_, rfl⟩
      clear hk0
      go_upto_region 10 with fail
      clear hlt hk hn80
      go_wp2_with fail
      refine (gall_any gb vb eb V E wo HI.out.g (by have := HI.out.lv; have := HKE.out; omega) (by have := HI.out.le; have := HKE.out; omega)).mono ?_
      rintro e wA ⟨v1, v2, VL, EL, rfl, hr1, hr2, hvl, hel, hbA⟩
      obtain ⟨va, vc, rfl⟩ := hr1.o.shape
      obtain ⟨ea, ec, rfl⟩ := hr2.o.shape
      go_upto_region 11 with fail
      obtain ⟨nv, hnv⟩ : ∃ n, n = VL.length := ⟨_, rfl⟩
      obtain ⟨ne, hne⟩ : ∃ n, n = EL.length := ⟨_, rfl⟩
      obtain ⟨W, hW⟩ : ∃ W, W = wA.alloc (.cells #[.slice va nv vc, .slice ea ne ec] 39) := ⟨_, rfl⟩
      obtain ⟨rb, hrb⟩ : ∃ r, r = wA.heap.size := ⟨_, rfl⟩
      have hbW : Below wA.heap.size wA W := by rw [hW]; exact below_box wA _
      have eR : W.heap[rb]? = some (.cells #[.slice va nv vc, .slice ea ne ec] 39 (0, 0)) := by rw [hW, hrb]; exact heap_new wA _
      have HNV : Hid (nv = VL.length ∧ nv = V.length ∧ nv ≤ 50) := Lib.hid (by
        have h1 : V.length = VL.length := by rw [← hvl, List.length_map]
        have := HI.out.lv
        have := HKE.out
        omega)
      have HIW : Hid (EnI W0 gb vb eb k V E W) := Lib.hid (HI.out.below (below_then hbA hbW))
      have HABW : Hid (AskB W kb lab key low high) := Lib.hid (HAB.out.below HIW.out.bel)
      have HRW : Hid (RowV W wo.heap.size (.slice va VL.length vc) VL) := Lib.hid (hr1.below hbW)
      have HVL := Lib.hid hvl
      have HER := Lib.hid eR
      have HW := Lib.hid hW
      have HRB := Lib.hid hrb
      rw [← hnv, ← hne]
      clear hr1 hr2 hvl hel hbA hnv hne hW hrb hbW eR
      go_upto_region 12 with fail
      rw [← HW.out, ← HRB.out]
      obtain ⟨x0, x1, x2, x3, x4, x5, x6, x7, xl⟩ := HABW.out.cells
      have hval := gvalued_any gb vb eb V E lab key low high W HIW.out.g (by have := HNV.out; omega)
      have HVAL := Lib.hid hval
      clear hval
      go_upto_region 13 with (go_at_call 58; (with_reducible refine HVAL.out.mono ?_); rintro e wL ⟨la, lc, rfl, hlv, hbL⟩)
      obtain ⟨LV, hLV⟩ : ∃ l, l = valL V lab key low high := ⟨_, rfl⟩
      rw [← hLV] at hlv ⊢
      obtain ⟨ln, hln⟩ : ∃ n, n = LV.length := ⟨_, rfl⟩
      have HLN : Hid (ln = LV.length ∧ ln ≤ nv) := Lib.hid ⟨hln, by rw [hln, hLV]; have := valL_len V lab key low high; have := HNV.out; omega⟩
      have HIZ : Hid (EnI W0 gb vb eb k V E wL) := Lib.hid (HIW.out.below hbL)
      have HABZ : Hid (AskB wL kb lab key low high) := Lib.hid (HABW.out.below hbL)
      have HRZ : Hid (RowV wL wo.heap.size (.slice va VL.length vc) VL) := Lib.hid (HRW.out.below hbL)
      have HERZ : Hid (wL.heap[rb]? = some (.cells #[.slice va nv vc, .slice ea ne ec] 39 (0, 0))) := Lib.hid ((hbL.block _ (Array.getElem?_eq_some_iff.1 HER.out).1).trans HER.out)
      have HLVZ : Hid (kI.V wL la LV) := Lib.hid hlv
      have HLVD := Lib.hid hLV
      rw [← hln]
      clear hLV hln hlv hbL x0 x1 x2 x3 x4 x5 x6 x7 xl
      go_wp2_with fail
      go_loopw [11] (fun i wr => ∃ q : Nat, q ≤ nv ∧ i = .int .i64 q ∧ Below wL.heap.size wL wr) (fun i _ => nv - (intOf i).toNat)
      case atStart => exact ⟨0, Nat.zero_le _, rfl, Below.refl _ _⟩
      case round =>
        obtain ⟨q, hq, rfl, hbr⟩ := hrel
        have hn50 := HNV.out.2.2
        by_cases hltq : q < nv
        · obtain ⟨y, hy⟩ : ∃ y, VL[q]? = some y := ⟨_, List.getElem?_eq_getElem (by have := HNV.out.1; omega)⟩
          have hyV : y.v ∈ V := by rw [← HVL.out]; exact List.mem_map.2 ⟨y, List.mem_of_getElem? hy, rfl⟩
          obtain ⟨lb, lcap, hsl, _, _, hat⟩ := (HRZ.out.below hbr).o.at' (fun e => by rw [e] at hy; simp at hy)
          injection hsl with e1 e2 e3
          subst e1
          have HS : Hid (∀ u, Below wr.heap.size wr u → Below wr.heap.size wr u ∧ u.cell? ⟨lb, q * 3, none⟩ = some (.int .i64 y.v.id) ∧ u.cell? ⟨lb, q * 3 + 1, none⟩ = some (.string y.v.label) ∧ u.cell? ⟨lb, q * 3 + 2, none⟩ = some (.slice y.a y.v.ps.length y.c) ∧ lb < u.heap.size ∧ AskC u kb lab key low high) := Lib.hid (fun u hu => by
            have h1 := hat.below hu
            obtain ⟨k0, k1, k2⟩ := kVr_cells h1 hy
            simp only [Nat.zero_add] at k0 k1 k2
            exact ⟨hu, k0, k1, k2, h1.lt, (HABZ.out.below (below_then hbr hu)).cells⟩)
          have HBR := Lib.hid hbr
          have HYV := Lib.hid hyV
          have HPS : Hid (∀ u, Below wr.heap.size wr u → PsV u y.a y.v.ps) := Lib.hid (fun u hu => ((HRZ.out.p y (List.mem_of_getElem? hy)).1.below (below_then hbr hu)).v)
          have HPL : Hid (y.v.ps.length ≤ 16) := Lib.hid (checkR_ps (HIZ.out.g.ok.v y.v hyV))
          have hrv := fun (u : World) (hu : Below wr.heap.size wr u) => r16value_any (w := u) (rb := rb) (VL := VL) (vc := vc) (i := q) (x := y) (va := some ⟨lb, 0, none⟩) (by rw [cell_of_blk ((below_then hbr hu).block _ (Array.getElem?_eq_some_iff.1 HERZ.out).1 |>.trans HERZ.out)]; rw [HNV.out.1]; rfl) ((HRZ.out.below (below_then hbr hu)).o.toV) (by have := HNV.out; omega) (by rw [HVL.out]; exact HIZ.out.g.ok.sv) hy (HPS.out u hu) (by have := HPL.out; omega) key
          have hLI := valL_in HIZ.out.g.ok.sv hyV lab key low high
          rw [← HLVD.out] at hLI
          have HVO : Hid ((vo y.v key).Ok) := Lib.hid (vo_ok (HPS.out _ (Below.refl _ _)).ok key)
          obtain ⟨X, hX⟩ : ∃ v, vo y.v key = v := ⟨_, rfl⟩
          obtain ⟨qq, hqq⟩ : ∃ v, vq y.v key = v := ⟨_, rfl⟩
          rw [hX, hqq] at hrv hLI
          rw [hX] at HVO
          have HRV := Lib.hid hrv
          have HLI := Lib.hid hLI
          clear hy hyV hat e2 e3 hrv hLI hX hqq hbr
          obtain ⟨vk, vn, vs⟩ := X
          go_upto_region 16 with fail
          have HS16 : Hid (∀ u, Below wr.heap.size wr u → Below wr.heap.size wr u ∧ u.cell? ⟨lb, q * 3, none⟩ = some (.int .i64 y.v.id) ∧ u.cell? ⟨kb, 1, none⟩ = some (.string key) ∧ lb < u.heap.size ∧ kb < u.heap.size) := Lib.hid (fun u hu => by
            obtain ⟨h0, h1, h2, h3, h4, x0, x1, x2, x3, x4, x5, x6, x7, xl⟩ := HS.out u hu
            exact ⟨h0, h1, x1, h4, xl⟩)
          go_cut [12, 13] from 85 to 96 (fun s12 s13 wc => ∃ (xb : Nat) (u : World), u = wc ∧ s12 = .pointer (some ⟨xb, 0, none⟩) ∧ s13 = .bool qq ∧ Hid (Below wr.heap.size wr u ∧ u.heap[xb]? = some (.cells #[.int .i64 vk, .int .i64 vn, .string vs] 98 (0, 0))))
          case first =>
            go_region_held3 (fun u => Below wr.heap.size wr u ∧ u.cell? ⟨lb, q * 3, none⟩ = some (.int .i64 y.v.id) ∧ u.cell? ⟨kb, 1, none⟩ = some (.string key) ∧ lb < u.heap.size ∧ kb < u.heap.size)
              (first | exact HS16.out _ (Below.refl _ _).drew | exact HS16.out _ HBC.out | exact HS16.out _ (below_then HBC.out (below_box _ _)) | exact HS16.out _ (below_box _ _).drew | exact HS16.out _ (res3 (Nat.le_refl _) HBC.out hbv _ _ _ rfl).1)
              ((go_at_call 59; (refine (HRV.out _ (by go_split_ands; assumption)).mono ?_); rintro e wc ⟨rfl, hbc⟩; have HBC := Lib.hid (below_then (show Below wr.heap.size wr _ by go_split_ands; assumption) hbc); first | (have hbv : wc.heap[wr.heap.size]? = some (.cells #[.int .i64 0, .int .i64 0, .string ⟨#[]⟩] 98 (0, 0)) := (hbc.block _ (by simp)).trans (heap_new wr _); have z0 := cell_of_blk hbv 0; have z1 := cell_of_blk hbv 1; have z2 := cell_of_blk hbv 2; have y0 := frozen_of_blk hbv 0; have y1 := frozen_of_blk hbv 1; have y2 := frozen_of_blk hbv 2; simp at z0 z1 z2) | skip))
            all_goals
              go_wp2_with fail
              go_meet
              first
                | exact ⟨_, _, rfl, rfl, rfl, Lib.hid ⟨below_then HBC.out (below_box _ _), heap_new _ _⟩⟩
                | exact ⟨_, _, rfl, rfl, rfl, Lib.hid (res3 (Nat.le_refl _) HBC.out hbv _ _ _ rfl)⟩
          case rest =>
          obtain ⟨xb, u, rfl, rfl, rfl, HU⟩ := hcut
          obtain ⟨yl, hyl⟩ : ∃ l, l = y.v.label := ⟨_, rfl⟩
          obtain ⟨tl, htl⟩ : ∃ t, decide (yl = lab) = t := ⟨_, rfl⟩
          have hne : (yl.toList == lab.toList) = tl := by rw [← htl]; exact bytes_eqB _ _
          have HC1a : ∀ u, Calls Tryz.prog 60 #[.agg #[.int .i64 vk, .int .i64 vn, .string vs], .agg #[.int .i64 low.kind, .int .i64 low.n, .string low.s]] u fun e w' => e = .returned (.int .i64 (Vl.cmp ⟨vk, vn, vs⟩ low)) ∧ Below u.heap.size u w' := fun u => r2compare_any ⟨vk, vn, vs⟩ low u HVO.out
          have HC2a : ∀ u, Calls Tryz.prog 60 #[.agg #[.int .i64 vk, .int .i64 vn, .string vs], .agg #[.int .i64 high.kind, .int .i64 high.n, .string high.s]] u fun e w' => e = .returned (.int .i64 (Vl.cmp ⟨vk, vn, vs⟩ high)) ∧ Below u.heap.size u w' := fun u => r2compare_any ⟨vk, vn, vs⟩ high u HVO.out
          obtain ⟨c1, hc1⟩ : ∃ c, Vl.cmp ⟨vk, vn, vs⟩ low = c := ⟨_, rfl⟩
          obtain ⟨c2, hc2⟩ : ∃ c, Vl.cmp ⟨vk, vn, vs⟩ high = c := ⟨_, rfl⟩
          obtain ⟨p1, hp1⟩ : ∃ p, decide (0 ≤ c1) = p := ⟨_, rfl⟩
          obtain ⟨p2, hp2⟩ : ∃ p, decide (c2 ≤ 0) = p := ⟨_, rfl⟩
          simp only [hc1] at HC1a
          simp only [hc2] at HC2a
          have HIN : Hid (decide (y.v.id ∈ LV) = (qq && (tl && (p1 && p2)))) := Lib.hid (by rw [HLI.out, ← hyl, htl, hc1, hc2, hp1, hp2])
          have HC1 := Lib.hid HC1a
          have HC2 := Lib.hid HC2a
          have HYL := Lib.hid hyl
          have HUX : Hid (∀ u', Below u.heap.size u u' → u'.cell? ⟨xb, 0, none⟩ = some (.int .i64 vk) ∧ u'.cell? ⟨xb, 1, none⟩ = some (.int .i64 vn) ∧ u'.cell? ⟨xb, 2, none⟩ = some (.string vs) ∧ xb < u'.heap.size) := Lib.hid (fun u' hu => by
            have e := (hu.block _ (Array.getElem?_eq_some_iff.1 HU.out.2).1).trans HU.out.2
            exact ⟨by rw [cell_of_blk e]; rfl, by rw [cell_of_blk e]; rfl, by rw [cell_of_blk e]; rfl, (Array.getElem?_eq_some_iff.1 e).1⟩)
          have HS17 : Hid (∀ u', Below u.heap.size u u' → Below u.heap.size u u' ∧ u'.cell? ⟨lb, q * 3 + 1, none⟩ = some (.string yl) ∧ (u'.cell? ⟨kb, 0, none⟩ = some (.string lab) ∧ u'.cell? ⟨kb, 2, none⟩ = some (.int .i64 low.kind) ∧ u'.cell? ⟨kb, 3, none⟩ = some (.int .i64 low.n) ∧ u'.cell? ⟨kb, 4, none⟩ = some (.string low.s) ∧ u'.cell? ⟨kb, 5, none⟩ = some (.int .i64 high.kind) ∧ u'.cell? ⟨kb, 6, none⟩ = some (.int .i64 high.n) ∧ u'.cell? ⟨kb, 7, none⟩ = some (.string high.s)) ∧ (u'.cell? ⟨xb, 0, none⟩ = some (.int .i64 vk) ∧ u'.cell? ⟨xb, 1, none⟩ = some (.int .i64 vn) ∧ u'.cell? ⟨xb, 2, none⟩ = some (.string vs)) ∧ lb < u'.heap.size ∧ kb < u'.heap.size ∧ xb < u'.heap.size) := Lib.hid (fun u' hu => by
            obtain ⟨h0, h1, h2, h3, h4, x0, x1, x2, x3, x4, x5, x6, x7, xl⟩ := HS.out u' (below_then HU.out.1 hu)
            obtain ⟨z0, z1, z2, z3⟩ := HUX.out u' hu
            exact ⟨hu, by rw [HYL.out]; exact h2, ⟨x0, x2, x3, x4, x5, x6, x7⟩, ⟨z0, z1, z2⟩, h4, xl, z3⟩)
          clear htl HC1a HC2a hc1 hc2 hyl
          go_upto_region 17 with fail
          go_cut [14] from 97 to 121 (fun s14 wc => ∃ u', u' = wc ∧ s14 = .bool (qq && (tl && (p1 && p2))) ∧ Below u.heap.size u u')
          case first =>
            cases qq
            case false =>
              as_aux_lemma =>
                refine wp_region_held_drew (S := fun u' => Below u.heap.size u u' ∧ u'.cell? ⟨lb, q * 3 + 1, none⟩ = some (.string yl) ∧ (u'.cell? ⟨kb, 0, none⟩ = some (.string lab) ∧ u'.cell? ⟨kb, 2, none⟩ = some (.int .i64 low.kind) ∧ u'.cell? ⟨kb, 3, none⟩ = some (.int .i64 low.n) ∧ u'.cell? ⟨kb, 4, none⟩ = some (.string low.s) ∧ u'.cell? ⟨kb, 5, none⟩ = some (.int .i64 high.kind) ∧ u'.cell? ⟨kb, 6, none⟩ = some (.int .i64 high.n) ∧ u'.cell? ⟨kb, 7, none⟩ = some (.string high.s)) ∧ (u'.cell? ⟨xb, 0, none⟩ = some (.int .i64 vk) ∧ u'.cell? ⟨xb, 1, none⟩ = some (.int .i64 vn) ∧ u'.cell? ⟨xb, 2, none⟩ = some (.string vs)) ∧ lb < u'.heap.size ∧ kb < u'.heap.size ∧ xb < u'.heap.size) (by kernel_rfl) (HS17.out _ (Below.refl _ _).drew) (fun hHeld => ?_)
                refine wpAnyH_take (i := 0) (v := ?_) rfl (by kernel_rfl) (by kernel_rfl) (by kernel_rfl) (fun _ _ _ h => h) (Or.inl ⟨by kernel_rfl, ?_⟩) (by assumption) ?_
                rotate_left
                · intro w hSw; (try dsimp only at hSw); go_simp; first | done | with_reducible rfl
                simp only [List.getElem_toArray, List.getElem_cons_zero, Act.put, List.setIfInBounds_toArray, List.set_cons_zero, List.set_cons_succ]
                refine wpAnyH_take (i := 1) (v := ?_) rfl (by kernel_rfl) (by kernel_rfl) (by kernel_rfl) (fun _ _ _ h => h) (Or.inl ⟨by kernel_rfl, ?_⟩) (by assumption) ?_
                rotate_left
                · intro w hSw; (try dsimp only at hSw); go_simp; first | done | with_reducible rfl
                simp only [List.getElem_toArray, List.getElem_cons_succ, List.getElem_cons_zero, Act.put, List.setIfInBounds_toArray, List.set_cons_zero, List.set_cons_succ]
                refine wpAnyH_take (i := 2) (v := undef) rfl (by kernel_rfl) (by kernel_rfl) (by kernel_rfl) (fun _ _ _ h => h) (Or.inr ⟨by kernel_rfl, rfl⟩) (by assumption) ?_
                simp only [List.getElem_toArray, List.getElem_cons_succ, List.getElem_cons_zero, Act.put, List.setIfInBounds_toArray, List.set_cons_zero, List.set_cons_succ]
                refine wpAnyH_take (i := 3) (v := undef) rfl (by kernel_rfl) (by kernel_rfl) (by kernel_rfl) (fun _ _ _ h => h) (Or.inr ⟨by kernel_rfl, rfl⟩) (by assumption) ?_
                simp only [List.getElem_toArray, List.getElem_cons_succ, List.getElem_cons_zero, Act.put, List.setIfInBounds_toArray, List.set_cons_zero, List.set_cons_succ]
                refine wpAnyH_take (i := 4) (v := undef) rfl (by kernel_rfl) (by kernel_rfl) (by kernel_rfl) (fun _ _ _ h => h) (Or.inr ⟨by kernel_rfl, rfl⟩) (by assumption) ?_
                simp only [List.getElem_toArray, List.getElem_cons_succ, List.getElem_cons_zero, Act.put, List.setIfInBounds_toArray, List.set_cons_zero, List.set_cons_succ]
                refine wpAnyH_take (i := 5) (v := undef) rfl (by kernel_rfl) (by kernel_rfl) (by kernel_rfl) (fun _ _ _ h => h) (Or.inr ⟨by kernel_rfl, rfl⟩) (by assumption) ?_
                simp only [List.getElem_toArray, List.getElem_cons_succ, List.getElem_cons_zero, Act.put, List.setIfInBounds_toArray, List.set_cons_zero, List.set_cons_succ]
                refine wpAnyH_take (i := 6) (v := undef) rfl (by kernel_rfl) (by kernel_rfl) (by kernel_rfl) (fun _ _ _ h => h) (Or.inr ⟨by kernel_rfl, rfl⟩) (by assumption) ?_
                simp only [List.getElem_toArray, List.getElem_cons_succ, List.getElem_cons_zero, Act.put, List.setIfInBounds_toArray, List.set_cons_zero, List.set_cons_succ]
                refine wpAnyH_take (i := 7) (v := undef) rfl (by kernel_rfl) (by kernel_rfl) (by kernel_rfl) (fun _ _ _ h => h) (Or.inr ⟨by kernel_rfl, rfl⟩) (by assumption) ?_
                simp only [List.getElem_toArray, List.getElem_cons_succ, List.getElem_cons_zero, Act.put, List.setIfInBounds_toArray, List.set_cons_zero, List.set_cons_succ]
                refine wpAnyH_take (i := 8) (v := undef) rfl (by kernel_rfl) (by kernel_rfl) (by kernel_rfl) (fun _ _ _ h => h) (Or.inr ⟨by kernel_rfl, rfl⟩) (by assumption) ?_
                simp only [List.getElem_toArray, List.getElem_cons_succ, List.getElem_cons_zero, Act.put, List.setIfInBounds_toArray, List.set_cons_zero, List.set_cons_succ]
                refine wpAnyH_take (i := 9) (v := undef) rfl (by kernel_rfl) (by kernel_rfl) (by kernel_rfl) (fun _ _ _ h => h) (Or.inr ⟨by kernel_rfl, rfl⟩) (by assumption) ?_
                simp only [List.getElem_toArray, List.getElem_cons_succ, List.getElem_cons_zero, Act.put, List.setIfInBounds_toArray, List.set_cons_zero, List.set_cons_succ]
                refine wpAnyH_take (i := 10) (v := ?_) rfl (by kernel_rfl) (by kernel_rfl) (by kernel_rfl) (fun _ _ _ h => h) (Or.inl ⟨by kernel_rfl, ?_⟩) (by assumption) ?_
                rotate_left
                · intro w hSw; (try dsimp only at hSw); go_simp; first | done | with_reducible rfl
                simp only [List.getElem_toArray, List.getElem_cons_succ, List.getElem_cons_zero, Act.put, List.setIfInBounds_toArray, List.set_cons_zero, List.set_cons_succ]
                refine wpAnyH_take (i := 11) (v := ?_) rfl (by kernel_rfl) (by kernel_rfl) (by kernel_rfl) (fun _ _ _ h => h) (Or.inl ⟨by kernel_rfl, ?_⟩) (by assumption) ?_
                rotate_left
                · intro w hSw; (try dsimp only at hSw); go_simp; first | done | with_reducible rfl
                simp only [List.getElem_toArray, List.getElem_cons_succ, List.getElem_cons_zero, Act.put, List.setIfInBounds_toArray, List.set_cons_zero, List.set_cons_succ]
                refine wpAnyH_take (i := 12) (v := undef) rfl (by kernel_rfl) (by kernel_rfl) (by kernel_rfl) (fun _ _ _ h => h) (Or.inr ⟨by kernel_rfl, rfl⟩) (by assumption) ?_
                simp only [List.getElem_toArray, List.getElem_cons_succ, List.getElem_cons_zero, Act.put, List.setIfInBounds_toArray, List.set_cons_zero, List.set_cons_succ]
                refine wpAnyH_take (i := 13) (v := undef) rfl (by kernel_rfl) (by kernel_rfl) (by kernel_rfl) (fun _ _ _ h => h) (Or.inr ⟨by kernel_rfl, rfl⟩) (by assumption) ?_
                simp only [List.getElem_toArray, List.getElem_cons_succ, List.getElem_cons_zero, Act.put, List.setIfInBounds_toArray, List.set_cons_zero, List.set_cons_succ]
                refine wpAnyH_take (i := 14) (v := undef) rfl (by kernel_rfl) (by kernel_rfl) (by kernel_rfl) (fun _ _ _ h => h) (Or.inr ⟨by kernel_rfl, rfl⟩) (by assumption) ?_
                simp only [List.getElem_toArray, List.getElem_cons_succ, List.getElem_cons_zero, Act.put, List.setIfInBounds_toArray, List.set_cons_zero, List.set_cons_succ]
                refine wpAnyH_take (i := 15) (v := undef) rfl (by kernel_rfl) (by kernel_rfl) (by kernel_rfl) (fun _ _ _ h => h) (Or.inr ⟨by kernel_rfl, rfl⟩) (by assumption) ?_
                simp only [List.getElem_toArray, List.getElem_cons_succ, List.getElem_cons_zero, Act.put, List.setIfInBounds_toArray, List.set_cons_zero, List.set_cons_succ]
                refine wpAnyH_take (i := 16) (v := undef) rfl (by kernel_rfl) (by kernel_rfl) (by kernel_rfl) (fun _ _ _ h => h) (Or.inr ⟨by kernel_rfl, rfl⟩) (by assumption) ?_
                simp only [List.getElem_toArray, List.getElem_cons_succ, List.getElem_cons_zero, Act.put, List.setIfInBounds_toArray, List.set_cons_zero, List.set_cons_succ]
                refine wpAnyH_take (i := 17) (v := ?_) rfl (by kernel_rfl) (by kernel_rfl) (by kernel_rfl) (fun _ _ _ h => h) (Or.inl ⟨by kernel_rfl, ?_⟩) (by assumption) ?_
                rotate_left
                · intro w hSw; (try dsimp only at hSw); go_simp; first | done | with_reducible rfl
                simp only [List.getElem_toArray, List.getElem_cons_succ, List.getElem_cons_zero, Act.put, List.setIfInBounds_toArray, List.set_cons_zero, List.set_cons_succ]
                refine wpAnyH_take (i := 18) (v := ?_) rfl (by kernel_rfl) (by kernel_rfl) (by kernel_rfl) (fun _ _ _ h => h) (Or.inl ⟨by kernel_rfl, ?_⟩) (by assumption) ?_
                rotate_left
                · intro w hSw; (try dsimp only at hSw); go_simp; first | done | with_reducible rfl
                simp only [List.getElem_toArray, List.getElem_cons_succ, List.getElem_cons_zero, Act.put, List.setIfInBounds_toArray, List.set_cons_zero, List.set_cons_succ]
                refine wpAnyH_take (i := 19) (v := undef) rfl (by kernel_rfl) (by kernel_rfl) (by kernel_rfl) (fun _ _ _ h => h) (Or.inr ⟨by kernel_rfl, rfl⟩) (by assumption) ?_
                simp only [List.getElem_toArray, List.getElem_cons_succ, List.getElem_cons_zero, Act.put, List.setIfInBounds_toArray, List.set_cons_zero, List.set_cons_succ]
                refine wpAnyH_take (i := 20) (v := undef) rfl (by kernel_rfl) (by kernel_rfl) (by kernel_rfl) (fun _ _ _ h => h) (Or.inr ⟨by kernel_rfl, rfl⟩) (by assumption) ?_
                simp only [List.getElem_toArray, List.getElem_cons_succ, List.getElem_cons_zero, Act.put, List.setIfInBounds_toArray, List.set_cons_zero, List.set_cons_succ]
                refine wpAnyH_take (i := 21) (v := undef) rfl (by kernel_rfl) (by kernel_rfl) (by kernel_rfl) (fun _ _ _ h => h) (Or.inr ⟨by kernel_rfl, rfl⟩) (by assumption) ?_
                simp only [List.getElem_toArray, List.getElem_cons_succ, List.getElem_cons_zero, Act.put, List.setIfInBounds_toArray, List.set_cons_zero, List.set_cons_succ]
                refine wpAnyH_take (i := 22) (v := undef) rfl (by kernel_rfl) (by kernel_rfl) (by kernel_rfl) (fun _ _ _ h => h) (Or.inr ⟨by kernel_rfl, rfl⟩) (by assumption) ?_
                simp only [List.getElem_toArray, List.getElem_cons_succ, List.getElem_cons_zero, Act.put, List.setIfInBounds_toArray, List.set_cons_zero, List.set_cons_succ]
                refine wpAnyH_take (i := 23) (v := undef) rfl (by kernel_rfl) (by kernel_rfl) (by kernel_rfl) (fun _ _ _ h => h) (Or.inr ⟨by kernel_rfl, rfl⟩) (by assumption) ?_
                simp only [List.getElem_toArray, List.getElem_cons_succ, List.getElem_cons_zero, Act.put, List.setIfInBounds_toArray, List.set_cons_zero, List.set_cons_succ]
                refine wpAnyH_take (i := 24) (v := ?_) rfl (by kernel_rfl) (by kernel_rfl) (by kernel_rfl) (fun _ _ _ h => h) (Or.inl ⟨by kernel_rfl, ?_⟩) (by assumption) ?_
                rotate_left
                · intro w hSw; (try dsimp only at hSw); go_simp; first | done | with_reducible rfl
                simp only [List.getElem_toArray, List.getElem_cons_succ, List.getElem_cons_zero, Act.put, List.setIfInBounds_toArray, List.set_cons_zero, List.set_cons_succ]
                refine wpAnyH_take (i := 25) (v := ?_) rfl (by kernel_rfl) (by kernel_rfl) (by kernel_rfl) (fun _ _ _ h => h) (Or.inl ⟨by kernel_rfl, ?_⟩) (by assumption) ?_
                rotate_left
                · intro w hSw; (try dsimp only at hSw); go_simp; first | done | with_reducible rfl
                simp only [List.getElem_toArray, List.getElem_cons_succ, List.getElem_cons_zero, Act.put, List.setIfInBounds_toArray, List.set_cons_zero, List.set_cons_succ]
                refine wpAnyH_done (by kernel_rfl) ?_ _
                go_wp2_with fail
                go_meet
                exact ⟨_, rfl, rfl, (Below.refl _ _).drew⟩
            case true =>
              cases tl
              case false =>
                as_aux_lemma =>
                  refine wp_region_held_drew (S := fun u' => Below u.heap.size u u' ∧ u'.cell? ⟨lb, q * 3 + 1, none⟩ = some (.string yl) ∧ (u'.cell? ⟨kb, 0, none⟩ = some (.string lab) ∧ u'.cell? ⟨kb, 2, none⟩ = some (.int .i64 low.kind) ∧ u'.cell? ⟨kb, 3, none⟩ = some (.int .i64 low.n) ∧ u'.cell? ⟨kb, 4, none⟩ = some (.string low.s) ∧ u'.cell? ⟨kb, 5, none⟩ = some (.int .i64 high.kind) ∧ u'.cell? ⟨kb, 6, none⟩ = some (.int .i64 high.n) ∧ u'.cell? ⟨kb, 7, none⟩ = some (.string high.s)) ∧ (u'.cell? ⟨xb, 0, none⟩ = some (.int .i64 vk) ∧ u'.cell? ⟨xb, 1, none⟩ = some (.int .i64 vn) ∧ u'.cell? ⟨xb, 2, none⟩ = some (.string vs)) ∧ lb < u'.heap.size ∧ kb < u'.heap.size ∧ xb < u'.heap.size) (by kernel_rfl) (HS17.out _ (Below.refl _ _).drew) (fun hHeld => ?_)
                  refine wpAnyH_take (i := 0) (v := ?_) rfl (by kernel_rfl) (by kernel_rfl) (by kernel_rfl) (fun _ _ _ h => h) (Or.inl ⟨by kernel_rfl, ?_⟩) (by assumption) ?_
                  rotate_left
                  · intro w hSw; (try dsimp only at hSw); go_simp; first | done | with_reducible rfl
                  simp only [List.getElem_toArray, List.getElem_cons_zero, Act.put, List.setIfInBounds_toArray, List.set_cons_zero, List.set_cons_succ]
                  refine wpAnyH_take (i := 1) (v := ?_) rfl (by kernel_rfl) (by kernel_rfl) (by kernel_rfl) (fun _ _ _ h => h) (Or.inl ⟨by kernel_rfl, ?_⟩) (by assumption) ?_
                  rotate_left
                  · intro w hSw; (try dsimp only at hSw); go_simp; first | done | with_reducible rfl
                  simp only [List.getElem_toArray, List.getElem_cons_succ, List.getElem_cons_zero, Act.put, List.setIfInBounds_toArray, List.set_cons_zero, List.set_cons_succ]
                  refine wpAnyH_take (i := 2) (v := ?_) rfl (by kernel_rfl) (by kernel_rfl) (by kernel_rfl) (fun _ _ _ h => h) (Or.inl ⟨by kernel_rfl, ?_⟩) (by assumption) ?_
                  rotate_left
                  · intro w hSw; (try dsimp only at hSw); go_simp; first | done | with_reducible rfl
                  simp only [List.getElem_toArray, List.getElem_cons_succ, List.getElem_cons_zero, Act.put, List.setIfInBounds_toArray, List.set_cons_zero, List.set_cons_succ]
                  refine wpAnyH_take (i := 3) (v := ?_) rfl (by kernel_rfl) (by kernel_rfl) (by kernel_rfl) (fun _ _ _ h => h) (Or.inl ⟨by kernel_rfl, ?_⟩) (by assumption) ?_
                  rotate_left
                  · intro w hSw; (try dsimp only at hSw); go_simp; first | done | with_reducible rfl
                  simp only [List.getElem_toArray, List.getElem_cons_succ, List.getElem_cons_zero, Act.put, List.setIfInBounds_toArray, List.set_cons_zero, List.set_cons_succ]
                  refine wpAnyH_take (i := 4) (v := ?_) rfl (by kernel_rfl) (by kernel_rfl) (by kernel_rfl) (fun _ _ _ h => h) (Or.inl ⟨by kernel_rfl, ?_⟩) (by assumption) ?_
                  rotate_left
                  · intro w hSw; (try dsimp only at hSw); go_simp; first | done | with_reducible rfl
                  simp only [List.getElem_toArray, List.getElem_cons_succ, List.getElem_cons_zero, Act.put, List.setIfInBounds_toArray, List.set_cons_zero, List.set_cons_succ]
                  refine wpAnyH_take (i := 5) (v := ?_) rfl (by kernel_rfl) (by kernel_rfl) (by kernel_rfl) (fun _ _ _ h => h) (Or.inl ⟨by kernel_rfl, ?_⟩) (by assumption) ?_
                  rotate_left
                  · intro w hSw; (try dsimp only at hSw); go_simp; first | done | with_reducible rfl
                  simp only [List.getElem_toArray, List.getElem_cons_succ, List.getElem_cons_zero, Act.put, List.setIfInBounds_toArray, List.set_cons_zero, List.set_cons_succ]
                  refine wpAnyH_take (i := 6) (v := ?_) rfl (by kernel_rfl) (by kernel_rfl) (by kernel_rfl) (fun _ _ _ h => h) (Or.inl ⟨by kernel_rfl, ?_⟩) (by assumption) ?_
                  rotate_left
                  · intro w hSw; (try dsimp only at hSw); go_simp; first | done | with_reducible rfl
                  simp only [List.getElem_toArray, List.getElem_cons_succ, List.getElem_cons_zero, Act.put, List.setIfInBounds_toArray, List.set_cons_zero, List.set_cons_succ]
                  refine wpAnyH_take (i := 7) (v := ?_) rfl (by kernel_rfl) (by kernel_rfl) (by kernel_rfl) (fun _ _ _ h => h) (Or.inl ⟨by kernel_rfl, ?_⟩) (by assumption) ?_
                  rotate_left
                  · intro w hSw; (try dsimp only at hSw); go_simp; first | done | with_reducible rfl
                  simp only [List.getElem_toArray, List.getElem_cons_succ, List.getElem_cons_zero, Act.put, List.setIfInBounds_toArray, List.set_cons_zero, List.set_cons_succ]
                  refine wpAnyH_take (i := 8) (v := ?_) rfl (by kernel_rfl) (by kernel_rfl) (by kernel_rfl) (fun _ _ _ h => h) (Or.inl ⟨by kernel_rfl, ?_⟩) (by assumption) ?_
                  rotate_left
                  · intro w hSw; (try dsimp only at hSw); go_simp; first | done | with_reducible rfl
                  simp only [List.getElem_toArray, List.getElem_cons_succ, List.getElem_cons_zero, Act.put, List.setIfInBounds_toArray, List.set_cons_zero, List.set_cons_succ]
                  refine wpAnyH_take (i := 9) (v := ?_) rfl (by kernel_rfl) (by kernel_rfl) (by kernel_rfl) (fun _ _ _ h => h) (Or.inl ⟨by kernel_rfl, ?_⟩) (by assumption) ?_
                  rotate_left
                  · intro w hSw; (try dsimp only at hSw); go_simp; first | done | with_reducible rfl
                  simp only [List.getElem_toArray, List.getElem_cons_succ, List.getElem_cons_zero, Act.put, List.setIfInBounds_toArray, List.set_cons_zero, List.set_cons_succ]
                  refine wpAnyH_take (i := 10) (v := ?_) rfl (by kernel_rfl) (by kernel_rfl) (by kernel_rfl) (fun _ _ _ h => h) (Or.inl ⟨by kernel_rfl, ?_⟩) (by assumption) ?_
                  rotate_left
                  · intro w hSw; (try dsimp only at hSw); go_simp; first | done | with_reducible rfl
                  simp only [List.getElem_toArray, List.getElem_cons_succ, List.getElem_cons_zero, Act.put, List.setIfInBounds_toArray, List.set_cons_zero, List.set_cons_succ]
                  refine wpAnyH_take (i := 11) (v := ?_) rfl (by kernel_rfl) (by kernel_rfl) (by kernel_rfl) (fun _ _ _ h => h) (Or.inl ⟨by kernel_rfl, ?_⟩) (by assumption) ?_
                  rotate_left
                  · intro w hSw; (try dsimp only at hSw); go_simp; first | done | with_reducible rfl
                  simp only [List.getElem_toArray, List.getElem_cons_succ, List.getElem_cons_zero, Act.put, List.setIfInBounds_toArray, List.set_cons_zero, List.set_cons_succ]
                  refine wpAnyH_take (i := 12) (v := undef) rfl (by kernel_rfl) (by kernel_rfl) (by kernel_rfl) (fun _ _ _ h => h) (Or.inr ⟨by kernel_rfl, rfl⟩) (by assumption) ?_
                  simp only [List.getElem_toArray, List.getElem_cons_succ, List.getElem_cons_zero, Act.put, List.setIfInBounds_toArray, List.set_cons_zero, List.set_cons_succ]
                  refine wpAnyH_take (i := 13) (v := undef) rfl (by kernel_rfl) (by kernel_rfl) (by kernel_rfl) (fun _ _ _ h => h) (Or.inr ⟨by kernel_rfl, rfl⟩) (by assumption) ?_
                  simp only [List.getElem_toArray, List.getElem_cons_succ, List.getElem_cons_zero, Act.put, List.setIfInBounds_toArray, List.set_cons_zero, List.set_cons_succ]
                  refine wpAnyH_take (i := 14) (v := undef) rfl (by kernel_rfl) (by kernel_rfl) (by kernel_rfl) (fun _ _ _ h => h) (Or.inr ⟨by kernel_rfl, rfl⟩) (by assumption) ?_
                  simp only [List.getElem_toArray, List.getElem_cons_succ, List.getElem_cons_zero, Act.put, List.setIfInBounds_toArray, List.set_cons_zero, List.set_cons_succ]
                  refine wpAnyH_take (i := 15) (v := undef) rfl (by kernel_rfl) (by kernel_rfl) (by kernel_rfl) (fun _ _ _ h => h) (Or.inr ⟨by kernel_rfl, rfl⟩) (by assumption) ?_
                  simp only [List.getElem_toArray, List.getElem_cons_succ, List.getElem_cons_zero, Act.put, List.setIfInBounds_toArray, List.set_cons_zero, List.set_cons_succ]
                  refine wpAnyH_take (i := 16) (v := undef) rfl (by kernel_rfl) (by kernel_rfl) (by kernel_rfl) (fun _ _ _ h => h) (Or.inr ⟨by kernel_rfl, rfl⟩) (by assumption) ?_
                  simp only [List.getElem_toArray, List.getElem_cons_succ, List.getElem_cons_zero, Act.put, List.setIfInBounds_toArray, List.set_cons_zero, List.set_cons_succ]
                  refine wpAnyH_take (i := 17) (v := ?_) rfl (by kernel_rfl) (by kernel_rfl) (by kernel_rfl) (fun _ _ _ h => h) (Or.inl ⟨by kernel_rfl, ?_⟩) (by assumption) ?_
                  rotate_left
                  · intro w hSw; (try dsimp only at hSw); go_simp; first | done | with_reducible rfl
                  simp only [List.getElem_toArray, List.getElem_cons_succ, List.getElem_cons_zero, Act.put, List.setIfInBounds_toArray, List.set_cons_zero, List.set_cons_succ]
                  refine wpAnyH_take (i := 18) (v := ?_) rfl (by kernel_rfl) (by kernel_rfl) (by kernel_rfl) (fun _ _ _ h => h) (Or.inl ⟨by kernel_rfl, ?_⟩) (by assumption) ?_
                  rotate_left
                  · intro w hSw; (try dsimp only at hSw); go_simp; first | done | with_reducible rfl
                  simp only [List.getElem_toArray, List.getElem_cons_succ, List.getElem_cons_zero, Act.put, List.setIfInBounds_toArray, List.set_cons_zero, List.set_cons_succ]
                  refine wpAnyH_take (i := 19) (v := undef) rfl (by kernel_rfl) (by kernel_rfl) (by kernel_rfl) (fun _ _ _ h => h) (Or.inr ⟨by kernel_rfl, rfl⟩) (by assumption) ?_
                  simp only [List.getElem_toArray, List.getElem_cons_succ, List.getElem_cons_zero, Act.put, List.setIfInBounds_toArray, List.set_cons_zero, List.set_cons_succ]
                  refine wpAnyH_take (i := 20) (v := undef) rfl (by kernel_rfl) (by kernel_rfl) (by kernel_rfl) (fun _ _ _ h => h) (Or.inr ⟨by kernel_rfl, rfl⟩) (by assumption) ?_
                  simp only [List.getElem_toArray, List.getElem_cons_succ, List.getElem_cons_zero, Act.put, List.setIfInBounds_toArray, List.set_cons_zero, List.set_cons_succ]
                  refine wpAnyH_take (i := 21) (v := undef) rfl (by kernel_rfl) (by kernel_rfl) (by kernel_rfl) (fun _ _ _ h => h) (Or.inr ⟨by kernel_rfl, rfl⟩) (by assumption) ?_
                  simp only [List.getElem_toArray, List.getElem_cons_succ, List.getElem_cons_zero, Act.put, List.setIfInBounds_toArray, List.set_cons_zero, List.set_cons_succ]
                  refine wpAnyH_take (i := 22) (v := undef) rfl (by kernel_rfl) (by kernel_rfl) (by kernel_rfl) (fun _ _ _ h => h) (Or.inr ⟨by kernel_rfl, rfl⟩) (by assumption) ?_
                  simp only [List.getElem_toArray, List.getElem_cons_succ, List.getElem_cons_zero, Act.put, List.setIfInBounds_toArray, List.set_cons_zero, List.set_cons_succ]
                  refine wpAnyH_take (i := 23) (v := undef) rfl (by kernel_rfl) (by kernel_rfl) (by kernel_rfl) (fun _ _ _ h => h) (Or.inr ⟨by kernel_rfl, rfl⟩) (by assumption) ?_
                  simp only [List.getElem_toArray, List.getElem_cons_succ, List.getElem_cons_zero, Act.put, List.setIfInBounds_toArray, List.set_cons_zero, List.set_cons_succ]
                  refine wpAnyH_take (i := 24) (v := ?_) rfl (by kernel_rfl) (by kernel_rfl) (by kernel_rfl) (fun _ _ _ h => h) (Or.inl ⟨by kernel_rfl, ?_⟩) (by assumption) ?_
                  rotate_left
                  · intro w hSw; (try dsimp only at hSw); go_simp; first | done | with_reducible rfl
                  simp only [List.getElem_toArray, List.getElem_cons_succ, List.getElem_cons_zero, Act.put, List.setIfInBounds_toArray, List.set_cons_zero, List.set_cons_succ]
                  refine wpAnyH_take (i := 25) (v := ?_) rfl (by kernel_rfl) (by kernel_rfl) (by kernel_rfl) (fun _ _ _ h => h) (Or.inl ⟨by kernel_rfl, ?_⟩) (by assumption) ?_
                  rotate_left
                  · intro w hSw; (try dsimp only at hSw); go_simp; first | done | with_reducible rfl
                  simp only [List.getElem_toArray, List.getElem_cons_succ, List.getElem_cons_zero, Act.put, List.setIfInBounds_toArray, List.set_cons_zero, List.set_cons_succ]
                  refine wpAnyH_done (by kernel_rfl) ?_ _
                  go_wp2_with fail
                  go_meet
                  exact ⟨_, rfl, rfl, (Below.refl _ _).drew⟩
              case true =>
                cases p1
                case false =>
                  as_aux_lemma =>
                    refine wp_region_held_drew (S := fun u' => Below u.heap.size u u' ∧ u'.cell? ⟨lb, q * 3 + 1, none⟩ = some (.string yl) ∧ (u'.cell? ⟨kb, 0, none⟩ = some (.string lab) ∧ u'.cell? ⟨kb, 2, none⟩ = some (.int .i64 low.kind) ∧ u'.cell? ⟨kb, 3, none⟩ = some (.int .i64 low.n) ∧ u'.cell? ⟨kb, 4, none⟩ = some (.string low.s) ∧ u'.cell? ⟨kb, 5, none⟩ = some (.int .i64 high.kind) ∧ u'.cell? ⟨kb, 6, none⟩ = some (.int .i64 high.n) ∧ u'.cell? ⟨kb, 7, none⟩ = some (.string high.s)) ∧ (u'.cell? ⟨xb, 0, none⟩ = some (.int .i64 vk) ∧ u'.cell? ⟨xb, 1, none⟩ = some (.int .i64 vn) ∧ u'.cell? ⟨xb, 2, none⟩ = some (.string vs)) ∧ lb < u'.heap.size ∧ kb < u'.heap.size ∧ xb < u'.heap.size) (by kernel_rfl) (HS17.out _ (Below.refl _ _).drew) (fun hHeld => ?_)
                    refine wpAnyH_take (i := 0) (v := ?_) rfl (by kernel_rfl) (by kernel_rfl) (by kernel_rfl) (fun _ _ _ h => h) (Or.inl ⟨by kernel_rfl, ?_⟩) (by assumption) ?_
                    rotate_left
                    · intro w hSw; (try dsimp only at hSw); go_simp; first | done | with_reducible rfl
                    simp only [List.getElem_toArray, List.getElem_cons_zero, Act.put, List.setIfInBounds_toArray, List.set_cons_zero, List.set_cons_succ]
                    refine wpAnyH_take (i := 1) (v := ?_) rfl (by kernel_rfl) (by kernel_rfl) (by kernel_rfl) (fun _ _ _ h => h) (Or.inl ⟨by kernel_rfl, ?_⟩) (by assumption) ?_
                    rotate_left
                    · intro w hSw; (try dsimp only at hSw); go_simp; first | done | with_reducible rfl
                    simp only [List.getElem_toArray, List.getElem_cons_succ, List.getElem_cons_zero, Act.put, List.setIfInBounds_toArray, List.set_cons_zero, List.set_cons_succ]
                    refine wpAnyH_take (i := 2) (v := ?_) rfl (by kernel_rfl) (by kernel_rfl) (by kernel_rfl) (fun _ _ _ h => h) (Or.inl ⟨by kernel_rfl, ?_⟩) (by assumption) ?_
                    rotate_left
                    · intro w hSw; (try dsimp only at hSw); go_simp; first | done | with_reducible rfl
                    simp only [List.getElem_toArray, List.getElem_cons_succ, List.getElem_cons_zero, Act.put, List.setIfInBounds_toArray, List.set_cons_zero, List.set_cons_succ]
                    refine wpAnyH_take (i := 3) (v := ?_) rfl (by kernel_rfl) (by kernel_rfl) (by kernel_rfl) (fun _ _ _ h => h) (Or.inl ⟨by kernel_rfl, ?_⟩) (by assumption) ?_
                    rotate_left
                    · intro w hSw; (try dsimp only at hSw); go_simp; first | done | with_reducible rfl
                    simp only [List.getElem_toArray, List.getElem_cons_succ, List.getElem_cons_zero, Act.put, List.setIfInBounds_toArray, List.set_cons_zero, List.set_cons_succ]
                    refine wpAnyH_take (i := 4) (v := ?_) rfl (by kernel_rfl) (by kernel_rfl) (by kernel_rfl) (fun _ _ _ h => h) (Or.inl ⟨by kernel_rfl, ?_⟩) (by assumption) ?_
                    rotate_left
                    · intro w hSw; (try dsimp only at hSw); go_simp; first | done | with_reducible rfl
                    simp only [List.getElem_toArray, List.getElem_cons_succ, List.getElem_cons_zero, Act.put, List.setIfInBounds_toArray, List.set_cons_zero, List.set_cons_succ]
                    refine wpAnyH_take (i := 5) (v := ?_) rfl (by kernel_rfl) (by kernel_rfl) (by kernel_rfl) (fun _ _ _ h => h) (Or.inl ⟨by kernel_rfl, ?_⟩) (by assumption) ?_
                    rotate_left
                    · intro w hSw; (try dsimp only at hSw); go_simp; first | done | with_reducible rfl
                    simp only [List.getElem_toArray, List.getElem_cons_succ, List.getElem_cons_zero, Act.put, List.setIfInBounds_toArray, List.set_cons_zero, List.set_cons_succ]
                    refine wpAnyH_take (i := 6) (v := ?_) rfl (by kernel_rfl) (by kernel_rfl) (by kernel_rfl) (fun _ _ _ h => h) (Or.inl ⟨by kernel_rfl, ?_⟩) (by assumption) ?_
                    rotate_left
                    · intro w hSw; (try dsimp only at hSw); go_simp; first | done | with_reducible rfl
                    simp only [List.getElem_toArray, List.getElem_cons_succ, List.getElem_cons_zero, Act.put, List.setIfInBounds_toArray, List.set_cons_zero, List.set_cons_succ]
                    refine wpAnyH_take (i := 7) (v := ?_) rfl (by kernel_rfl) (by kernel_rfl) (by kernel_rfl) (fun _ _ _ h => h) (Or.inl ⟨by kernel_rfl, ?_⟩) (by assumption) ?_
                    rotate_left
                    · intro w hSw; (try dsimp only at hSw); go_simp; first | done | with_reducible rfl
                    simp only [List.getElem_toArray, List.getElem_cons_succ, List.getElem_cons_zero, Act.put, List.setIfInBounds_toArray, List.set_cons_zero, List.set_cons_succ]
                    refine wpAnyH_take (i := 8) (v := ?_) rfl (by kernel_rfl) (by kernel_rfl) (by kernel_rfl) (fun _ _ _ h => h) (Or.inl ⟨by kernel_rfl, ?_⟩) (by assumption) ?_
                    rotate_left
                    · intro w hSw; (try dsimp only at hSw); go_simp; first | done | with_reducible rfl
                    simp only [List.getElem_toArray, List.getElem_cons_succ, List.getElem_cons_zero, Act.put, List.setIfInBounds_toArray, List.set_cons_zero, List.set_cons_succ]
                    refine wpAnyH_take (i := 9) (v := ?_) rfl (by kernel_rfl) (by kernel_rfl) (by kernel_rfl) (fun _ _ _ h => h) (Or.inl ⟨by kernel_rfl, ?_⟩) (by assumption) ?_
                    rotate_left
                    · intro w hSw; (try dsimp only at hSw); go_simp; first | done | with_reducible rfl
                    simp only [List.getElem_toArray, List.getElem_cons_succ, List.getElem_cons_zero, Act.put, List.setIfInBounds_toArray, List.set_cons_zero, List.set_cons_succ]
                    refine wpAnyH_take (i := 10) (v := ?_) rfl (by kernel_rfl) (by kernel_rfl) (by kernel_rfl) (fun _ _ _ h => h) (Or.inl ⟨by kernel_rfl, ?_⟩) (by assumption) ?_
                    rotate_left
                    · intro w hSw; (try dsimp only at hSw); go_simp; first | done | with_reducible rfl
                    simp only [List.getElem_toArray, List.getElem_cons_succ, List.getElem_cons_zero, Act.put, List.setIfInBounds_toArray, List.set_cons_zero, List.set_cons_succ]
                    refine wpAnyH_take (i := 11) (v := ?_) rfl (by kernel_rfl) (by kernel_rfl) (by kernel_rfl) (fun _ _ _ h => h) (Or.inl ⟨by kernel_rfl, ?_⟩) (by assumption) ?_
                    rotate_left
                    · intro w hSw; (try dsimp only at hSw); go_simp; first | done | with_reducible rfl
                    simp only [List.getElem_toArray, List.getElem_cons_succ, List.getElem_cons_zero, Act.put, List.setIfInBounds_toArray, List.set_cons_zero, List.set_cons_succ]
                    refine wpAnyH_take (i := 12) (v := ?_) rfl (by kernel_rfl) (by kernel_rfl) (by kernel_rfl) (fun _ _ _ h => h) (Or.inl ⟨by kernel_rfl, ?_⟩) (by assumption) ?_
                    rotate_left
                    · intro w hSw; (try dsimp only at hSw); go_simp; first | done | with_reducible rfl
                    simp only [List.getElem_toArray, List.getElem_cons_succ, List.getElem_cons_zero, Act.put, List.setIfInBounds_toArray, List.set_cons_zero, List.set_cons_succ]
                    refine wpAnyH_take (i := 13) (v := ?_) rfl (by kernel_rfl) (by kernel_rfl) (by kernel_rfl) (fun _ _ _ h => h) (Or.inl ⟨by kernel_rfl, ?_⟩) (by assumption) ?_
                    rotate_left
                    · intro w hSw; (try dsimp only at hSw); go_simp; first | done | with_reducible rfl
                    simp only [List.getElem_toArray, List.getElem_cons_succ, List.getElem_cons_zero, Act.put, List.setIfInBounds_toArray, List.set_cons_zero, List.set_cons_succ]
                    refine wpAnyH_take (i := 14) (v := ?_) rfl (by kernel_rfl) (by kernel_rfl) (by kernel_rfl) (fun _ _ _ h => h) (Or.inl ⟨by kernel_rfl, ?_⟩) (by assumption) ?_
                    rotate_left
                    · intro w hSw; (try dsimp only at hSw); go_simp; first | done | with_reducible rfl
                    simp only [List.getElem_toArray, List.getElem_cons_succ, List.getElem_cons_zero, Act.put, List.setIfInBounds_toArray, List.set_cons_zero, List.set_cons_succ]
                    refine wpAnyH_ready (rs := [15]) (by kernel_rfl) (by simp) ?_
                    refine AllReadyH.cons rfl (fun K hK => ?_) AllReadyH.nil
                    go_simp
                    (with_reducible refine (HC1.out _).mono ?_)
                    rintro e wc ⟨rfl, hbc⟩
                    have HBC := Lib.hid (below_then (show Below u.heap.size u u.drew from (Below.refl _ _).drew) hbc)
                    dsimp only
                    refine hK.out _ _ (HS17.out _ HBC.out) (fun hHeld2 => ?_)
                    clear hK K hHeld hbc
                    refine wpAnyH_take (i := 16) (v := ?_) rfl (by kernel_rfl) (by kernel_rfl) (by kernel_rfl) (fun _ _ _ h => h) (Or.inl ⟨by kernel_rfl, ?_⟩) (by assumption) ?_
                    rotate_left
                    · intro w hSw; (try dsimp only at hSw); go_simp; first | done | with_reducible rfl
                    simp only [List.getElem_toArray, List.getElem_cons_succ, List.getElem_cons_zero, Act.put, List.setIfInBounds_toArray, List.set_cons_zero, List.set_cons_succ]
                    refine wpAnyH_take (i := 17) (v := ?_) rfl (by kernel_rfl) (by kernel_rfl) (by kernel_rfl) (fun _ _ _ h => h) (Or.inl ⟨by kernel_rfl, ?_⟩) (by assumption) ?_
                    rotate_left
                    · intro w hSw; (try dsimp only at hSw); go_simp; first | done | with_reducible rfl
                    simp only [List.getElem_toArray, List.getElem_cons_succ, List.getElem_cons_zero, Act.put, List.setIfInBounds_toArray, List.set_cons_zero, List.set_cons_succ]
                    refine wpAnyH_take (i := 18) (v := ?_) rfl (by kernel_rfl) (by kernel_rfl) (by kernel_rfl) (fun _ _ _ h => h) (Or.inl ⟨by kernel_rfl, ?_⟩) (by assumption) ?_
                    rotate_left
                    · intro w hSw; (try dsimp only at hSw); go_simp; first | done | with_reducible rfl
                    simp only [List.getElem_toArray, List.getElem_cons_succ, List.getElem_cons_zero, Act.put, List.setIfInBounds_toArray, List.set_cons_zero, List.set_cons_succ]
                    refine wpAnyH_take (i := 19) (v := undef) rfl (by kernel_rfl) (by kernel_rfl) (by kernel_rfl) (fun _ _ _ h => h) (Or.inr ⟨by kernel_rfl, rfl⟩) (by assumption) ?_
                    simp only [List.getElem_toArray, List.getElem_cons_succ, List.getElem_cons_zero, Act.put, List.setIfInBounds_toArray, List.set_cons_zero, List.set_cons_succ]
                    refine wpAnyH_take (i := 20) (v := undef) rfl (by kernel_rfl) (by kernel_rfl) (by kernel_rfl) (fun _ _ _ h => h) (Or.inr ⟨by kernel_rfl, rfl⟩) (by assumption) ?_
                    simp only [List.getElem_toArray, List.getElem_cons_succ, List.getElem_cons_zero, Act.put, List.setIfInBounds_toArray, List.set_cons_zero, List.set_cons_succ]
                    refine wpAnyH_take (i := 21) (v := undef) rfl (by kernel_rfl) (by kernel_rfl) (by kernel_rfl) (fun _ _ _ h => h) (Or.inr ⟨by kernel_rfl, rfl⟩) (by assumption) ?_
                    simp only [List.getElem_toArray, List.getElem_cons_succ, List.getElem_cons_zero, Act.put, List.setIfInBounds_toArray, List.set_cons_zero, List.set_cons_succ]
                    refine wpAnyH_take (i := 22) (v := undef) rfl (by kernel_rfl) (by kernel_rfl) (by kernel_rfl) (fun _ _ _ h => h) (Or.inr ⟨by kernel_rfl, rfl⟩) (by assumption) ?_
                    simp only [List.getElem_toArray, List.getElem_cons_succ, List.getElem_cons_zero, Act.put, List.setIfInBounds_toArray, List.set_cons_zero, List.set_cons_succ]
                    refine wpAnyH_take (i := 23) (v := undef) rfl (by kernel_rfl) (by kernel_rfl) (by kernel_rfl) (fun _ _ _ h => h) (Or.inr ⟨by kernel_rfl, rfl⟩) (by assumption) ?_
                    simp only [List.getElem_toArray, List.getElem_cons_succ, List.getElem_cons_zero, Act.put, List.setIfInBounds_toArray, List.set_cons_zero, List.set_cons_succ]
                    refine wpAnyH_take (i := 24) (v := ?_) rfl (by kernel_rfl) (by kernel_rfl) (by kernel_rfl) (fun _ _ _ h => h) (Or.inl ⟨by kernel_rfl, ?_⟩) (by assumption) ?_
                    rotate_left
                    · intro w hSw; (try dsimp only at hSw); go_simp; first | done | with_reducible rfl
                    simp only [List.getElem_toArray, List.getElem_cons_succ, List.getElem_cons_zero, Act.put, List.setIfInBounds_toArray, List.set_cons_zero, List.set_cons_succ]
                    refine wpAnyH_take (i := 25) (v := ?_) rfl (by kernel_rfl) (by kernel_rfl) (by kernel_rfl) (fun _ _ _ h => h) (Or.inl ⟨by kernel_rfl, ?_⟩) (by assumption) ?_
                    rotate_left
                    · intro w hSw; (try dsimp only at hSw); go_simp; first | done | with_reducible rfl
                    simp only [List.getElem_toArray, List.getElem_cons_succ, List.getElem_cons_zero, Act.put, List.setIfInBounds_toArray, List.set_cons_zero, List.set_cons_succ]
                    refine wpAnyH_done (by kernel_rfl) ?_ _
                    go_wp2_with fail
                    go_meet
                    exact ⟨_, rfl, rfl, HBC.out⟩
                case true =>
                  cases p2
                  case false =>
                    as_aux_lemma =>
                      all_goals
                        first | (go_region_held3 (fun u' => Below u.heap.size u u' ∧ u'.cell? ⟨lb, q * 3 + 1, none⟩ = some (.string yl) ∧ (u'.cell? ⟨kb, 0, none⟩ = some (.string lab) ∧ u'.cell? ⟨kb, 2, none⟩ = some (.int .i64 low.kind) ∧ u'.cell? ⟨kb, 3, none⟩ = some (.int .i64 low.n) ∧ u'.cell? ⟨kb, 4, none⟩ = some (.string low.s) ∧ u'.cell? ⟨kb, 5, none⟩ = some (.int .i64 high.kind) ∧ u'.cell? ⟨kb, 6, none⟩ = some (.int .i64 high.n) ∧ u'.cell? ⟨kb, 7, none⟩ = some (.string high.s)) ∧ (u'.cell? ⟨xb, 0, none⟩ = some (.int .i64 vk) ∧ u'.cell? ⟨xb, 1, none⟩ = some (.int .i64 vn) ∧ u'.cell? ⟨xb, 2, none⟩ = some (.string vs)) ∧ lb < u'.heap.size ∧ kb < u'.heap.size ∧ xb < u'.heap.size)
                          (first | exact HS17.out _ (Below.refl _ _).drew | exact HS17.out _ HBD.out | exact HS17.out _ HBC.out)
                          (first | (go_at_call 60; (with_reducible refine (HC1.out _).mono ?_); rintro e wc ⟨rfl, hbc⟩; have HBC := Lib.hid (below_then (show Below u.heap.size u _ by go_split_ands; assumption) hbc)) | (go_at_call 60; (with_reducible refine (HC2.out _).mono ?_); rintro e wd ⟨rfl, hbd⟩; have HBD := Lib.hid (below_then (show Below u.heap.size u _ by go_split_ands; assumption) hbd)))) | fail
                      all_goals
                        go_split_ands
                        go_wp2_with fail
                        go_meet
                        exact ⟨_, rfl, rfl, by assumption⟩
                  case true =>
                    as_aux_lemma =>
                      all_goals
                        first | (go_region_held3 (fun u' => Below u.heap.size u u' ∧ u'.cell? ⟨lb, q * 3 + 1, none⟩ = some (.string yl) ∧ (u'.cell? ⟨kb, 0, none⟩ = some (.string lab) ∧ u'.cell? ⟨kb, 2, none⟩ = some (.int .i64 low.kind) ∧ u'.cell? ⟨kb, 3, none⟩ = some (.int .i64 low.n) ∧ u'.cell? ⟨kb, 4, none⟩ = some (.string low.s) ∧ u'.cell? ⟨kb, 5, none⟩ = some (.int .i64 high.kind) ∧ u'.cell? ⟨kb, 6, none⟩ = some (.int .i64 high.n) ∧ u'.cell? ⟨kb, 7, none⟩ = some (.string high.s)) ∧ (u'.cell? ⟨xb, 0, none⟩ = some (.int .i64 vk) ∧ u'.cell? ⟨xb, 1, none⟩ = some (.int .i64 vn) ∧ u'.cell? ⟨xb, 2, none⟩ = some (.string vs)) ∧ lb < u'.heap.size ∧ kb < u'.heap.size ∧ xb < u'.heap.size)
                          (first | exact HS17.out _ (Below.refl _ _).drew | exact HS17.out _ HBD.out | exact HS17.out _ HBC.out)
                          (first | (go_at_call 60; (with_reducible refine (HC1.out _).mono ?_); rintro e wc ⟨rfl, hbc⟩; have HBC := Lib.hid (below_then (show Below u.heap.size u _ by go_split_ands; assumption) hbc)) | (go_at_call 60; (with_reducible refine (HC2.out _).mono ?_); rintro e wd ⟨rfl, hbd⟩; have HBD := Lib.hid (below_then (show Below u.heap.size u _ by go_split_ands; assumption) hbd)))) | fail
                      all_goals
                        go_split_ands
                        go_wp2_with fail
                        go_meet
                        exact ⟨_, rfl, rfl, by assumption⟩
          case rest =>
          obtain ⟨u2, rfl, rfl, hb2⟩ := hcut
          rw [← HIN.out]
          have HB2 : Hid (Below wr.heap.size wr u2) := Lib.hid (below_then HU.out.1 hb2)
          obtain ⟨id, hid⟩ : ∃ n, n = y.v.id := ⟨_, rfl⟩
          have HID := Lib.hid hid
          obtain ⟨LL, hLL⟩ : ∃ l, l = labL V yl := ⟨_, rfl⟩
          have HLL : Hid (decide (id ∈ LL) = true) := Lib.hid (by rw [hid, hLL]; exact decide_eq_true ((labL_iff HIZ.out.g.ok.sv HYV.out yl).2 HYL.out.symm))
          have HLW : Hid (LL.length ≤ 50) := Lib.hid (by rw [hLL]; have := labL_len V yl; have := HIZ.out.lv; have := HKE.out; omega)
          have HGL : Hid (∀ u', Below u2.heap.size u2 u' → Calls Tryz.prog 62 #[.pointer (some ⟨gb, 0, none⟩), .string yl] u' (LbPost u' LL)) := Lib.hid (fun u' hu => by rw [hLL]; exact glabeled_any gb vb eb V E yl u' (HIZ.out.g.below (below_then (below_then HBR.out HB2.out) hu)) (by have := HIZ.out.lv; have := HKE.out; omega))
          have HHA : Hid (∀ u', Below u2.heap.size u2 u' → Calls Tryz.prog 61 #[.slice la ln lc, .int .i64 id] u' fun e w' => e = .returned (.bool (decide (id ∈ LV))) ∧ u' = w') := Lib.hid (fun u' hu => by rw [HLN.out.1]; exact has10_any la lc LV id u' (HLVZ.out.below (below_then (below_then HBR.out HB2.out) hu)) (by have := HLN.out; have := HNV.out; omega))
          rw [← hid]
          obtain ⟨qin, hqin⟩ : ∃ q, decide (id ∈ LV) = q := ⟨_, rfl⟩
          rw [hqin] at HHA ⊢
          have HS18 : Hid (∀ u', Below u2.heap.size u2 u' → Below u2.heap.size u2 u' ∧ u'.cell? ⟨lb, q * 3, none⟩ = some (.int .i64 id) ∧ u'.cell? ⟨lb, q * 3 + 1, none⟩ = some (.string yl) ∧ lb < u'.heap.size) := Lib.hid (fun u' hu => by
            obtain ⟨h0, h1, h2, h3, h4, _⟩ := HS.out u' (below_then HB2.out hu)
            exact ⟨hu, by rw [HID.out]; exact h1, by rw [HYL.out]; exact h2, h4⟩)
          have hqq : (qin != qin) = false := by cases qin <;> rfl
          clear hid hLL hqin hb2
          go_upto_region 18 with fail
          go_cut [146] from 122 to 146 (fun s wc => ∃ u', u' = wc ∧ s = .bool false ∧ Below u2.heap.size u2 u')
          case first =>
            first | (go_region_held3 (fun u' => Below u2.heap.size u2 u' ∧ u'.cell? ⟨lb, q * 3, none⟩ = some (.int .i64 id) ∧ u'.cell? ⟨lb, q * 3 + 1, none⟩ = some (.string yl) ∧ lb < u'.heap.size)
              (first | exact HS18.out _ (Below.refl _ _).drew | exact HS18.out _ HBG.out | (go_split_ands; exact HS18.out _ (by assumption)))
              (first | (go_at_call 61; (with_reducible refine (HHA.out _ (by go_split_ands; assumption)).mono ?_); rintro e wc ⟨rfl, rfl⟩) | (go_at_call 62; (with_reducible refine (HGL.out _ (by go_split_ands; assumption)).mono ?_); rintro e wg ⟨vg, rfl, hog, hbg⟩; have HBG := Lib.hid (below_then (show Below u2.heap.size u2 _ by go_split_ands; assumption) hbg); obtain ⟨ga, gc, rfl⟩ := hog.shape; have hhl := has10_any ga gc LL id wg hog.toV (by have := HLW.out; omega); rw [HLL.out] at hhl; have HHL := Lib.hid hhl; clear hhl hog hbg) | (go_at_call 61; (with_reducible refine (HHL.out).mono ?_); rintro e wc ⟨rfl, rfl⟩))) | fail
            all_goals
              go_split_ands
              go_wp2_with fail
              go_meet
              exact ⟨_, rfl, rfl, by assumption⟩
          case rest =>
          obtain ⟨u3, rfl, rfl, hb3⟩ := hcut
          obtain ⟨wq, rfl⟩ : ∃ wz : World, wz = wr := ⟨_, rfl⟩
          have HB3 : Hid (Below wq.heap.size wq u3) := Lib.hid (below_then HB2.out hb3)
          obtain ⟨pn, hpn⟩ : ∃ n, n = y.v.ps.length := ⟨_, rfl⟩
          have HPN : Hid (pn = y.v.ps.length ∧ pn ≤ 16) := Lib.hid ⟨hpn, by rw [hpn]; exact HPL.out⟩
          have HS21 : Hid (∀ u', Below wq.heap.size wq u' → u'.cell? ⟨lb, q * 3 + 2, none⟩ = some (.slice y.a pn y.c) ∧ lb < u'.heap.size) := Lib.hid (fun u' hu => by
            obtain ⟨h0, h1, h2, h3, h4, _⟩ := HS.out u' hu
            exact ⟨by rw [hpn]; exact h3, h4⟩)
          obtain ⟨ya, hya⟩ : ∃ a, a = y.a := ⟨_, rfl⟩
          have HYA := Lib.hid hya
          rw [← hya] at HS21 HPS
          have HFIN : Hid (Below wL.heap.size wL wq) := HBR
          clear hpn hya hb3 hqq
          go_wp2_with fail
          go_loopw [15] (fun i wr => ∃ j : Nat, j ≤ pn ∧ i = .int .i64 j ∧ Below u3.heap.size u3 wr) (fun i _ => pn - (intOf i).toNat)
          case atStart => exact ⟨0, Nat.zero_le _, rfl, Below.refl _ _⟩
          case round =>
            obtain ⟨j, hj, rfl, hbj⟩ := hrel
            have HBJ := Lib.hid (below_then HB3.out hbj)
            have HBJ3 := Lib.hid hbj
            obtain ⟨s2, sl⟩ := HS21.out wr HBJ.out
            have hp16 := HPN.out.2
            clear hbj
            by_cases hltj : j < pn
            · obtain ⟨p, hp⟩ : ∃ p, y.v.ps[j]? = some p := ⟨_, List.getElem?_eq_getElem (by have := HPN.out.1; omega)⟩
              obtain ⟨pb, po, rfl, hat2⟩ := HPS.out wr HBJ.out (fun e => by rw [e] at hp; simp at hp)
              obtain ⟨d0, d1, d2, d3⟩ := hat2.cells j p hp
              have pbl := hat2.lt
              have hown := valL_own HIZ.out.g.ok.sv HYV.out (checkR_zero (HIZ.out.g.ok.v y.v HYV.out)).2.2 (List.mem_of_getElem? hp)
              obtain ⟨W4, hW4⟩ : ∃ W, W = wr.alloc (.cells #[.string p.key, .int .i64 p.v.kind, .int .i64 p.v.n, .string p.v.s] 137) := ⟨_, rfl⟩
              have hb4 : Below wr.heap.size wr W4 := by rw [hW4]; exact below_box wr _
              obtain ⟨zb, hzb⟩ : ∃ z, z = wr.heap.size := ⟨_, rfl⟩
              have e4 : W4.heap[zb]? = some (.cells #[.string p.key, .int .i64 p.v.kind, .int .i64 p.v.n, .string p.v.s] 137 (0, 0)) := by rw [hW4, hzb]; exact heap_new wr _
              have HW4 := Lib.hid hW4
              have HZB := Lib.hid hzb
              have HB4 : Hid (Below u3.heap.size u3 W4) := Lib.hid (below_then HBJ3.out hb4)
              have HB4q : Hid (Below wq.heap.size wq W4) := Lib.hid (below_then HBJ.out hb4)
              obtain ⟨pk, hpk⟩ : ∃ k, k = p.key := ⟨_, rfl⟩
              obtain ⟨pv, hpv⟩ : ∃ k, k = p.v := ⟨_, rfl⟩
              rw [← hpk, ← hpv] at hown e4 HW4
              rw [← hpk] at d0
              rw [← hpv] at d1 d2 d3
              obtain ⟨vk', vn', vs'⟩ := pv
              obtain ⟨LP, hLP⟩ : ∃ l, l = valL V yl pk ⟨vk', vn', vs'⟩ ⟨vk', vn', vs'⟩ := ⟨_, rfl⟩
              have HOWN : Hid (decide (id ∈ LP) = true) := Lib.hid (by rw [HID.out, hLP, HYL.out]; exact hown)
              have HLPN : Hid (LP.length ≤ 50) := Lib.hid (by rw [hLP]; have := valL_len V yl pk ⟨vk', vn', vs'⟩ ⟨vk', vn', vs'⟩; have := HIZ.out.lv; have := HKE.out; omega)
              have HGV : Hid (∀ u', Below W4.heap.size W4 u' → Calls Tryz.prog 58 #[.pointer (some ⟨gb, 0, none⟩), .string yl, .string pk, .agg #[.int .i64 vk', .int .i64 vn', .string vs'], .agg #[.int .i64 vk', .int .i64 vn', .string vs']] u' (VdPost u' LP)) := Lib.hid (fun u' hu => by rw [hLP]; exact gvalued_any gb vb eb V E yl pk ⟨vk', vn', vs'⟩ ⟨vk', vn', vs'⟩ u' (HIZ.out.g.below (below_then (below_then HFIN.out HB4q.out) hu)) (by have := HIZ.out.lv; have := HKE.out; omega))
              have HS24 : Hid (∀ u', Below W4.heap.size W4 u' → Below W4.heap.size W4 u' ∧ u'.cell? ⟨lb, q * 3, none⟩ = some (.int .i64 id) ∧ u'.cell? ⟨lb, q * 3 + 1, none⟩ = some (.string yl) ∧ u'.cell? ⟨zb, 0, none⟩ = some (.string pk) ∧ u'.cell? ⟨zb, 1, none⟩ = some (.int .i64 vk') ∧ u'.cell? ⟨zb, 2, none⟩ = some (.int .i64 vn') ∧ u'.cell? ⟨zb, 3, none⟩ = some (.string vs') ∧ lb < u'.heap.size ∧ zb < u'.heap.size) := Lib.hid (fun u' hu => by
                obtain ⟨h0, h1, h2, h3, h4, _⟩ := HS.out u' (below_then HB4q.out hu)
                have e := (hu.block _ (Array.getElem?_eq_some_iff.1 e4).1).trans e4
                exact ⟨hu, by rw [HID.out]; exact h1, by rw [HYL.out]; exact h2, by rw [cell_of_blk e]; rfl, by rw [cell_of_blk e]; rfl, by rw [cell_of_blk e]; rfl, by rw [cell_of_blk e]; rfl, h4, (Array.getElem?_eq_some_iff.1 e).1⟩)
              clear hp hat2 hown hW4 hb4 hzb e4 hpk hpv hLP
              go_upto_region 24 with fail
              rw [← HW4.out, ← HZB.out]
              go_cut [184] from 165 to 184 (fun s wc => ∃ u', u' = wc ∧ s = .bool false ∧ Below W4.heap.size W4 u')
              case first =>
                first | (go_region_held3 (fun u' => Below W4.heap.size W4 u' ∧ u'.cell? ⟨lb, q * 3, none⟩ = some (.int .i64 id) ∧ u'.cell? ⟨lb, q * 3 + 1, none⟩ = some (.string yl) ∧ u'.cell? ⟨zb, 0, none⟩ = some (.string pk) ∧ u'.cell? ⟨zb, 1, none⟩ = some (.int .i64 vk') ∧ u'.cell? ⟨zb, 2, none⟩ = some (.int .i64 vn') ∧ u'.cell? ⟨zb, 3, none⟩ = some (.string vs') ∧ lb < u'.heap.size ∧ zb < u'.heap.size)
                  (first | exact HS24.out _ (Below.refl _ _).drew | exact HS24.out _ HBG.out)
                  (first | (go_at_call 58; (with_reducible refine (HGV.out _ (by go_split_ands; assumption)).mono ?_); rintro e wg ⟨ga, gc, rfl, hog, hbg⟩; have HBG := Lib.hid (below_then (show Below W4.heap.size W4 _ by go_split_ands; assumption) hbg); have hhl := has10_any ga gc LP id wg hog (by have := HLPN.out; omega); rw [HOWN.out] at hhl; have HHL := Lib.hid hhl; clear hhl hog hbg) | (go_at_call 61; (with_reducible refine (HHL.out).mono ?_); rintro e wc ⟨rfl, rfl⟩))) | fail
                all_goals
                  go_split_ands
                  go_wp2_with fail
                  go_meet
                  exact ⟨_, rfl, rfl, by assumption⟩
              case rest =>
              obtain ⟨u5, rfl, rfl, hb5⟩ := hcut
              have HB5 : Hid (Below u3.heap.size u3 u5) := Lib.hid (below_then HB4.out hb5)
              clear hb5
              go_wp2_with fail
              exact ⟨⟨j + 1, by omega, by go_num, HB5.out⟩, by simp [intOf]; omega⟩
            · obtain rfl : j = pn := by omega
              have HBF : Hid (Below wL.heap.size wL wr) := Lib.hid (below_then HFIN.out HBJ.out)
              go_wp2_with fail
              exact ⟨⟨q + 1, by omega, by go_num, HBF.out⟩, by simp [intOf]; omega⟩
        · obtain rfl : q = nv := by omega
          have hl1 := HLN.out.2
          have HBF : Hid (Below w.heap.size w wr) := Lib.hid (below_then (below_then HBW0.out HIZ.out.bel) hbr)
          clear hbr
          go_wp2_with fail
          go_ret
          exact ⟨by first | rfl | (rw [decide_eq_true (by omega)]), HBF.out⟩
end Go.Proofs.YtonilojjahfboaaGreat
