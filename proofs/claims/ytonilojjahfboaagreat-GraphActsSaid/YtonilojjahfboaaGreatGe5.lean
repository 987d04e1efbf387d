/- GraphEnds. Conditions: the law's own premises. -/
import Derived.Test.YtonilojjahfboaaGreatGeA
namespace Go.Proofs.YtonilojjahfboaaGreat
open Go.RowKit Go.Maps

theorem kAc_cells {w : World} {b off : Nat} {l : List Ac} (h : kAc.At w b off l) {i : Nat} {x : Ac} (hx : l[i]? = some x) :
    w.cell? ⟨b, off + i * 13, none⟩ = some (.int .i64 x.kind) ∧ w.cell? ⟨b, off + i * 13 + 1, none⟩ = some (.int .i64 x.id) ∧ w.cell? ⟨b, off + i * 13 + 2, none⟩ = some (.bool x.edge) ∧ w.cell? ⟨b, off + i * 13 + 3, none⟩ = some (.int .i64 x.v.v.id) ∧ w.cell? ⟨b, off + i * 13 + 4, none⟩ = some (.string x.v.v.label) ∧ w.cell? ⟨b, off + i * 13 + 5, none⟩ = some (.slice x.v.a x.v.v.ps.length x.v.c) ∧ w.cell? ⟨b, off + i * 13 + 6, none⟩ = some (.int .i64 x.e.e.id) ∧ w.cell? ⟨b, off + i * 13 + 7, none⟩ = some (.string x.e.e.label) ∧ w.cell? ⟨b, off + i * 13 + 8, none⟩ = some (.int .i64 x.e.e.fr) ∧ w.cell? ⟨b, off + i * 13 + 9, none⟩ = some (.int .i64 x.e.e.to) ∧ w.cell? ⟨b, off + i * 13 + 10, none⟩ = some (.slice x.e.a x.e.e.ps.length x.e.c) ∧ w.cell? ⟨b, off + i * 13 + 11, none⟩ = some (.slice x.pa x.ps.length x.pc) ∧ w.cell? ⟨b, off + i * 13 + 12, none⟩ = some (.slice x.ka x.ks.length x.kc) :=
  ⟨h.cells i x hx 0 _ rfl, h.cells i x hx 1 _ rfl, h.cells i x hx 2 _ rfl, h.cells i x hx 3 _ rfl, h.cells i x hx 4 _ rfl, h.cells i x hx 5 _ rfl, h.cells i x hx 6 _ rfl, h.cells i x hx 7 _ rfl, h.cells i x hx 8 _ rfl, h.cells i x hx 9 _ rfl, h.cells i x hx 10 _ rfl, h.cells i x hx 11 _ rfl, h.cells i x hx 12 _ rfl⟩
/-- the graph between two acts -/
structure EnI (w : World) (gb vb eb k : Nat) (V : List Vt) (E : List Eg) (wr : World) : Prop where
  g : GrC wr gb vb eb V E
  bel : Below w.heap.size w wr
  lv : V.length ≤ k
  le : E.length ≤ k
  vb : w.heap.size ≤ vb ∧ vb < wr.heap.size
  eb : w.heap.size ≤ eb ∧ eb < wr.heap.size
theorem sumE_le (E : List Eg) : ∀ l : List Vt, sumE E l ≤ l.length * (2 * E.length)
  | [] => Nat.zero_le _
  | a :: l => by
    have e1 : sumE E (a :: l) = ((idsE E (outP a.id)).length + (idsE E (inP a.id)).length) + sumE E l := by unfold sumE; simp
    have h1 := sumE_le E l
    have h2 := idsE_len E (outP a.id)
    have h3 := idsE_len E (inP a.id)
    rw [e1, List.length_cons, Nat.succ_mul]
    omega
theorem EnI.below {w wr w' : World} {gb vb eb k : Nat} {V : List Vt} {E : List Eg} (h : EnI w gb vb eb k V E wr) (hb : Below wr.heap.size wr w') : EnI w gb vb eb k V E w' :=
  ⟨h.g.below hb, below_then h.bel hb, h.lv, h.le, ⟨h.vb.1, Nat.lt_of_lt_of_le h.vb.2 hb.size⟩, ⟨h.eb.1, Nat.lt_of_lt_of_le h.eb.2 hb.size⟩⟩
set_option maxRecDepth 100000 in
set_option maxHeartbeats 16000000 in
theorem ends_any (a : Option Addr) (cap : Nat) (acts : List Ac) (w : World) (hv : kAc.V w a acts) (hr : ∀ x ∈ acts, AcRaw w x) (hm : acts.length ≤ maxLen) :
    Calls Tryz.prog 3 #[.slice a acts.length cap] w fun e w' => e = .returned (.bool true) ∧ Below w.heap.size w w' := by
  unfold maxLen at hm
  by_cases h80 : 80 < acts.length
  · have t1 : decide (80 < acts.length) = true := decide_eq_true h80
    have t2 : decide ((80 : Int) < (acts.length : Int)) = true := decide_eq_true (by omega)
    clear h80 hv hr
    go_enter Tryz.func3, Tryz.ntmps3
    go_wp2_with fail
    refine (awake16_any w).mono ?_
    rintro e w1 ⟨rfl, hb1⟩
    have HB1 := Lib.hid hb1
    clear hb1
    go_wp2_with fail
    refine (awake16_any w1).mono ?_
    rintro e w2 ⟨rfl, hb2⟩
    have HB2 := Lib.hid (below_then HB1.out hb2)
    clear hb2
    go_wp2_with fail
    go_ret
    exact ⟨rfl, HB2.out⟩
  have t1 : decide (80 < acts.length) = false := decide_eq_false h80
  have t2 : decide ((80 : Int) < (acts.length : Int)) = false := decide_eq_false (by omega)
  have HV := Lib.hid hv
  have HR := Lib.hid hr
  obtain ⟨na, hna⟩ : ∃ n, n = acts.length := ⟨_, rfl⟩
  have HN : Hid (na = acts.length ∧ na ≤ 80) := Lib.hid ⟨hna, by omega⟩
  rw [← hna] at t1 t2 ⊢
  clear hv hr h80 hm hna
  go_enter Tryz.func3, Tryz.ntmps3
  go_wp2_with fail
  refine (awake16_any w).mono ?_
  rintro e w1 ⟨rfl, hb1⟩
  have HB1 := Lib.hid hb1
  clear hb1
  go_wp2_with fail
  refine (gnew_any w1).mono ?_
  rintro e w2 ⟨rfl, hg2, hb2⟩
  obtain ⟨gb, hgb⟩ : ∃ g, g = w1.heap.size + 2 := ⟨_, rfl⟩
  rw [← hgb] at hg2 ⊢
  have HI0 : Hid (EnI w gb w1.heap.size (w1.heap.size + 1) 0 [] [] w2) := Lib.hid ⟨hg2, below_then HB1.out hb2, Nat.le_refl _, Nat.le_refl _, ⟨HB1.out.size, hg2.ltV⟩, ⟨by have := HB1.out.size; omega, hg2.ltE⟩⟩
  obtain ⟨vb, hvb⟩ : ∃ g, g = w1.heap.size := ⟨_, rfl⟩
  obtain ⟨eb, heb⟩ : ∃ g, g = w1.heap.size + 1 := ⟨_, rfl⟩
  rw [← heb, ← hvb] at HI0
  clear hg2 hb2 hgb hvb heb t1 t2
  go_wp2_with fail
  go_loopw [4] (fun i wr => ∃ k : Nat, ∃ (V : List Vt) (E : List Eg), k ≤ na ∧ i = .int .i64 k ∧ Hid (EnI w gb vb eb k V E wr)) (fun i _ => na - (intOf i).toNat)
  case atStart => exact ⟨0, [], [], Nat.zero_le _, rfl, HI0⟩
  case round =>
    clear HI0
    obtain ⟨k, V, E, hk, rfl, HI⟩ := hrel
    have hn80 := HN.out.2
    by_cases hlt : k < na
    · obtain ⟨x, hx⟩ : ∃ x, acts[k]? = some x := ⟨_, List.getElem?_eq_getElem (by have := HN.out.1; omega)⟩
      obtain ⟨b, off, rfl, hat⟩ := (HV.out.below HI.out.bel) (fun e => by rw [e] at hx; simp at hx)
      obtain ⟨c0, c1, c2, c3, c4, c5, c6, c7, c8, c9, c10, c11, c12⟩ := kAc_cells hat hx
      have hbl := hat.lt
      have HX := Lib.hid ((HR.out x (List.mem_of_getElem? hx)).below HI.out.bel)
      obtain ⟨W, hW⟩ : ∃ W, W = wr.alloc (.cells #[.int .i64 x.kind, .int .i64 x.id, .bool x.edge, .int .i64 x.v.v.id, .string x.v.v.label, .slice x.v.a x.v.v.ps.length x.v.c, .int .i64 x.e.e.id, .string x.e.e.label, .int .i64 x.e.e.fr, .int .i64 x.e.e.to, .slice x.e.a x.e.e.ps.length x.e.c, .slice x.pa x.ps.length x.pc, .slice x.ka x.ks.length x.kc] 33) := ⟨_, rfl⟩
      have hBW : Below wr.heap.size wr W := by rw [hW]; exact below_box wr _
      obtain ⟨ab, hab⟩ : ∃ b, b = wr.heap.size := ⟨_, rfl⟩
      have hbx : AcBox W ab x := by unfold AcBox; rw [hW, hab]; exact heap_new wr _
      have HIW : Hid (EnI w gb vb eb k V E W) := Lib.hid (HI.out.below hBW)
      have HXW := Lib.hid (HX.out.below hBW)
      have HBX := Lib.hid hbx
      have HW := Lib.hid hW
      have HAB := Lib.hid hab
      clear hx hat hW hBW hab hbx
      go_upto_region 8 with fail
      rw [← HW.out, ← HAB.out]
      obtain ⟨p0, p1, p2, p3, p4, p5, p6, p7, p8, p9, p10, p11, p12, pl⟩ := HBX.out.cells
      obtain ⟨sm, hsm⟩ : ∃ q, x.small = q := ⟨_, rfl⟩
      have hcs := small16_any x W HXW.out
      rw [hsm] at hcs
      have HCS := Lib.hid hcs
      have HSM := Lib.hid hsm
      clear hcs hsm c0 c1 c2 c3 c4 c5 c6 c7 c8 c9 c10 c11 c12
      cases sm
      · go_wp2_with (go_at_call 16; refine HCS.out.mono ?_; rintro e w5 ⟨rfl, hb5⟩; have HB5 := Lib.hid hb5; clear hb5)
        go_ret
        exact ⟨rfl, (HIW.out.below HB5.out).bel⟩
      go_upto_region 10 with (go_at_call 16; refine HCS.out.mono ?_; rintro e w5 ⟨rfl, hb5⟩; have HB5 := Lib.hid hb5; clear hb5)
      obtain ⟨rb, hrb⟩ : ∃ b, b = w5.heap.size := ⟨_, rfl⟩
      obtain ⟨W5, hW5⟩ : ∃ W5, W5 = w5.alloc (.cells #[.slice none 0 0, .slice none 0 0] 39) := ⟨_, rfl⟩
      have hb55 : Below w5.heap.size w5 W5 := by rw [hW5]; exact below_box w5 _
      have hBW5 : Below W.heap.size W W5 := below_then HB5.out hb55
      have hr5 : RgL W5 rb (rb + 1) [] [] := ⟨⟨none, 0, none, 0, by rw [hW5, hrb]; exact heap_new w5 _, RowK.Own.nil kVr _ _, RowK.Own.nil kEr _ _⟩, (fun x hx => by cases hx), (fun x hx => by cases hx), by omega⟩
      have hi5 := HIW.out.below hBW5
      have hz5 : rb + 1 ≤ W5.heap.size := by rw [hW5, hrb]; simp
      have hwr5 : wr.heap.size < rb := by have := HAB.out; have := (Array.getElem?_eq_some_iff.1 HBX.out).1; have := HB5.out.size; omega
      have hd := does16_nil gb vb eb rb V E x W5 hi5.g hr5 hz5 (by have := HI.out.vb.2; omega) (by have := HI.out.eb.2; omega) (HXW.out.below hBW5) HSM.out (by have := HI.out.lv; omega) (by have := HI.out.le; omega)
      have HD := Lib.hid hd
      have HI5 := Lib.hid hi5
      have HW5 := Lib.hid hW5
      have HRB := Lib.hid hrb
      have HRZ : Hid (w.heap.size ≤ rb) := Lib.hid (by have := HI.out.bel.size; omega)
      have hbx5 : AcBox w5 ab x := (HB5.out.block ab (Array.getElem?_eq_some_iff.1 HBX.out).1).trans HBX.out
      clear p0 p1 p2 p3 p4 p5 p6 p7 p8 p9 p10 p11 p12 pl hd hi5 hr5 hz5 hwr5 hb55 hBW5
      obtain ⟨p0, p1, p2, p3, p4, p5, p6, p7, p8, p9, p10, p11, p12, pl⟩ := hbx5.cells
      clear hbx5
      go_wp2_with (first | (go_at_call 17; rw [← HW5.out, ← HRB.out]; refine HD.out.mono ?_; rintro e w6 ⟨⟨q6, rfl⟩, hg6, hc6⟩; have HG6 := Lib.hid hg6; have HC6 := Lib.hid hc6; clear hg6 hc6) | fail)
      obtain ⟨V2, hV2⟩ : ∃ v, v = (stepG V E x).1 := ⟨_, rfl⟩
      obtain ⟨E2, hE2⟩ : ∃ v, v = (stepG V E x).2 := ⟨_, rfl⟩
      have HI6 : Hid (EnI w gb vb eb (k + 1) V2 E2 w6) := Lib.hid (by
        obtain ⟨l1, l2⟩ := stepG_len V E x
        have h5 := HI5.out
        refine ⟨by rw [hV2, hE2]; exact HG6.out, h5.bel.trans (HC6.out.below h5.bel.size ?_), by rw [hV2]; have := h5.lv; omega, by rw [hE2]; have := h5.le; omega, ⟨h5.vb.1, Nat.lt_of_lt_of_le h5.vb.2 HC6.out.size⟩, ⟨h5.eb.1, Nat.lt_of_lt_of_le h5.eb.2 HC6.out.size⟩⟩
        rintro q (e | e | e)
        · rw [e]; exact h5.vb.1
        · rw [e]; exact h5.eb.1
        · rw [e]; exact HRZ.out)
      clear p0 p1 p2 p3 p4 p5 p6 p7 p8 p9 p10 p11 p12 pl hV2 hE2
      refine (gall_any gb vb eb V2 E2 w6 HI6.out.g (by have := HI6.out.lv; omega) (by have := HI6.out.le; omega)).mono ?_
      rintro e wA ⟨v1, v2, VL, EL, rfl, hr1, hr2, hvl, hel, hbA⟩
      obtain ⟨va, vc, rfl⟩ := hr1.o.shape
      obtain ⟨ea, ec, rfl⟩ := hr2.o.shape
      obtain ⟨nv, hnv⟩ : ∃ n, n = VL.length := ⟨_, rfl⟩
      obtain ⟨ne, hne⟩ : ∃ n, n = EL.length := ⟨_, rfl⟩
      have HNV : Hid (nv = V2.length ∧ nv ≤ 81) := Lib.hid (by have h1 : V2.length = VL.length := by rw [← hvl, List.length_map]
                                                               have := HI6.out.lv; omega)
      have HNE : Hid (ne = E2.length ∧ ne ≤ 81) := Lib.hid (by have h1 : E2.length = EL.length := by rw [← hel, List.length_map]
                                                               have := HI6.out.le; omega)
      have HIA : Hid (EnI w gb vb eb (k + 1) V2 E2 wA) := Lib.hid (HI6.out.below hbA)
      have HOV := Lib.hid hr1.o
      have HVL := Lib.hid hvl
      rw [← hnv] at HOV ⊢
      rw [← hne]
      clear hr1 hr2 hvl hel hbA hnv hne
      go_wp2_with fail
      go_loopw [8, 9] (fun s i wr => ∃ q : Nat, q ≤ nv ∧ i = .int .i64 q ∧ .int .i64 ((sumE E2 (V2.take q) : Nat) : Int) = s ∧ Below wA.heap.size wA wr) (fun _ i _ => nv - (intOf i).toNat)
      case atStart => exact ⟨0, Nat.zero_le _, rfl, rfl, Below.refl _ _⟩
      case round =>
        obtain ⟨q, hq, rfl, rfl, hbr⟩ := hrel
        have hn81 := HNV.out.2
        by_cases hltq : q < nv
        · obtain ⟨y, hy⟩ : ∃ y, VL[q]? = some y := ⟨_, List.getElem?_eq_getElem (by have h1 := congrArg List.length HVL.out; rw [List.length_map] at h1; have := HNV.out.1; omega)⟩
          obtain ⟨lb, lcap, hsl, _, _, hat⟩ := (HOV.out.below hbr).at' (fun e => by rw [e] at hy; simp at hy)
          injection hsl with e1 e2 e3
          subst e1
          have hY2 : V2[q]? = some y.v := by rw [← HVL.out, List.getElem?_map, hy]; rfl
          have hlb0 : lb < wA.heap.size := (HOV.out.lt lb rfl).2
          have KY : Hid (∀ w', Below wA.heap.size wA w' → w'.cell? ⟨lb, q * 3, none⟩ = some (.int .i64 y.v.id) ∧ lb < w'.heap.size) := Lib.hid (fun w' hb => by
            obtain ⟨lb', lcap', hsl', _, _, hat'⟩ := (HOV.out.below hb).at' (fun e => by rw [e] at hy; simp at hy)
            injection hsl' with e1' e2' e3'
            injection e1' with e1'
            injection e1' with e1'
            subst e1'
            have := hat'.cells q y hy 0 _ rfl
            rw [Nat.zero_add] at this
            exact ⟨this, hat'.lt⟩)
          have HID : Hid (I64 y.v.id) := Lib.hid (checkR_ids (HIA.out.g.ok.v y.v (List.mem_of_getElem? hY2)) (by simp))
          have HSUM : Hid (sumE E2 (V2.take (q + 1)) = sumE E2 (V2.take q) + ((idsE E2 (outP y.v.id)).length + (idsE E2 (inP y.v.id)).length)) := Lib.hid (by rw [List.take_add_one, hY2]; exact sumE_snoc _ _ _)
          have HBR := Lib.hid hbr
          have HE1K : Hid (E2.length ≤ 1000000) := Lib.hid (by have := HIA.out.le; omega)
          obtain ⟨id, hid⟩ : ∃ n, n = y.v.id := ⟨_, rfl⟩
          rw [← hid] at KY HID HSUM
          have HKS : Hid (∀ w', Below wr.heap.size wr w' → Below wr.heap.size wr w' ∧ w'.cell? ⟨lb, q * 3, none⟩ = some (.int .i64 id) ∧ lb < w'.heap.size) := Lib.hid (fun w' hb => ⟨hb, (KY.out w' (below_then HBR.out hb)).1, (KY.out w' (below_then HBR.out hb)).2⟩)
          clear hy hat e2 e3 hY2 hid hlb0
          go_upto_region 16 with fail
          go_region_held3 (fun w' => Below wr.heap.size wr w' ∧ w'.cell? ⟨lb, q * 3, none⟩ = some (.int .i64 id) ∧ lb < w'.heap.size)
            (first | exact HKS.out _ (Below.refl _ _).drew | exact HKS.out _ HBO.out | exact HKS.out _ HBI.out)
            (first | (go_at_call 19; (with_reducible refine (gout_any gb vb eb V2 E2 id _ (HIA.out.g.below (below_then HBR.out (Below.refl _ _).drew)) HE1K.out).mono ?_); rintro e w7 ⟨vo, rfl, ho, hb7⟩; have HBO := Lib.hid (below_then (Below.refl _ _).drew hb7); have HOO := Lib.hid ho; clear ho hb7) | (go_at_call 20; (with_reducible refine (gin_any gb vb eb V2 E2 id _ (HIA.out.g.below (below_then HBR.out HBO.out)) HE1K.out).mono ?_); rintro e w8 ⟨vi, rfl, hoi, hb8⟩; have HBI := Lib.hid (below_then HBO.out hb8); have HOI := Lib.hid hoi; have HOO8 := Lib.hid (HOO.out.below hb8); clear hoi hb8) | fail)
          all_goals
            go_split_ands
            obtain ⟨Lo, hLo⟩ : ∃ l, l = idsE E2 (outP id) := ⟨_, rfl⟩
            obtain ⟨Li, hLi⟩ : ∃ l, l = idsE E2 (inP id) := ⟨_, rfl⟩
            have HLo := Lib.hid hLo
            have HLi := Lib.hid hLi
            have HOO := HOO8
            rw [← hLo] at HOO
            rw [← hLi] at HOI
            obtain ⟨oa, oc, rfl⟩ := HOO.out.shape
            obtain ⟨ia, ic, rfl⟩ := HOI.out.shape
            obtain ⟨lo, hlo⟩ : ∃ n, n = Lo.length := ⟨_, rfl⟩
            obtain ⟨li, hli⟩ : ∃ n, n = Li.length := ⟨_, rfl⟩
            have HLO : Hid (lo = Lo.length ∧ lo ≤ 81) := Lib.hid ⟨hlo, by rw [hlo, hLo]; have := idsE_len E2 (outP id); have := HIA.out.le; omega⟩
            have HLI : Hid (li = Li.length ∧ li ≤ 81) := Lib.hid ⟨hli, by rw [hli, hLi]; have := idsE_len E2 (inP id); have := HIA.out.le; omega⟩
            rw [← hlo] at HOO ⊢
            rw [← hli] at HOI ⊢
            obtain ⟨sq, hsq⟩ : ∃ n, n = sumE E2 (V2.take q) := ⟨_, rfl⟩
            have HSQ := Lib.hid hsq.symm
            have hsb : sq ≤ 81 * 162 := by
              have h1 := sumE_le E2 (V2.take q)
              have h2 : (V2.take q).length ≤ 81 := by rw [List.length_take]; omega
              have h3 : 2 * E2.length ≤ 162 := by have := HIA.out.le; omega
              rw [hsq]
              exact Nat.le_trans h1 (Nat.mul_le_mul h2 h3)
            rw [← hsq]
            have hb1' := HLO.out.2
            have hb2' := HLI.out.2
            have hw1 : IntKind.i64.wrap ((lo : Int) + (li : Int)) = (lo : Int) + (li : Int) := by rw [IntKind.wrap_i64]; omega
            have hw2 : IntKind.i64.wrap ((sq : Int) + ((lo : Int) + (li : Int))) = (sq : Int) + ((lo : Int) + (li : Int)) := by rw [IntKind.wrap_i64]; omega
            have HBW8 := HBI
            clear hLo hLi hlo hli hsq hsb HOO8
            go_wp2_with fail
            go_loopw [12] (fun i wr => ∃ j : Nat, j ≤ lo ∧ i = .int .i64 j ∧ Below w8.heap.size w8 wr) (fun i _ => lo - (intOf i).toNat)
            case atStart => exact ⟨0, Nat.zero_le _, rfl, Below.refl _ _⟩
            case round =>
              obtain ⟨j, hj, rfl, hbj⟩ := hrel
              obtain ⟨wi, rfl⟩ : ∃ wz : World, wz = wr := ⟨_, rfl⟩
              have hlb9 := HLO.out.2
              have HBJ := Lib.hid (below_then HBW8.out hbj)
              have HBJ8 := Lib.hid hbj
              by_cases hltj : j < lo
              · obtain ⟨m, hm⟩ : ∃ m, Lo[j]? = some m := ⟨_, List.getElem?_eq_getElem (by rw [← HLO.out.1]; exact hltj)⟩
                obtain ⟨ob, ocap, hso, _, _, oat⟩ := (HOO.out.below hbj).at' (fun e => by rw [e] at hm; simp at hm)
                injection hso with f1 f2 f3
                subst f1
                have o0 := oat.cells j m hm 0 _ rfl
                have ol := oat.lt
                obtain ⟨g, hg1, hg2⟩ := idsE_at HIA.out.g.ok.se (by rw [← HLo.out]; exact hm)
                have hgm : g ∈ E2 := (findB_some hg1).1
                have HMI : Hid (I64 m) := Lib.hid (by have := checkR_ids (HIA.out.g.ok.e g hgm) (n := g.id) (by simp); rw [(findB_some hg1).2] at this; exact this)
                have HGE : Hid (getE E2 m = g) := Lib.hid (by unfold getE; rw [hg1]; rfl)
                have HGS : Hid ((findB Eg.id E2 m).isSome = true) := Lib.hid (by rw [hg1]; rfl)
                have HFR : Hid (g.fr = id) := Lib.hid (by have : (g.fr == id) = true := hg2; simpa using this)
                have HKO : Hid (∀ w', Below wi.heap.size wi w' → w'.cell? ⟨ob, j, none⟩ = some (.int .i64 m) ∧ ob < w'.heap.size ∧ ∀ j' m', j = j' + 1 → Lo[j']? = some m' → w'.cell? ⟨ob, j', none⟩ = some (.int .i64 m')) := Lib.hid (fun w' hb => by
                  have e1 := oat.of_block (hb.block ob oat.lt)
                  have k1 := e1.cells j m hm 0 _ rfl
                  simp [kI] at k1
                  refine ⟨k1, e1.lt, fun j' m' _ hm' => ?_⟩
                  have k2 := e1.cells j' m' hm' 0 _ rfl
                  simp [kI] at k2
                  exact k2)
                have HINC : Hid (∀ j' m', j = j' + 1 → Lo[j']? = some m' → m' < m) := Lib.hid (fun j' m' e hm' => by
                  have h1 : IncI Lo := by rw [HLo.out]; exact idsE_inc HIA.out.g.ok.se _
                  exact incI_at h1 hm' (by rw [← e]; exact hm))
                simp [kI] at o0
                have HPV : Hid (∀ j', j = j' + 1 → ∃ m', Lo[j']? = some m') := Lib.hid (fun j' e => ⟨_, List.getElem?_eq_getElem (by rw [← HLO.out.1]; omega)⟩)
                have HED := Lib.hid (gedge_any gb vb eb V2 E2 m wi (HIA.out.g.below (below_then HBR.out HBJ.out)) HMI.out)
                obtain ⟨y1, y2⟩ := KY.out wi (below_then HBR.out HBJ.out)
                clear hm oat f2 f3 hg1 hg2 hgm
                go_upto_region 22 with (go_at_call 21; refine HED.out.mono ?_; rintro e w9 ⟨xa, xc, rfl, _, hb9⟩; rw [HGE.out, HGS.out]; unfold Eg.val; have HB9 := Lib.hid hb9; clear hb9)
                obtain ⟨W9, hW9⟩ : ∃ W9, W9 = w9.alloc (.cells #[.int .i64 g.id, .string g.label, .int .i64 g.fr, .int .i64 g.to, .slice xa g.ps.length xc] 30) := ⟨_, rfl⟩
                have hb99 : Below w9.heap.size w9 W9 := by rw [hW9]; exact below_box w9 _
                have e9 : W9.heap[w9.heap.size]? = some (.cells #[.int .i64 g.id, .string g.label, .int .i64 g.fr, .int .i64 g.to, .slice xa g.ps.length xc] 30) := by rw [hW9]; exact heap_new w9 _
                have q2 := cell_of_blk e9 2
                have ql := (Array.getElem?_eq_some_iff.1 e9).1
                simp at q2
                rw [HFR.out] at q2
                rw [← hW9]
                obtain ⟨b9, hb9⟩ : ∃ b, b = w9.heap.size := ⟨_, rfl⟩
                rw [← hb9] at q2 ql ⊢
                have HBF := Lib.hid (below_then HB9.out hb99)
                obtain ⟨y1, y2⟩ := KY.out W9 (below_then (below_then HBR.out HBJ.out) HBF.out)
                obtain ⟨o0, ol, _⟩ := HKO.out W9 HBF.out
                clear hW9 hb99 e9 hb9
                rcases Nat.eq_zero_or_pos j with hj0 | hj0
                · subst hj0
                  go_quiet (fail)
                  go_wp2_with fail
                  exact ⟨⟨1, by omega, by go_num, below_drewN (below_then HBJ8.out HBF.out) _⟩, by simp [intOf]; omega⟩
                · obtain ⟨j', hj'⟩ : ∃ j', j = j' + 1 := ⟨j - 1, by omega⟩
                  obtain ⟨m', hm'⟩ := HPV.out j' hj'
                  have o1 := (HKO.out W9 HBF.out).2.2 j' m' hj' hm'
                  have hlt9 := HINC.out j' m' hj' hm'
                  have t9 : decide (m ≤ m') = false := decide_eq_false (by omega)
                  have t8 : decide (0 < j) = true := decide_eq_true hj0
                  have t7 : decide ((0 : Int) < (j : Int)) = true := decide_eq_true (by omega)
                  have w9' : IntKind.i64.wrap ((j : Int) - 1) = (j' : Int) := by rw [IntKind.wrap_i64]; omega
                  have hz1 : (j' : Int) < (lo : Int) := by omega
                  have HJ' := Lib.hid hj'
                  clear hm' hlt9 hj'
                  go_quiet (fail)
                  go_wp2_with fail
                  exact ⟨⟨j + 1, by omega, by go_num, below_drewN (below_then HBJ8.out HBF.out) _⟩, by simp [intOf]; omega⟩
              · obtain rfl : j = lo := by omega
                have HBWI := Lib.hid (below_then HBW8.out hbj)
                have HOI2 := Lib.hid (HOI.out.below hbj)
                clear HOI
                have HOI := HOI2
                clear HOI2 hbj hltj hj
                go_wp2_with fail
                go_loopw [15] (fun i wr => ∃ j : Nat, j ≤ li ∧ i = .int .i64 j ∧ Below wi.heap.size wi wr) (fun i _ => li - (intOf i).toNat)
                case atStart => exact ⟨0, Nat.zero_le _, rfl, Below.refl _ _⟩
                case round =>
                  obtain ⟨j, hj, rfl, hbj⟩ := hrel
                  obtain ⟨wj, rfl⟩ : ∃ wz : World, wz = wr := ⟨_, rfl⟩
                  have hlb9 := HLI.out.2
                  have HBJ := Lib.hid (below_then HBWI.out hbj)
                  have HBJ8 := Lib.hid hbj
                  by_cases hltj : j < li
                  · obtain ⟨m, hm⟩ : ∃ m, Li[j]? = some m := ⟨_, List.getElem?_eq_getElem (by rw [← HLI.out.1]; exact hltj)⟩
                    obtain ⟨ob, ocap, hso, _, _, oat⟩ := (HOI.out.below hbj).at' (fun e => by rw [e] at hm; simp at hm)
                    injection hso with f1 f2 f3
                    subst f1
                    have o0 := oat.cells j m hm 0 _ rfl
                    have ol := oat.lt
                    obtain ⟨g, hg1, hg2⟩ := idsE_at HIA.out.g.ok.se (by rw [← HLi.out]; exact hm)
                    have hgm : g ∈ E2 := (findB_some hg1).1
                    have HMI : Hid (I64 m) := Lib.hid (by have := checkR_ids (HIA.out.g.ok.e g hgm) (n := g.id) (by simp); rw [(findB_some hg1).2] at this; exact this)
                    have HGE : Hid (getE E2 m = g) := Lib.hid (by unfold getE; rw [hg1]; rfl)
                    have HGS : Hid ((findB Eg.id E2 m).isSome = true) := Lib.hid (by rw [hg1]; rfl)
                    have HFR : Hid (g.to = id) := Lib.hid (by have : (g.to == id) = true := hg2; simpa using this)
                    have HKO : Hid (∀ w', Below wj.heap.size wj w' → w'.cell? ⟨ob, j, none⟩ = some (.int .i64 m) ∧ ob < w'.heap.size ∧ ∀ j' m', j = j' + 1 → Li[j']? = some m' → w'.cell? ⟨ob, j', none⟩ = some (.int .i64 m')) := Lib.hid (fun w' hb => by
                      have e1 := oat.of_block (hb.block ob oat.lt)
                      have k1 := e1.cells j m hm 0 _ rfl
                      simp [kI] at k1
                      refine ⟨k1, e1.lt, fun j' m' _ hm' => ?_⟩
                      have k2 := e1.cells j' m' hm' 0 _ rfl
                      simp [kI] at k2
                      exact k2)
                    have HINC : Hid (∀ j' m', j = j' + 1 → Li[j']? = some m' → m' < m) := Lib.hid (fun j' m' e hm' => by
                      have h1 : IncI Li := by rw [HLi.out]; exact idsE_inc HIA.out.g.ok.se _
                      exact incI_at h1 hm' (by rw [← e]; exact hm))
                    simp [kI] at o0
                    have HPV : Hid (∀ j', j = j' + 1 → ∃ m', Li[j']? = some m') := Lib.hid (fun j' e => ⟨_, List.getElem?_eq_getElem (by rw [← HLI.out.1]; omega)⟩)
                    have HED := Lib.hid (gedge_any gb vb eb V2 E2 m wj (HIA.out.g.below (below_then HBR.out HBJ.out)) HMI.out)
                    obtain ⟨y1, y2⟩ := KY.out wj (below_then HBR.out HBJ.out)
                    clear hm oat f2 f3 hg1 hg2 hgm
                    go_upto_region 28 with (go_at_call 21; refine HED.out.mono ?_; rintro e w9 ⟨xa, xc, rfl, _, hb9⟩; rw [HGE.out, HGS.out]; unfold Eg.val; have HB9 := Lib.hid hb9; clear hb9)
                    obtain ⟨W9, hW9⟩ : ∃ W9, W9 = w9.alloc (.cells #[.int .i64 g.id, .string g.label, .int .i64 g.fr, .int .i64 g.to, .slice xa g.ps.length xc] 30) := ⟨_, rfl⟩
                    have hb99 : Below w9.heap.size w9 W9 := by rw [hW9]; exact below_box w9 _
                    have e9 : W9.heap[w9.heap.size]? = some (.cells #[.int .i64 g.id, .string g.label, .int .i64 g.fr, .int .i64 g.to, .slice xa g.ps.length xc] 30) := by rw [hW9]; exact heap_new w9 _
                    have q3 := cell_of_blk e9 3
                    have ql := (Array.getElem?_eq_some_iff.1 e9).1
                    simp at q3
                    rw [HFR.out] at q3
                    rw [← hW9]
                    obtain ⟨b9, hb9⟩ : ∃ b, b = w9.heap.size := ⟨_, rfl⟩
                    rw [← hb9] at q3 ql ⊢
                    have HBF := Lib.hid (below_then HB9.out hb99)
                    obtain ⟨y1, y2⟩ := KY.out W9 (below_then (below_then HBR.out HBJ.out) HBF.out)
                    obtain ⟨o0, ol, _⟩ := HKO.out W9 HBF.out
                    clear hW9 hb99 e9 hb9
                    rcases Nat.eq_zero_or_pos j with hj0 | hj0
                    · subst hj0
                      go_quiet (fail)
                      go_wp2_with fail
                      exact ⟨⟨1, by omega, by go_num, below_drewN (below_then HBJ8.out HBF.out) _⟩, by simp [intOf]; omega⟩
                    · obtain ⟨j', hj'⟩ : ∃ j', j = j' + 1 := ⟨j - 1, by omega⟩
                      obtain ⟨m', hm'⟩ := HPV.out j' hj'
                      have o1 := (HKO.out W9 HBF.out).2.2 j' m' hj' hm'
                      have hlt9 := HINC.out j' m' hj' hm'
                      have t9 : decide (m ≤ m') = false := decide_eq_false (by omega)
                      have t8 : decide (0 < j) = true := decide_eq_true hj0
                      have t7 : decide ((0 : Int) < (j : Int)) = true := decide_eq_true (by omega)
                      have w9' : IntKind.i64.wrap ((j : Int) - 1) = (j' : Int) := by rw [IntKind.wrap_i64]; omega
                      have hz1 : (j' : Int) < (li : Int) := by omega
                      have HJ' := Lib.hid hj'
                      clear hm' hlt9 hj'
                      go_quiet (fail)
                      go_wp2_with fail
                      exact ⟨⟨j + 1, by omega, by go_num, below_drewN (below_then HBJ8.out HBF.out) _⟩, by simp [intOf]; omega⟩
                  · obtain rfl : j = li := by omega
                    have HBWJ := Lib.hid (below_then HBWI.out hbj)
                    clear hbj hltj hj
                    go_wp2_with fail
                    exact ⟨⟨q + 1, by omega, by go_num, by rw [HSUM.out, HSQ.out, ← HLo.out, ← HLi.out, ← HLO.out.1, ← HLI.out.1]; go_num, below_then HBR.out HBWJ.out⟩, by simp [intOf]; omega⟩
        · obtain rfl : q = nv := by omega
          have HSF : Hid (sumE E2 (V2.take q) = 2 * ne) := Lib.hid (by rw [List.take_of_length_le (by have := HNV.out.1; omega), ends_sum HIA.out.g.ok, HNE.out.1])
          rw [HSF.out]
          have hne9 := HNE.out.2
          have hw3 : IntKind.i64.wrap (2 * (ne : Int)) = 2 * (ne : Int) := by rw [IntKind.wrap_i64]; omega
          have t3 : (((2 * ne : Nat) : Int) == 2 * (ne : Int)) = true := by simp
          have HI9 : Hid (EnI w gb vb eb (k + 1) V2 E2 wr) := Lib.hid (HIA.out.below hbr)
          clear hbr
          go_wp2_with fail
          exact ⟨⟨k + 1, V2, E2, by omega, by go_num, HI9⟩, by simp [intOf]; omega⟩
    · go_wp2_with fail
      go_ret
      exact ⟨rfl, HI.out.bel⟩
end Go.Proofs.YtonilojjahfboaaGreat
