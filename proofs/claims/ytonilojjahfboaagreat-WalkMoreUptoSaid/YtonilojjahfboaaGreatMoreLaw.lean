/- Law WalkMore: the walk. Conditions: small bulk. -/
import Derived.Test.YtonilojjahfboaaGreatFdA
import Derived.Test.YtonilojjahfboaaGreatQbA
import Derived.Test.YtonilojjahfboaaGreatPb5
import Derived.Test.YtonilojjahfboaaGreatSideRead
import Derived.Test.YtonilojjahfboaaGreatA7
import Derived.BigQuiet
import Derived.BigRegion
import Derived.Deep.Cut
import Derived.Deep.RegionHeld3
import Derived.Deep.CutRange
namespace Go.Proofs.YtonilojjahfboaaGreat
open Go.RowKit Go.Maps

theorem WkS.chg {w0 w w' : World} {wb gb : Nat} {st : Option Nat} {S : Nat → Prop} (h : WkS w0 w wb gb st) (hc : Chg w w' S) (hn : ¬ S wb) (hS : ∀ j, S j → w0.heap.size ≤ j) : WkS w0 w' wb gb st :=
  ⟨⟨hc.os.trans h.bel.os, hc.tape.trans h.bel.tape, hc.output.trans h.bel.output, Nat.le_trans h.bel.size hc.size, fun k hk => (hc.block k (Nat.lt_of_lt_of_le hk h.bel.size) (fun hs => by have := hS k hs; omega)).trans (h.bel.block k hk)⟩, h.new, (hc.block _ h.lt hn).trans h.blk, h.small⟩
/-- two walks over one graph -/
structure MoI (w3 wr : World) (wa wb gb k c : Nat) : Prop where
  a : WkS w3 wr wa gb (some (k - c))
  b : WkS w3 wr wb gb (some (1048576 - c))
  le : c ≤ k
  ne : wa < wb
theorem MoI.below {w3 wr w' : World} {wa wb gb k c : Nat} (h : MoI w3 wr wa wb gb k c) (hb : Below wr.heap.size wr w') : MoI w3 w' wa wb gb k c := ⟨h.a.below hb, h.b.below hb, h.le, h.ne⟩
set_option maxRecDepth 100000 in
set_option maxHeartbeats 8000000 in
theorem more_any (va ea aa : Option Addr) (vc ec ac : Nat) (VL : List Vr) (EL : List Er) (AL : List A7) (n : Int) (w : World) (h1 : kVr.V w va VL) (h2 : kEr.V w ea EL) (h3 : ∀ x ∈ VL, VrOk w x) (h4 : ∀ x ∈ EL, ErOk w x) (h5 : kA7.V w aa AL) (h6 : AL.length ≤ maxLen) :
    Calls Tryz.prog 5 #[.agg #[.slice va VL.length vc, .slice ea EL.length ec], .slice aa AL.length ac, .int .i64 n] w fun e w' => e = .returned (.bool true) ∧ Below w.heap.size w w' := by
  obtain ⟨nv, hnv⟩ : ∃ n, n = VL.length := ⟨_, rfl⟩
  obtain ⟨ne, hne⟩ : ∃ n, n = EL.length := ⟨_, rfl⟩
  obtain ⟨na, hna⟩ : ∃ n, n = AL.length := ⟨_, rfl⟩
  unfold maxLen at h6
  have HNV := Lib.hid hnv
  have HNE := Lib.hid hne
  have HNA := Lib.hid hna
  have HNB : Hid (na ≤ 9223372036854775807) := Lib.hid (by omega)
  have HAV := Lib.hid h5
  have HSM : Hid (∀ u, Below w.heap.size w u → Calls Tryz.prog 37 #[.agg #[.slice va nv vc, .slice ea ne ec]] u (fun e w' => e = .returned (.bool (small7B VL EL)) ∧ Below u.heap.size u w')) := Lib.hid (fun u hu => by rw [hnv, hne]; exact small17_any va ea vc ec VL EL u (h1.below hu) (h2.below hu))
  have HPT : Hid (small7B VL EL = true → PtIn w va ea VL EL) := Lib.hid (fun hs => ptIn7_of h1 h2 h3 h4 hs)
  rw [← hnv, ← hne, ← hna]
  clear hnv hne hna h1 h2 h3 h4 h5 h6
  obtain ⟨pb, hpb⟩ : ∃ pb, pb = w.heap.size := ⟨_, rfl⟩
  obtain ⟨W, hW⟩ : ∃ W, W = w.alloc (.cells #[.slice va nv vc, .slice ea ne ec] 90) := ⟨_, rfl⟩
  have HWW : Hid (Below w.heap.size w W) := Lib.hid (by rw [hW]; exact below_box _ _)
  have HP0 : Hid (W.heap[pb]? = some (.cells #[.slice va nv vc, .slice ea ne ec] 90 (0, 0))) := Lib.hid (by rw [hW, hpb]; exact heap_new w _)
  have HBX : Hid (∀ u, Below W.heap.size W u → u.heap[pb]? = some (.cells #[.slice va nv vc, .slice ea ne ec] 90 (0, 0))) := Lib.hid (fun u hu => (hu.block _ (Array.getElem?_eq_some_iff.1 HP0.out).1).trans HP0.out)
  have HW := Lib.hid hW.symm
  have HQB := Lib.hid hpb.symm
  clear hW
  go_enter Tryz.func5, Tryz.ntmps5
  go_wp2_with fail
  rw [HW.out, HQB.out]
  clear hpb
  refine (awake17_any W).mono ?_
  rintro e w1 ⟨rfl, b1⟩
  have HB1 := Lib.hid b1
  have q1 := HBX.out w1 b1
  have p0 := cell_of_blk q1 0
  have p1 := cell_of_blk q1 1
  have zp : pb < w1.heap.size := (Array.getElem?_eq_some_iff.1 q1).1
  simp at p0 p1
  clear b1 q1
  go_wp2_with fail
  refine (HSM.out w1 (HWW.out.trans (HB1.out.mono HWW.out.size))).mono ?_
  rintro e w2 ⟨rfl, b2⟩
  have HB2 : Hid (Below W.heap.size W w2) := Lib.hid (HB1.out.trans (b2.mono HB1.out.size))
  clear b2 p0 p1 zp
  cases hs : small7B VL EL
  case false =>
    clear hs
    go_wp2_with fail
    refine (awake17_any _).mono ?_
    rintro e w9 ⟨rfl, b9⟩
    have HB9 : Hid (Below W.heap.size W w9) := Lib.hid (HB2.out.trans (b9.mono HB2.out.size))
    clear b9
    go_wp2_with fail
    go_ret
    exact ⟨rfl, HWW.out.trans (HB9.out.mono HWW.out.size)⟩
  have HS := Lib.hid hs
  clear hs
  by_cases hll : 40 < na
  · have tl : decide ((40 : Int) < (na : Int)) = true := decide_eq_true (by omega)
    go_wp2_with fail
    refine (awake17_any _).mono ?_
    rintro e w9 ⟨rfl, b9⟩
    have HB9 : Hid (Below W.heap.size W w9) := Lib.hid (HB2.out.trans (b9.mono HB2.out.size))
    clear b9
    go_wp2_with fail
    go_ret
    exact ⟨rfl, HWW.out.trans (HB9.out.mono HWW.out.size)⟩
  have tl : decide ((40 : Int) < (na : Int)) = false := decide_eq_false (by omega)
  have HN40 : Hid (na ≤ 40) := Lib.hid (by omega)
  have q1 := HBX.out w2 HB2.out
  have p0 := cell_of_blk q1 0
  have p1 := cell_of_blk q1 1
  have zp : pb < w2.heap.size := (Array.getElem?_eq_some_iff.1 q1).1
  simp at p0 p1
  clear q1
  have m1 := Int.lt_tmod_of_pos n (show (0 : Int) < 1000 by omega)
  have m2 := Int.tmod_lt_of_pos n (show (0 : Int) < 1000 by omega)
  obtain ⟨K, hK⟩ : ∃ K : Nat, (n.tmod 1000 + 1000) % 1000 = (K : Int) := ⟨((n.tmod 1000 + 1000) % 1000).toNat, by omega⟩
  have hK2 : n.tmod 1000 % 1000 = (K : Int) := by omega
  have hK3 : (n.tmod 1000 + 1000).tmod 1000 = (K : Int) := by rw [Int.tmod_eq_emod_of_nonneg (by omega)]; exact hK
  have HK : Hid (K < 1000) := Lib.hid (by omega)
  go_upto_region 4 with fail
  clear m1 m2 hK hK2 hK3 tl hll
  go_wp2_with fail
  have HBT := built17_any va ea vc ec VL EL w2 ((HPT.out HS.out).below (HWW.out.trans (HB2.out.mono HWW.out.size)))
  rw [← HNV.out, ← HNE.out] at HBT
  refine HBT.mono ?_
  rintro e w3 ⟨gb, vb, eb, rb, B, rfl, hg, _, b3⟩
  have hlen : (adV [] (VL.map Vr.v)).length ≤ 40 ∧ (adE (adV [] (VL.map Vr.v)) [] (EL.map Er.e)).length ≤ 60 := by
    have h := HS.out
    unfold small7B at h
    obtain ⟨s1, s2, _⟩ := of_decide_eq_true h
    have g1 := adV_len (VL.map Vr.v) []
    have g2 := adE_len (adV [] (VL.map Vr.v)) (EL.map Er.e) []
    simp at g1 g2
    omega
  obtain ⟨V, hV⟩ : ∃ V, V = adV [] (VL.map Vr.v) := ⟨_, rfl⟩
  rw [← hV] at hg hlen
  obtain ⟨E, hE⟩ : ∃ E, E = adE V [] (EL.map Er.e) := ⟨_, rfl⟩
  rw [← hE] at hg hlen
  have HG := Lib.hid hg
  have HLN := Lib.hid hlen
  have HB3 : Hid (Below w.heap.size w w3) := Lib.hid (HWW.out.trans ((HB2.out.trans (b3.mono HB2.out.size)).mono HWW.out.size))
  clear hV hE hg hlen b3 HBT p0 p1 zp
  go_wp2_with fail
  refine (wnew_any gb (K : Int) w3).mono ?_
  rintro e w4 hp
  have hK := HK.out
  unfold WnPost at hp
  rw [if_neg (by omega), Int.toNat_natCast] at hp
  obtain ⟨rfl, hw⟩ := hp
  obtain ⟨wa, hwa⟩ : ∃ wa, wa = w3.heap.size := ⟨_, rfl⟩
  rw [← hwa] at hw ⊢
  have HW4 := Lib.hid hw
  have HWA : Hid (w3.heap.size ≤ wa) := Lib.hid (by omega)
  clear hw hwa
  go_wp2_with fail
  refine (wnew_any gb 1048576 w4).mono ?_
  rintro e w5 hp
  unfold WnPost at hp
  rw [if_neg (by omega)] at hp
  obtain ⟨rfl, hw⟩ := hp
  obtain ⟨wb, hwb⟩ : ∃ wb, wb = w4.heap.size := ⟨_, rfl⟩
  rw [← hwb] at hw ⊢
  have hI0 : MoI w3 w5 wa wb gb K 0 := ⟨HW4.out.below hw.bel, ⟨HW4.out.bel.trans (hw.bel.mono HW4.out.bel.size), by have := HW4.out.bel.size; omega, hw.blk, hw.small⟩, Nat.zero_le _, by have := HW4.out.lt; omega⟩
  have HI0 := Lib.hid hI0
  clear hw hwb hI0 hK
  go_wp2_with fail
  go_loopw [14] (fun iv wr => ∃ (i c : Nat), iv = .int .i64 (i : Int) ∧ i ≤ na ∧ Hid (MoI w3 wr wa wb gb K c ∧ c ≤ 62 * i)) (fun iv _ => na - (intOf iv).toNat)
  case atStart => exact ⟨0, 0, rfl, Nat.zero_le _, Lib.hid ⟨HI0.out, Nat.le_refl _⟩⟩
  case round =>
    clear HI0
    obtain ⟨i, c, rfl, hi, HI⟩ := hrel
    have hn40 := HN40.out
    by_cases hlt : i < na
    · obtain ⟨x, hx⟩ : ∃ x, AL[i]? = some x := ⟨_, List.getElem?_eq_getElem (by have := HNA.out; omega)⟩
      obtain ⟨b, off, rfl, hat⟩ := (HAV.out.below (HB3.out.trans (HI.out.1.a.bel.mono HB3.out.size))) (fun e => by rw [e] at hx; simp at hx)
      obtain ⟨c0, c1, c2, c3, c4, c5, c6, c7, c8, c9, c10, c11⟩ := kA7_cells hat hx
      have hbl := hat.lt
      obtain ⟨U, hU⟩ : ∃ U, U = wr.alloc (.cells #[.int .i64 x.kind, .int .i64 x.id, .bool x.out, .string x.lab, .string x.nl, .string x.nk, .int .i64 x.low.kind, .int .i64 x.low.n, .string x.low.s, .int .i64 x.high.kind, .int .i64 x.high.n, .string x.high.s] 102) := ⟨_, rfl⟩
      have hBU : Below wr.heap.size wr U := by rw [hU]; exact below_box wr _
      obtain ⟨xb, hxb⟩ : ∃ b, b = wr.heap.size := ⟨_, rfl⟩
      have hbx : A7Box U xb x := by unfold A7Box; rw [hU, hxb]; exact heap_new wr _
      have HIU : Hid (MoI w3 U wa wb gb K c ∧ c ≤ 62 * i) := Lib.hid ⟨HI.out.1.below hBU, HI.out.2⟩
      have HAB : Hid (wa < xb ∧ wb < xb) := Lib.hid (by have := HI.out.1.a.lt; have := HI.out.1.b.lt; omega)
      have HXK : Hid (∀ u, Chg U u (fun i => i = wa ∨ i = wb) → A7Box u xb x) := Lib.hid (fun u hu => (hu.block _ (Array.getElem?_eq_some_iff.1 hbx).1 (by have := HAB.out; omega)).trans hbx)
      have HU := Lib.hid hU
      have HXB := Lib.hid hxb
      have tk : decide ((i : Int) < (na : Int)) = true := decide_eq_true (by omega)
      clear hx hat hU hBU hxb hbx HI
      go_upto_region 13 with fail
      rw [← HU.out, ← HXB.out]
      clear c0 c1 c2 c3 c4 c5 c6 c7 c8 c9 c10 c11 hbl tk
      obtain ⟨p0, p1, p2, p3, p4, p5, p6, p7, p8, p9, p10, p11, pl⟩ := (HXK.out U (Chg.refl _ _)).cells
      by_cases hz1 : 200 < x.lab.size
      · have t1 : decide ((200 : Int) < (x.lab.size : Int)) = true := decide_eq_true (by omega)
        clear hz1
        go_wp2_with fail
        go_ret
        exact ⟨rfl, HB3.out.trans (HIU.out.1.a.bel.mono HB3.out.size)⟩
      have t1 : decide ((200 : Int) < (x.lab.size : Int)) = false := decide_eq_false (by omega)
      clear hz1
      by_cases hz2 : 200 < x.nl.size
      · have t2 : decide ((200 : Int) < (x.nl.size : Int)) = true := decide_eq_true (by omega)
        clear hz2
        go_wp2_with fail
        go_ret
        exact ⟨rfl, HB3.out.trans (HIU.out.1.a.bel.mono HB3.out.size)⟩
      have t2 : decide ((200 : Int) < (x.nl.size : Int)) = false := decide_eq_false (by omega)
      clear hz2
      go_upto_region 15 with fail
      clear t1 t2
      have HKS : Hid (∀ u, Chg U u (fun i => i = wa ∨ i = wb) → ((u.cell? ⟨xb, 1, none⟩ = some (.int .i64 x.id) ∧ u.cell? ⟨xb, 2, none⟩ = some (.bool x.out) ∧ u.cell? ⟨xb, 3, none⟩ = some (.string x.lab)) ∧ xb < u.heap.size) ∧ ((u.cell? ⟨xb, 4, none⟩ = some (.string x.nl) ∧ u.cell? ⟨xb, 5, none⟩ = some (.string x.nk) ∧ u.cell? ⟨xb, 6, none⟩ = some (.int .i64 x.low.kind) ∧ u.cell? ⟨xb, 7, none⟩ = some (.int .i64 x.low.n) ∧ u.cell? ⟨xb, 8, none⟩ = some (.string x.low.s) ∧ u.cell? ⟨xb, 9, none⟩ = some (.int .i64 x.high.kind) ∧ u.cell? ⟨xb, 10, none⟩ = some (.int .i64 x.high.n) ∧ u.cell? ⟨xb, 11, none⟩ = some (.string x.high.s)) ∧ xb < u.heap.size)) := Lib.hid (fun u hu => by
        obtain ⟨q0, q1, q2, q3, q4, q5, q6, q7, q8, q9, q10, q11, ql⟩ := (HXK.out u hu).cells
        exact ⟨⟨⟨q1, q2, q3⟩, ql⟩, ⟨q4, q5, q6, q7, q8, q9, q10, q11⟩, ql⟩)
      obtain ⟨d, hd⟩ : ∃ d, d = 1 + (idsE E (sideP x.out x.id)).length := ⟨_, rfl⟩
      have HD : Hid (1 ≤ d ∧ d ≤ 61) := Lib.hid (by have := idsE_len E (sideP x.out x.id); have := HLN.out.2; omega)
      obtain ⟨LN, hLN⟩ : ∃ L, L = nextL E x.out x.lab x.id := ⟨_, rfl⟩
      obtain ⟨sA, hsA⟩ : ∃ s, s = payS (some (K - c)) d := ⟨_, rfl⟩
      obtain ⟨LA, hLA⟩ : ∃ L : List Int, L = if sA.isSome then LN else [] := ⟨_, rfl⟩
      obtain ⟨t, ht⟩ : ∃ t, t = 1048576 - c := ⟨_, rfl⟩
      have HCT : Hid (c ≤ K ∧ t = 1048576 - c ∧ c ≤ 2480) := Lib.hid ⟨HIU.out.1.le, ht, by have := HIU.out.2; omega⟩
      have HNL : Hid (LN.length ≤ 60 ∧ LA.length ≤ 60) := Lib.hid (by
        have h1 := next_len E x.out x.lab x.id
        have h2 := HLN.out.2
        rw [← hLN] at h1
        refine ⟨by omega, ?_⟩
        rw [hLA]
        split
        · omega
        · exact Nat.zero_le _)
      have hUD : Below U.heap.size U U.drew := below_drewN (Below.refl _ _) 1
      have hca := wnext_any w3 U.drew wa gb vb eb V E (some (K - c)) x.id x.out x.lab HG.out (HIU.out.1.a.below hUD) (by have := HLN.out.2; omega)
      have HCA : Hid (Calls Tryz.prog 40 #[.pointer (some ⟨wa, 0, none⟩), .int .i64 x.id, .bool x.out, .string x.lab] U.drew fun e w' => ∃ a cap, e = .returned (.slice a LA.length cap) ∧ kI.Own w' U.heap.size (.slice a LA.length cap) LA ∧ WkS w3 w' wa gb sA ∧ WkS w3 w' wb gb (some t) ∧ Chg U w' (fun i => i = wa ∨ i = wb)) := Lib.hid (by
        refine hca.mono ?_
        rintro e w' ⟨v, rfl, o, hs, hk⟩
        rw [← hd, ← hsA, ← hLN, ← hLA] at o
        rw [← hd, ← hsA] at hs
        obtain ⟨a, cap, rfl⟩ := o.shape
        refine ⟨a, cap, rfl, o, hs, ?_, (Chg.of_below hUD _).trans hk (fun i _ e => .inl e)⟩
        rw [ht]
        exact (HIU.out.1.b.below hUD).chg hk (by have := HIU.out.1.ne; omega) (fun j e => by rw [e]; exact HWA.out))
      have HCB : Hid (∀ u, Chg U u (fun i => i = wa ∨ i = wb) → WkS w3 u wa gb sA → WkS w3 u wb gb (some t) → ∀ a cap, kI.Own u U.heap.size (.slice a LA.length cap) LA → Calls Tryz.prog 40 #[.pointer (some ⟨wb, 0, none⟩), .int .i64 x.id, .bool x.out, .string x.lab] u fun e w' => ∃ b cb, e = .returned (.slice b LN.length cb) ∧ kI.Own w' U.heap.size (.slice a LA.length cap) LA ∧ kI.Own w' U.heap.size (.slice b LN.length cb) LN ∧ WkS w3 w' wa gb sA ∧ WkS w3 w' wb gb (some (t - d)) ∧ Chg U w' (fun i => i = wa ∨ i = wb)) := Lib.hid (fun u hu hwa hwb a cap ho => by
        refine (wnext_any w3 u wb gb vb eb V E (some t) x.id x.out x.lab HG.out hwb (by have := HLN.out.2; omega)).mono ?_
        rintro e w' ⟨v, rfl, o, hs, hk⟩
        have hp : payS (some t) d = some (t - d) := by
          show (if d ≤ t then some (t - d) else none) = _
          rw [if_pos (by have := HCT.out; have := HD.out; omega)]
        rw [← hd, hp, ← hLN] at o
        rw [← hd, hp] at hs
        simp only [Option.isSome_some, if_true] at o
        obtain ⟨b, cb, rfl⟩ := o.shape
        refine ⟨b, cb, rfl, ho.chg hk (fun j hj e => ?_), o.mono hu.size, hwa.chg hk (by have := HIU.out.1.ne; omega) (fun j e => ?_), hs, hu.trans hk (fun i _ e => .inr e)⟩
        · have := (ho.lt j hj).1
          have := HIU.out.1.b.lt
          omega
        · rw [e]; exact hwb.new)
      have HS0 := Lib.hid (HKS.out U.drew (Chg.of_below hUD _)).1
      have HIDE := Lib.hid (And.intro hd (And.intro hLN (And.intro hsA (And.intro hLA ht))))
      clear hd hLN hsA hLA ht hca p0 p1 p2 p3 p4 p5 p6 p7 p8 p9 p10 p11 pl
      go_cut [16, 17] from 90 to 105 (fun s16 s17 wc => ∃ (a : Option Addr) (ca : Nat) (b : Option Addr) (cb : Nat) (u : World), u = wc ∧ s16 = .slice a LA.length ca ∧ s17 = .slice b LN.length cb ∧ Hid (kI.Own u U.heap.size (.slice a LA.length ca) LA ∧ kI.Own u U.heap.size (.slice b LN.length cb) LN ∧ WkS w3 u wa gb sA ∧ WkS w3 u wb gb (some (t - d)) ∧ Chg U u (fun i => i = wa ∨ i = wb)))
      case first =>
        go_region_held3 (fun u => (u.cell? ⟨xb, 1, none⟩ = some (.int .i64 x.id) ∧ u.cell? ⟨xb, 2, none⟩ = some (.bool x.out) ∧ u.cell? ⟨xb, 3, none⟩ = some (.string x.lab)) ∧ xb < u.heap.size)
          (first | exact HS0.out | exact HSA.out | exact HSB.out)
          (first | (go_at_call 40; (with_reducible refine HCA.out.mono ?_); rintro e w6 ⟨a6, c6, rfl, o6, s6, t6, k6⟩; have HSA := Lib.hid (HKS.out _ k6).1; have HB6 := Lib.hid (HCB.out _ k6 s6 t6 a6 c6 o6); clear o6 s6 t6 k6) | (go_at_call 40; (with_reducible refine HB6.out.mono ?_); rintro e w7 ⟨b7, c7, rfl, oa7, ob7, s7, t7, k7⟩; have HSB := Lib.hid (HKS.out _ k7).1; have HR7 := Lib.hid (And.intro oa7 (And.intro ob7 (And.intro s7 (And.intro t7 k7)))); clear oa7 ob7 s7 t7 k7) | fail)
        all_goals
          go_wp2_with fail
          go_meet
          exact ⟨_, _, _, _, _, rfl, rfl, rfl, HR7⟩
      case rest =>
      obtain ⟨a7, c7, b7, d7, u7, rfl, rfl, rfl, HR7⟩ := hcut
      clear HCA HCB HS0
      obtain ⟨LF, hLF⟩ : ∃ L, L = fitL V x.nl x.nk x.low x.high := ⟨_, rfl⟩
      obtain ⟨sB, hsB⟩ : ∃ s, s = payS sA 1 := ⟨_, rfl⟩
      obtain ⟨LB, hLB⟩ : ∃ L : List Int, L = if sB.isSome then LF else [] := ⟨_, rfl⟩
      have HFL : Hid (LF.length ≤ 40 ∧ LB.length ≤ 40) := Lib.hid (by
        have h1 := fitL_len V x.nl x.nk x.low x.high
        have h2 := HLN.out.1
        rw [← hLF] at h1
        refine ⟨by omega, ?_⟩
        rw [hLB]
        split
        · omega
        · exact Nat.zero_le _)
      have HXZ : Hid (wa < U.heap.size ∧ wb < U.heap.size) := Lib.hid ⟨HIU.out.1.a.lt, HIU.out.1.b.lt⟩
      have hUD : Below u7.heap.size u7 u7.drew := below_drewN (Below.refl _ _) 1
      have hca := wfind_any w3 u7.drew wa gb vb eb V E sA x.nl x.nk x.low x.high HG.out (HR7.out.2.2.1.below hUD) (by have := HLN.out.1; omega)
      have HCA : Hid (Calls Tryz.prog 41 #[.pointer (some ⟨wa, 0, none⟩), .agg #[.string x.nl, .string x.nk, .int .i64 x.low.kind, .int .i64 x.low.n, .string x.low.s, .int .i64 x.high.kind, .int .i64 x.high.n, .string x.high.s]] u7.drew fun e w' => ∃ a cap, e = .returned (.slice a LB.length cap) ∧ FreshI U.heap.size w' a LB ∧ kI.Own w' U.heap.size (.slice a7 LA.length c7) LA ∧ kI.Own w' U.heap.size (.slice b7 LN.length d7) LN ∧ WkS w3 w' wa gb sB ∧ WkS w3 w' wb gb (some (t - d)) ∧ Chg U w' (fun i => i = wa ∨ i = wb)) := Lib.hid (by
        refine hca.mono ?_
        rintro e w' ⟨a, cap, l', rfl, hl', f, hs, hk⟩
        rw [← hsB, ← hLF, ← hLB] at hl'
        rw [← hsB] at hs
        subst hl'
        obtain ⟨r1, r2, r3, r4, r5⟩ := HR7.out
        exact ⟨a, cap, rfl, f.mono (by have := r5.size; have := hUD.size; omega), (r1.below hUD).chg hk (fun j hj e => by have := (r1.lt j hj).1; have := HXZ.out; omega), (r2.below hUD).chg hk (fun j hj e => by have := (r2.lt j hj).1; have := HXZ.out; omega), hs, (r4.below hUD).chg hk (by have := HIU.out.1.ne; omega) (fun j e => by rw [e]; exact HWA.out), (r5.trans (Chg.of_below hUD (fun _ => False)) (fun _ _ e => e.elim)).trans hk (fun i _ e => .inl e)⟩)
      have HCB : Hid (∀ u, Chg U u (fun i => i = wa ∨ i = wb) → WkS w3 u wa gb sB → WkS w3 u wb gb (some (t - d)) → kI.Own u U.heap.size (.slice a7 LA.length c7) LA → kI.Own u U.heap.size (.slice b7 LN.length d7) LN → ∀ a, FreshI U.heap.size u a LB → Calls Tryz.prog 41 #[.pointer (some ⟨wb, 0, none⟩), .agg #[.string x.nl, .string x.nk, .int .i64 x.low.kind, .int .i64 x.low.n, .string x.low.s, .int .i64 x.high.kind, .int .i64 x.high.n, .string x.high.s]] u fun e w' => ∃ b cb, e = .returned (.slice b LF.length cb) ∧ FreshI U.heap.size w' b LF ∧ FreshI U.heap.size w' a LB ∧ kI.Own w' U.heap.size (.slice a7 LA.length c7) LA ∧ kI.Own w' U.heap.size (.slice b7 LN.length d7) LN ∧ WkS w3 w' wa gb sB ∧ WkS w3 w' wb gb (some (t - d - 1)) ∧ Chg U w' (fun i => i = wa ∨ i = wb)) := Lib.hid (fun u hu hwa hwb r1 r2 a ho => by
        refine (wfind_any w3 u wb gb vb eb V E (some (t - d)) x.nl x.nk x.low x.high HG.out hwb (by have := HLN.out.1; omega)).mono ?_
        rintro e w' ⟨b, cb, l', rfl, hl', f, hs, hk⟩
        have hp : payS (some (t - d)) 1 = some (t - d - 1) := by
          show (if 1 ≤ t - d then some (t - d - 1) else none) = _
          rw [if_pos (by have := HCT.out; have := HD.out; omega)]
        rw [hp, ← hLF] at hl'
        rw [hp] at hs
        simp only [Option.isSome_some, if_true] at hl'
        subst hl'
        have hx := HXZ.out
        exact ⟨b, cb, rfl, f.mono hu.size, ho.chg hk (fun j e => by omega), r1.chg hk (fun j hj e => by have := (r1.lt j hj).1; omega), r2.chg hk (fun j hj e => by have := (r2.lt j hj).1; omega), hwa.chg hk (by have := HIU.out.1.ne; omega) (fun j e => by rw [e]; exact hwb.new), hs, hu.trans hk (fun i _ e => .inr e)⟩)
      have HS0 := Lib.hid (HKS.out u7.drew (HR7.out.2.2.2.2.trans (Chg.of_below hUD (fun _ => False)) (fun _ _ e => e.elim))).2
      have HIDF := Lib.hid (And.intro hLF (And.intro hsB hLB))
      clear hLF hsB hLB hca
      go_upto_region 16 with fail
      go_cut [18, 19] from 106 to 113 (fun s18 s19 wc => ∃ (a : Option Addr) (ca : Nat) (b : Option Addr) (cb : Nat) (u : World), u = wc ∧ s18 = .slice a LB.length ca ∧ s19 = .slice b LF.length cb ∧ Hid (FreshI U.heap.size u b LF ∧ FreshI U.heap.size u a LB ∧ kI.Own u U.heap.size (.slice a7 LA.length c7) LA ∧ kI.Own u U.heap.size (.slice b7 LN.length d7) LN ∧ WkS w3 u wa gb sB ∧ WkS w3 u wb gb (some (t - d - 1)) ∧ Chg U u (fun i => i = wa ∨ i = wb)))
      case first =>
        go_region_held3 (fun u => (u.cell? ⟨xb, 4, none⟩ = some (.string x.nl) ∧ u.cell? ⟨xb, 5, none⟩ = some (.string x.nk) ∧ u.cell? ⟨xb, 6, none⟩ = some (.int .i64 x.low.kind) ∧ u.cell? ⟨xb, 7, none⟩ = some (.int .i64 x.low.n) ∧ u.cell? ⟨xb, 8, none⟩ = some (.string x.low.s) ∧ u.cell? ⟨xb, 9, none⟩ = some (.int .i64 x.high.kind) ∧ u.cell? ⟨xb, 10, none⟩ = some (.int .i64 x.high.n) ∧ u.cell? ⟨xb, 11, none⟩ = some (.string x.high.s)) ∧ xb < u.heap.size)
          (first | exact HS0.out | exact HSA.out | exact HSB.out)
          (first | (go_at_call 41; (with_reducible refine HCA.out.mono ?_); rintro e w6 ⟨a6, c6, rfl, f6, oa6, ob6, s6, t6, k6⟩; have HSA := Lib.hid (HKS.out _ k6).2; have HB6 := Lib.hid (HCB.out _ k6 s6 t6 oa6 ob6 a6 f6); clear f6 oa6 ob6 s6 t6 k6) | (go_at_call 41; (with_reducible refine HB6.out.mono ?_); rintro e w7 ⟨bb7, cc7, rfl, r1, r2, r3, r4, r5, r6, k7⟩; have HSB := Lib.hid (HKS.out _ k7).2; have HR8 := Lib.hid (And.intro r1 (And.intro r2 (And.intro r3 (And.intro r4 (And.intro r5 (And.intro r6 k7)))))); clear r1 r2 r3 r4 r5 r6 k7) | fail)
        all_goals
          go_wp2_with fail
          go_meet
          exact ⟨_, _, _, _, _, rfl, rfl, rfl, HR8⟩
      case rest =>
      obtain ⟨a8, c8, b8, d8, u8, rfl, rfl, rfl, HR8⟩ := hcut
      clear HCA HCB HS0 HR7
      have HFIN : Hid (Below w.heap.size w u8) := Lib.hid (HB3.out.trans (HR8.out.2.2.2.2.1.bel.mono HB3.out.size))
      obtain ⟨m, hm⟩ : ∃ m, m = t - d - 1 := ⟨_, rfl⟩
      rw [← hm] at HR8
      have HM : Hid (m + d + 1 + c = 1048576) := Lib.hid (by have := HCT.out; have := HD.out; omega)
      clear hm
      go_wp2_with fail
      refine (spent_any w3 u8 wa gb sB HR8.out.2.2.2.2.1).mono ?_
      rintro e u9 ⟨rfl, rfl⟩
      by_cases hsp : d + 1 ≤ K - c
      · have hB2 : sB = some (K - c - d - 1) := by
          rw [HIDF.out.2.1, HIDE.out.2.2.1, payS_add]
          show (if d + 1 ≤ K - c then some (K - c - (d + 1)) else none) = _
          rw [if_pos hsp]; rfl
        have hA2 : sA.isSome = true := by
          rw [HIDE.out.2.2.1]
          show (if d ≤ K - c then some (K - c - d) else none).isSome = _
          rw [if_pos (by omega)]; rfl
        have hLL : LA = LN := by rw [HIDE.out.2.2.2.1, if_pos hA2]
        have hFF : LB = LF := by rw [HIDF.out.2.2, hB2]; rfl
        clear HIDE HIDF
        subst hLL hFF
        obtain ⟨ma, hma⟩ : ∃ ma, ma = K - c - d - 1 := ⟨_, rfl⟩
        rw [← hma] at hB2
        have HMA : Hid (ma + d + 1 + c = K) := Lib.hid (by have := HCT.out; omega)
        subst hB2
        have hMA := HMA.out
        have hMM := HM.out
        have hKK := HK.out
        have w1 : IntKind.i64.wrap ((K : Int) - (ma : Int)) = (K : Int) - (ma : Int) := IntWalk.i64_in _ (by omega)
        have w2 : IntKind.i64.wrap ((1048576 : Int) - (m : Int)) = (1048576 : Int) - (m : Int) := IntWalk.i64_in _ (by omega)
        have t1 : ((K : Int) - (ma : Int) != (1048576 : Int) - (m : Int)) = false := by
          simp only [bne_eq_false_iff_eq]; omega
        have HI1 : Hid (Calls Tryz.prog 44 #[.slice a7 LA.length c7, .slice b7 LA.length d7] u8 fun e w' => e = .returned (.bool true) ∧ Below u8.heap.size u8 w') := Lib.hid (by
          have := ints10_any a7 b7 c7 d7 LA LA u8 HR8.out.2.2.1.toV HR8.out.2.2.2.1.toV (by have := HNL.out; omega)
          rw [decide_eq_true (rfl : LA = LA)] at this
          exact this)
        have HI2 : Hid (∀ u, Below u8.heap.size u8 u → Calls Tryz.prog 44 #[.slice a8 LB.length c8, .slice b8 LB.length d8] u fun e w' => e = .returned (.bool true) ∧ Below u.heap.size u w') := Lib.hid (fun u hu => by
          have := ints10_any a8 b8 c8 d8 LB LB u (HR8.out.2.1.below hu).toV (HR8.out.1.below hu).toV (by have := HFL.out; omega)
          rw [decide_eq_true (rfl : LB = LB)] at this
          exact this)
        clear hma hMA hMM hKK hsp hA2
        simp only [Option.isNone_some]
        go_wp2_with fail
        refine HI1.out.mono ?_
        rintro e v1 ⟨rfl, bv1⟩
        have HBV1 := Lib.hid bv1
        clear bv1
        go_wp2_with fail
        refine (HI2.out v1 HBV1.out).mono ?_
        rintro e v2 ⟨rfl, bv2⟩
        have HBV2 := Lib.hid (below_then HBV1.out bv2)
        clear bv2
        have HW1 := Lib.hid (HR8.out.2.2.2.2.1.below HBV2.out)
        have HW2 := Lib.hid (HR8.out.2.2.2.2.2.1.below HBV2.out)
        go_wp2_with fail
        refine (left_any w3 v2 wa gb _ HW1.out).mono ?_
        rintro e v3 ⟨rfl, rfl⟩
        simp only [Option.getD_some]
        go_wp2_with fail
        refine (left_any w3 v2 wb gb _ HW2.out).mono ?_
        rintro e v3 ⟨rfl, rfl⟩
        simp only [Option.getD_some]
        go_wp2_with fail
        refine (spent_any w3 v2 wb gb _ HW2.out).mono ?_
        rintro e v3 ⟨rfl, rfl⟩
        simp only [Option.isNone_some]
        go_wp2_with fail
        refine ⟨⟨i + 1, c + d + 1, by simp, hlt, Lib.hid ⟨⟨?_, ?_, ?_, HIU.out.1.ne⟩, ?_⟩⟩, by simp [intOf]; omega⟩
        · rw [show K - (c + d + 1) = ma by have := HMA.out; omega]; exact HW1.out
        · rw [show 1048576 - (c + d + 1) = m by have := HM.out; omega]; exact HW2.out
        · have := HMA.out; omega
        · have := HIU.out.2; have := HD.out; omega
      · have hB2 : sB = none := by
          rw [HIDF.out.2.1, HIDE.out.2.2.1, payS_add]
          show (if d + 1 ≤ K - c then some (K - c - (d + 1)) else none) = _
          rw [if_neg hsp]
        clear HIDE HIDF
        subst hB2
        have hMM := HM.out
        have hKK := HK.out
        have w2 : IntKind.i64.wrap ((1048576 : Int) - (m : Int)) = (1048576 : Int) - (m : Int) := IntWalk.i64_in _ (by omega)
        have t1 : decide ((K : Int) < (1048576 : Int) - (m : Int)) = true := decide_eq_true (by have := HCT.out; omega)
        clear hMM hKK hsp
        simp only [Option.isNone_none]
        go_wp2_with fail
        refine (spent_any w3 u8 wb gb _ HR8.out.2.2.2.2.2.1).mono ?_
        rintro e v3 ⟨rfl, rfl⟩
        simp only [Option.isNone_some]
        go_wp2_with fail
        refine (left_any w3 u8 wa gb _ HR8.out.2.2.2.2.1).mono ?_
        rintro e v3 ⟨rfl, rfl⟩
        simp only [Option.getD_none]
        go_wp2_with fail
        refine (left_any w3 u8 wb gb _ HR8.out.2.2.2.2.2.1).mono ?_
        rintro e v3 ⟨rfl, rfl⟩
        simp only [Option.getD_some]
        go_wp2_with fail
        go_ret
        exact ⟨rfl, HFIN.out⟩
    · have tj : decide ((i : Int) < (na : Int)) = false := decide_eq_false (by omega)
      go_wp2_with fail
      go_ret
      exact ⟨rfl, HB3.out.trans (HI.out.1.a.bel.mono HB3.out.size)⟩
end Go.Proofs.YtonilojjahfboaaGreat
