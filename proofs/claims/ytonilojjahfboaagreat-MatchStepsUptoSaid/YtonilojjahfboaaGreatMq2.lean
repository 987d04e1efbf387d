/- Law MatchSteps: the walk. Conditions: small bulk. -/
import Derived.Test.YtonilojjahfboaaGreatMbA
import Derived.Test.YtonilojjahfboaaGreatRsA
import Derived.BigQuiet
import Derived.BigRegion
import Derived.Deep.Cut
import Derived.Deep.RegionHeld3
import Derived.Deep.CutRange
namespace Go.Proofs.YtonilojjahfboaaGreat
open Go.RowKit Go.Maps

theorem payS_all {st : Option Nat} (h : st.getD 0 ≤ 1073741824) : payS st (1099511627776 : Int).toNat = none := by
  cases st with
  | none => rfl
  | some k =>
    have h2 : k ≤ 1073741824 := h
    show (if (1099511627776 : Int).toNat ≤ k then some (k - (1099511627776 : Int).toNat) else none) = none
    rw [if_neg (by show ¬ (1099511627776 ≤ k); omega)]
set_option maxRecDepth 100000 in
set_option maxHeartbeats 16000000 in
theorem msteps_law (va ea na la : Option Addr) (vc ec nc lc : Nat) (VL : List Vr) (EL : List Er) (NS : List Nd) (LS : List Lk) (n : Int) (w : World) (h1 : kVr.V w va VL) (h2 : kEr.V w ea EL) (h3 : ∀ x ∈ VL, VrOk w x) (h4 : ∀ x ∈ EL, ErOk w x) (h5 : kNd.V w na NS) (h6 : kLk.V w la LS) (on : ∀ x ∈ NS, x.Ok) (ol : ∀ x ∈ LS, x.Ok) (g1 : NS.length ≤ maxLen) (g2 : LS.length ≤ maxLen) :
    Calls Tryz.prog 7 #[.agg #[.slice va VL.length vc, .slice ea EL.length ec], .agg #[.slice na NS.length nc, .slice la LS.length lc], .int .i64 n] w fun e w' => e = .returned (.bool true) ∧ Below w.heap.size w w' := by
  obtain ⟨nv, hnv⟩ : ∃ n, n = VL.length := ⟨_, rfl⟩
  obtain ⟨ne, hne⟩ : ∃ n, n = EL.length := ⟨_, rfl⟩
  obtain ⟨nn, hnn⟩ : ∃ n, n = NS.length := ⟨_, rfl⟩
  obtain ⟨nl, hnl⟩ : ∃ n, n = LS.length := ⟨_, rfl⟩
  have HNV := Lib.hid hnv
  have HNE := Lib.hid hne
  have HNN := Lib.hid hnn
  have HNL := Lib.hid hnl
  have HSM : Hid (∀ u, Below w.heap.size w u → Calls Tryz.prog 47 #[.agg #[.slice va nv vc, .slice ea ne ec]] u (fun e w' => e = .returned (.bool (small8B VL EL)) ∧ Below u.heap.size u w')) := Lib.hid (fun u hu => by rw [hnv, hne]; exact small18_any va ea vc ec VL EL u (h1.below hu) (h2.below hu))
  have HPA : Hid (∀ u, Below w.heap.size w u → Calls Tryz.prog 48 #[.agg #[.slice na nn nc, .slice la nl lc]] u (fun e w' => e = .returned (.bool (smallPat NS LS)) ∧ Below u.heap.size u w')) := Lib.hid (fun u hu => by rw [hnn, hnl]; exact pattern18_any na la nc lc NS LS u (h5.below hu) (h6.below hu) g1 g2)
  have HPT : Hid (small8B VL EL = true → PtIn w va ea VL EL) := Lib.hid (fun hs => ptIn8_of h1 h2 h3 h4 hs)
  have HQT : Hid (∀ u, Below w.heap.size w u → kNd.V u na NS ∧ kLk.V u la LS) := Lib.hid (fun u hu => ⟨h5.below hu, h6.below hu⟩)
  have HQB : Hid ((∀ b off, na = some ⟨b, off, none⟩ → NS ≠ [] → b < w.heap.size) ∧ ∀ b off, la = some ⟨b, off, none⟩ → LS ≠ [] → b < w.heap.size) := Lib.hid ⟨fun b off e hne => by
    obtain ⟨b', off', e', hat⟩ := h5 hne
    rw [e] at e'
    cases e'
    exact hat.lt, fun b off e hne => by
    obtain ⟨b', off', e', hat⟩ := h6 hne
    rw [e] at e'
    cases e'
    exact hat.lt⟩
  have HQO : Hid ((∀ x ∈ NS, x.Ok) ∧ ∀ x ∈ LS, x.Ok) := Lib.hid ⟨on, ol⟩
  rw [← hnv, ← hne, ← hnn, ← hnl]
  clear hnv hne hnn hnl h1 h2 h3 h4 h5 h6 on ol g1 g2
  obtain ⟨pb, hpb⟩ : ∃ pb, pb = w.heap.size := ⟨_, rfl⟩
  obtain ⟨qb, hqb⟩ : ∃ qb, qb = w.heap.size + 1 := ⟨_, rfl⟩
  obtain ⟨W, hW⟩ : ∃ W, W = (w.alloc (.cells #[.slice va nv vc, .slice ea ne ec] 112)).alloc (.cells #[.slice na nn nc, .slice la nl lc] 116) := ⟨_, rfl⟩
  have HWW : Hid (Below w.heap.size w W) := Lib.hid (by rw [hW]; exact below_then (below_box _ _) (below_box _ _))
  have HBX : Hid (∀ u, Below W.heap.size W u → (u.cell? ⟨pb, 0, none⟩ = some (.slice va nv vc) ∧ u.cell? ⟨pb, 1, none⟩ = some (.slice ea ne ec) ∧ pb < u.heap.size) ∧ u.cell? ⟨qb, 0, none⟩ = some (.slice na nn nc) ∧ u.cell? ⟨qb, 1, none⟩ = some (.slice la nl lc) ∧ qb < u.heap.size) := Lib.hid (fun u hu => by
    have p1 : W.heap[pb]? = some (.cells #[.slice va nv vc, .slice ea ne ec] 112 (0, 0)) := by rw [hW, hpb]; exact (Below.heap_alloc _ _ _ (by simp)).trans (heap_new w _)
    have p2 : W.heap[qb]? = some (.cells #[.slice na nn nc, .slice la nl lc] 116 (0, 0)) := by rw [hW, hqb]; exact heap_new2 w _ _
    have q1 := (hu.block _ (Array.getElem?_eq_some_iff.1 p1).1).trans p1
    have q2 := (hu.block _ (Array.getElem?_eq_some_iff.1 p2).1).trans p2
    exact ⟨⟨by rw [cell_of_blk q1]; rfl, by rw [cell_of_blk q1]; rfl, (Array.getElem?_eq_some_iff.1 q1).1⟩, by rw [cell_of_blk q2]; rfl, by rw [cell_of_blk q2]; rfl, (Array.getElem?_eq_some_iff.1 q2).1⟩)
  have HW := Lib.hid hW.symm
  have HE := Lib.hid (And.intro hpb.symm hqb.symm)
  clear hW hpb hqb
  go_enter Tryz.func7, Tryz.ntmps7
  go_wp2_with fail
  rw [HW.out, HE.out.2, HE.out.1]
  refine (awake18_any W).mono ?_
  rintro e w1 ⟨rfl, b1⟩
  have HBL := Lib.hid b1
  obtain ⟨⟨p0, p1, pl⟩, q0, q1, ql⟩ := HBX.out w1 b1
  clear b1
  go_wp2_with fail
  refine (HSM.out w1 (below_then HWW.out HBL.out)).mono ?_
  rintro e w2 ⟨rfl, b2⟩
  replace HBL : Hid (Below W.heap.size W w2) := Lib.hid (below_then HBL.out b2)
  clear b2 p0 p1 pl q0 q1 ql
  cases hs : small8B VL EL
  case false =>
    clear hs
    go_wp2_with fail
    refine (awake18_any _).mono ?_
    rintro e w9 ⟨rfl, b9⟩
    have HB9 : Hid (Below W.heap.size W w9) := Lib.hid (below_then HBL.out b9)
    clear b9
    go_wp2_with fail
    go_ret
    exact ⟨rfl, below_then HWW.out HB9.out⟩
  have HS := Lib.hid hs
  clear hs
  obtain ⟨⟨p0, p1, pl⟩, q0, q1, ql⟩ := HBX.out w2 HBL.out
  go_wp2_with fail
  refine (HPA.out w2 (below_then HWW.out HBL.out)).mono ?_
  rintro e w3 ⟨rfl, b3⟩
  replace HBL : Hid (Below W.heap.size W w3) := Lib.hid (below_then HBL.out b3)
  clear b3 p0 p1 pl q0 q1 ql
  cases hs : smallPat NS LS
  case false =>
    clear hs
    go_wp2_with fail
    refine (awake18_any _).mono ?_
    rintro e w9 ⟨rfl, b9⟩
    have HB9 : Hid (Below W.heap.size W w9) := Lib.hid (below_then HBL.out b9)
    clear b9
    go_wp2_with fail
    go_ret
    exact ⟨rfl, below_then HWW.out HB9.out⟩
  have HSP := Lib.hid (smallPat_len hs)
  clear hs
  obtain ⟨⟨p0, p1, pl⟩, q0, q1, ql⟩ := HBX.out w3 HBL.out
  have hnn9 : nn ≤ 1000 := by have := HSP.out; have := HNN.out; omega
  by_cases h4 : 4 < nn
  · have t1 : decide ((4 : Int) < (nn : Int)) = true := decide_eq_true (by omega)
    have t1' : decide (4 < nn) = true := decide_eq_true h4
    clear h4
    go_wp2_with fail
    refine (awake18_any _).mono ?_
    rintro e w9 ⟨rfl, b9⟩
    have HB9 : Hid (Below W.heap.size W w9) := Lib.hid (below_then HBL.out b9)
    clear b9
    go_wp2_with fail
    go_ret
    exact ⟨rfl, below_then HWW.out HB9.out⟩
  have t1 : decide ((4 : Int) < (nn : Int)) = false := decide_eq_false (by omega)
  have t1' : decide (4 < nn) = false := decide_eq_false h4
  have HN4 : Hid (nn ≤ 4) := Lib.hid (by omega)
  obtain ⟨rt, hrt⟩ : ∃ b, b = rightPat NS LS := ⟨_, rfl⟩
  have HRT := Lib.hid hrt
  have HRR : Hid (∀ u, Below W.heap.size W u → Calls Tryz.prog 49 #[.agg #[.slice na nn nc, .slice la nl lc]] u fun e w' => e = .returned (.bool rt) ∧ Below u.heap.size u w') := Lib.hid (fun u hu => by
    obtain ⟨h5, h6⟩ := HQT.out u (below_then HWW.out hu)
    rw [HNN.out, HNL.out, hrt]
    exact r18right_any na la nc lc NS LS u h5 h6 HQO.out.1 HQO.out.2 (by have := HSP.out; omega) (by have := HSP.out; omega))
  clear h4 hrt
  go_wp2_with fail
  refine (HRR.out w3 HBL.out).mono ?_
  rintro e w4 ⟨rfl, b4⟩
  replace HBL : Hid (Below W.heap.size W w4) := Lib.hid (below_then HBL.out b4)
  clear b4 p0 p1 pl q0 q1 ql t1 t1'
  cases rt
  case false =>
    go_wp2_with fail
    refine (awake18_any _).mono ?_
    rintro e w9 ⟨rfl, b9⟩
    have HB9 : Hid (Below W.heap.size W w9) := Lib.hid (below_then HBL.out b9)
    clear b9
    go_wp2_with fail
    go_ret
    exact ⟨rfl, below_then HWW.out HB9.out⟩
  obtain ⟨⟨p0, p1, pl⟩, q0, q1, ql⟩ := HBX.out w4 HBL.out
  go_wp2_with fail
  have HBT := built18_any va ea vc ec VL EL w4 ((HPT.out HS.out).below (below_then HWW.out HBL.out))
  rw [← HNV.out, ← HNE.out] at HBT
  refine HBT.mono ?_
  rintro e w5 ⟨gb, vb, eb, rb, B, rfl, hg, hr, b5⟩
  have hlen := built_len8 HS.out
  obtain ⟨V, hV⟩ : ∃ V, V = adV [] (VL.map Vr.v) := ⟨_, rfl⟩
  rw [← hV] at hg hr hlen
  obtain ⟨E, hE⟩ : ∃ E, E = adE V [] (EL.map Er.e) := ⟨_, rfl⟩
  rw [← hE] at hg hr hlen
  have HG := Lib.hid hg
  have HR := Lib.hid hr
  have HLN := Lib.hid hlen
  replace HBL : Hid (Below W.heap.size W w5) := Lib.hid (below_then HBL.out b5)
  clear hV hE hg hr hlen b5 HBT p0 p1 pl q0 q1 ql
  obtain ⟨⟨p0, p1, pl⟩, q0, q1, ql⟩ := HBX.out w5 HBL.out
  obtain ⟨rva, rvc, rea, rec, hrc⟩ := HR.out.cells
  obtain ⟨nV, hnV⟩ : ∃ n, n = V.length := ⟨_, rfl⟩
  obtain ⟨nE, hnE⟩ : ∃ n, n = E.length := ⟨_, rfl⟩
  have HRC : Hid (∀ u, Below w5.heap.size w5 u → (u.cell? ⟨qb, 0, none⟩ = some (.slice na nn nc) ∧ u.cell? ⟨qb, 1, none⟩ = some (.slice la nl lc) ∧ qb < u.heap.size) ∧ u.cell? ⟨rb, 0, none⟩ = some (.slice rva nV rvc) ∧ u.cell? ⟨rb, 1, none⟩ = some (.slice rea nE rec) ∧ rb < u.heap.size) := Lib.hid (fun u hu => ⟨(HBX.out u (below_then HBL.out hu)).2, by rw [hnV, hnE]; exact hrc u hu⟩)
  have HVE : Hid (nV = V.length ∧ nV ≤ 9 ∧ nE = E.length ∧ nE ≤ 40) := Lib.hid ⟨hnV, by rw [hnV]; exact HLN.out.1, hnE, by rw [hnE]; exact HLN.out.2⟩
  have HQU : Hid (∀ u, Below w5.heap.size w5 u → kNd.V u na NS ∧ kLk.V u la LS) := Lib.hid (fun u hu => HQT.out u (below_then HWW.out (below_then HBL.out hu)))
  obtain ⟨N, hN⟩ : ∃ N, N = bndP NS LS nV nE := ⟨_, rfl⟩
  have HND : Hid (N = bndP NS LS nV nE) := Lib.hid hN
  have HRB : Hid (∀ u, Below w5.heap.size w5 u → Calls Tryz.prog 53 #[.agg #[.slice na nn nc, .slice la nl lc], .int .i64 nV, .int .i64 nE] u fun e w' => e = .returned (.int .i64 N) ∧ Below u.heap.size u w') := Lib.hid (fun u hu => by
    rw [HNN.out, HNL.out, hN]
    exact r18bound_any na la nc lc NS LS u (HQU.out u hu).1 (HQU.out u hu).2 HQO.out.1 HQO.out.2 (by have := HSP.out; omega) (by have := HSP.out; omega) nV nE HVE.out.2.1 HVE.out.2.2.2)
  have HFIN : Hid (∀ u, Below w5.heap.size w5 u → Below w.heap.size w u) := Lib.hid (fun u hu => below_then HWW.out (below_then HBL.out hu))
  have HROW : Hid (∀ u, Below w5.heap.size w5 u → Calls Tryz.prog 52 #[.pointer (some ⟨rb, 0, none⟩), .agg #[.slice na nn nc, .slice la nl lc]] u (RwPost u (rowsP V E NS LS))) := Lib.hid (fun u hu => by
    rw [HNN.out, HNL.out]
    exact (HR.out.below hu).rows8 HG.out.ok HLN.out.1 HLN.out.2 na la nc lc NS LS (HQU.out u hu).1 (HQU.out u hu).2 HRT.out.symm (.inr (by have := HN4.out; have := HNN.out; omega)))
  have m1 := Int.lt_tmod_of_pos n (show (0 : Int) < 300 by omega)
  have m2 := Int.tmod_lt_of_pos n (show (0 : Int) < 300 by omega)
  obtain ⟨K, hK⟩ : ∃ K : Nat, (n.tmod 300 + 300) % 300 = (K : Int) := ⟨((n.tmod 300 + 300) % 300).toNat, by omega⟩
  have hK2 : n.tmod 300 % 300 = (K : Int) := by omega
  have hK3 : (n.tmod 300 + 300).tmod 300 = (K : Int) := by rw [Int.tmod_eq_emod_of_nonneg (by omega)]; exact hK
  have HK : Hid (K < 300) := Lib.hid (by omega)
  clear hnV hnE hN hrc p0 p1 pl q0 q1 ql
  go_upto_region 5 with fail
  clear m1 m2 hK hK2 hK3
  go_wp2_with fail
  refine (wnew_any gb (K : Int) w5).mono ?_
  rintro e w6 hp
  have hK := HK.out
  unfold WnPost at hp
  rw [if_neg (by omega), Int.toNat_natCast] at hp
  obtain ⟨rfl, hw⟩ := hp
  obtain ⟨wb, hwb⟩ : ∃ b, b = w5.heap.size := ⟨_, rfl⟩
  rw [← hwb] at hw ⊢
  have HW6 := Lib.hid hw
  have HWBE : Hid (w.heap.size ≤ wb) := Lib.hid (by have := (HFIN.out _ (Below.refl _ _)).size; omega)
  have HRUN : Hid (∀ u st, WkS w5 u wb gb st → Calls Tryz.prog 51 #[.pointer (some ⟨wb, 0, none⟩), .agg #[.slice na nn nc, .slice la nl lc], .int .i64 4096] u (RnP w5 u wb gb st V E NS LS 4096)) := Lib.hid (fun u st hu => by
    rw [HNN.out, HNL.out]
    exact mrun_any w5 u wb gb vb eb V E na la nc lc NS LS st 4096 HG.out hu (HQU.out u hu.bel).1 (HQU.out u hu.bel).2 (fun b off e hne => by have := HQB.out.1 b off e hne; have := HWBE.out; omega) (fun b off e hne => by have := HQB.out.2 b off e hne; have := HWBE.out; omega) HQO.out.1 HQO.out.2 HRT.out.symm (by omega) (by have := HLN.out; omega) (by have := HLN.out; omega))
  clear hw hwb hK
  obtain ⟨q0, q1, ql⟩ := (HRC.out w6 HW6.out.bel).1
  go_wp2_with fail
  refine (HRUN.out w6 _ HW6.out).mono ?_
  rintro e w7 ⟨a, c, R, code, st', rfl, hT, hO, hF, hW7, hC⟩
  have HO := Lib.hid hO
  have HF := Lib.hid hF
  have HW7 := Lib.hid hW7
  obtain ⟨nr, hnr⟩ : ∃ k, k = R.length := ⟨_, rfl⟩
  rw [← hnr]
  have HNR := Lib.hid hnr
  have hT2 : (code = 41 ∧ nr = 0 ∧ st' = none ∧ K < N) ∨ (code = 32 ∧ 4096 < (rowsP V E NS LS).length) ∨ (code = 0 ∧ R.map Ws.l = rowsP V E NS LS ∧ (rowsP V E NS LS).length ≤ 4096) := by
    rcases hT with ⟨h1, h2, h3, h⟩ | ⟨r, r', _, _, ⟨h1, h2, h3⟩ | ⟨h1, h2, h3⟩⟩
    · refine .inl ⟨h1, ?_, h3, ?_⟩
      · have := congrArg List.length h2
        rw [List.length_map] at this
        rw [hnr]; exact this
      · rw [HND.out, HVE.out.1, HVE.out.2.2.1, bnd_enough HRT.out.symm]
        exact h K rfl
    · exact .inr (.inl ⟨h1, h3⟩)
    · rw [h2] at h3
      exact .inr (.inr ⟨h1, h2, h3⟩)
  have HT2 := Lib.hid hT2
  clear hT hO hF hW7 hC hnr hT2 q0 q1 ql
  obtain ⟨q0, q1, ql⟩ := (HRC.out w7 HW7.out.bel).1
  go_wp2_with fail
  refine (HROW.out w7 HW7.out.bel).mono ?_
  rintro e w8 ⟨a2, c2, R2, rfl, hR2, hI2, b8⟩
  have HBC := Lib.hid b8
  have HW8 := Lib.hid (HW7.out.below b8)
  obtain ⟨nr2, hnr2⟩ : ∃ k, k = R2.length := ⟨_, rfl⟩
  rw [← hnr2]
  have HR2 : Hid (R2.map Ws.l = rowsP V E NS LS ∧ nr2 = R2.length ∧ nr2 = (rowsP V E NS LS).length) := Lib.hid ⟨hR2, hnr2, by rw [hnr2, ← hR2, List.length_map]⟩
  have HI2 := Lib.hid hI2
  have hn2 : nr2 ≤ 1000000 := by
    rw [HR2.out.2.2]
    exact rows_few HLN.out.1 (by have := HN4.out; have := HNN.out; omega) (.inr (by have := HN4.out; have := HNN.out; omega))
  clear hR2 hnr2 hI2 b8 q0 q1 ql
  rcases HT2.out with ⟨rfl, rfl, rfl, hkn⟩ | ⟨rfl, hm⟩ | ⟨rfl, hR, hm⟩
  · have t3 : decide ((N : Int) ≤ (K : Int)) = false := decide_eq_false (by omega)
    have t3' : decide (N ≤ K) = false := decide_eq_false (by omega)
    have HSPT : Hid (∀ u, Below w8.heap.size w8 u → Calls Tryz.prog 42 #[.pointer (some ⟨wb, 0, none⟩)] u fun e w' => e = .returned (.bool true) ∧ u = w') := Lib.hid (fun u hu => spent_any w5 u wb gb none (HW8.out.below hu))
    clear hkn
    go_upto_region 11 with fail
    go_cut [97] from 74 to 97 (fun s97 wc => ∃ u : World, u = wc ∧ s97 = .bool false ∧ Hid (Below w8.heap.size w8 u))
    case first =>
      go_region_held3 (fun u => (u.cell? ⟨qb, 0, none⟩ = some (.slice na nn nc) ∧ u.cell? ⟨qb, 1, none⟩ = some (.slice la nl lc) ∧ qb < u.heap.size) ∧ u.cell? ⟨rb, 0, none⟩ = some (.slice rva nV rvc) ∧ u.cell? ⟨rb, 1, none⟩ = some (.slice rea nE rec) ∧ rb < u.heap.size)
        (first | exact HRC.out _ (HW8.out.bel.trans ((Below.refl _ _).drew.mono HW8.out.bel.size)) | exact HRC.out _ (HW8.out.bel.trans (HZ1.out.mono HW8.out.bel.size)))
        ((first
          | (go_at_call 42; (refine (HSPT.out _ (Below.refl _ _).drew).mono ?_); rintro e v1 ⟨rfl, rfl⟩)
          | (go_at_call 53; (refine (HRB.out _ (HW8.out.bel.trans ((Below.refl _ _).drew.mono HW8.out.bel.size))).mono ?_); rintro e v3 ⟨rfl, b5⟩; have HZ1 : Hid (Below w8.heap.size w8 v3) := Lib.hid (below_then (Below.refl _ _).drew b5))))
      all_goals
        go_wp2_with fail
        go_meet
        exact ⟨_, rfl, rfl, HZ1⟩
    case rest =>
    obtain ⟨w9, rfl, rfl, HB9⟩ := hcut
    apply_assumption
    have HW9 := Lib.hid (HW8.out.below HB9.out)
    have HPN : Hid (payS (none) (1099511627776 : Int).toNat = none) := Lib.hid (payS_all HW9.out.small)
    go_wp2_with fail
    refine (payN_any w5 w9 wb gb (none) 1099511627776 HW9.out).mono ?_
    rintro e x1 ⟨rfl, hs1, hc1⟩
    rw [HPN.out] at hs1 ⊢
    have HS1 := Lib.hid hs1
    have HBX1 : Hid (Below w5.heap.size w5 x1) := Lib.hid hs1.bel
    clear hs1 hc1
    obtain ⟨q0, q1, ql⟩ := (HRC.out x1 HBX1.out).1
    have HRN2 := Lib.hid (HRUN.out x1 none HS1.out)
    go_wp2_with fail
    refine HRN2.out.mono ?_
    rintro e x2 ⟨a3, c3, R3, code3, st3, rfl, hT3, hO3, hF3, hW3, hC3⟩
    have HBX2 : Hid (Below w5.heap.size w5 x2) := Lib.hid hW3.bel
    have hT4 : code3 = 41 ∧ R3.length = 0 := by
      rcases hT3 with ⟨h1, h2, _⟩ | ⟨r, r', h1, _⟩
      · have := congrArg List.length h2
        rw [List.length_map] at this
        exact ⟨h1, this⟩
      · cases h1
    obtain ⟨rfl, hR3⟩ := hT4
    rw [hR3]
    clear hT3 hO3 hF3 hW3 hC3 hR3
    go_wp2_with fail
    go_ret
    exact ⟨rfl, HFIN.out _ HBX2.out⟩
  · have t3 : decide ((4096 : Int) < (nr2 : Int)) = true := decide_eq_true (by have := HR2.out.2.2; omega)
    have t3' : decide (4096 < nr2) = true := decide_eq_true (by have := HR2.out.2.2; omega)
    have t4 : decide ((nr2 : Int) ≤ 4096) = false := decide_eq_false (by have := HR2.out.2.2; omega)
    have t4' : decide (nr2 ≤ 4096) = false := decide_eq_false (by have := HR2.out.2.2; omega)
    clear hm
    have HPN : Hid (payS (st') (1099511627776 : Int).toNat = none) := Lib.hid (payS_all HW8.out.small)
    go_wp2_with fail
    refine (payN_any w5 w8 wb gb (st') 1099511627776 HW8.out).mono ?_
    rintro e x1 ⟨rfl, hs1, hc1⟩
    rw [HPN.out] at hs1 ⊢
    have HS1 := Lib.hid hs1
    have HBX1 : Hid (Below w5.heap.size w5 x1) := Lib.hid hs1.bel
    clear hs1 hc1
    obtain ⟨q0, q1, ql⟩ := (HRC.out x1 HBX1.out).1
    have HRN2 := Lib.hid (HRUN.out x1 none HS1.out)
    go_wp2_with fail
    refine HRN2.out.mono ?_
    rintro e x2 ⟨a3, c3, R3, code3, st3, rfl, hT3, hO3, hF3, hW3, hC3⟩
    have HBX2 : Hid (Below w5.heap.size w5 x2) := Lib.hid hW3.bel
    have hT4 : code3 = 41 ∧ R3.length = 0 := by
      rcases hT3 with ⟨h1, h2, _⟩ | ⟨r, r', h1, _⟩
      · have := congrArg List.length h2
        rw [List.length_map] at this
        exact ⟨h1, this⟩
      · cases h1
    obtain ⟨rfl, hR3⟩ := hT4
    rw [hR3]
    clear hT3 hO3 hF3 hW3 hC3 hR3
    go_wp2_with fail
    go_ret
    exact ⟨rfl, HFIN.out _ HBX2.out⟩
  · have t3 : decide ((4096 : Int) < (nr2 : Int)) = false := decide_eq_false (by have := HR2.out.2.2; omega)
    have t3' : decide (4096 < nr2) = false := decide_eq_false (by have := HR2.out.2.2; omega)
    have t4 : decide ((nr2 : Int) ≤ 4096) = true := decide_eq_true (by have := HR2.out.2.2; omega)
    have t4' : decide (nr2 ≤ 4096) = true := decide_eq_true (by have := HR2.out.2.2; omega)
    have HSA : Hid (Calls Tryz.prog 54 #[.slice a nr c, .slice a2 nr2 c2] w8 fun e w' => e = .returned (.bool true) ∧ Below w8.heap.size w8 w') := Lib.hid (by
      have h := same18_any a a2 c c2 R R2 w8 (HO.out.below HBC.out).toV HI2.out.o.toV (fun x hx => ⟨((HF.out x hx).below HBC.out).toV, by
        have h1 : x.l ∈ R.map Ws.l := List.mem_map.2 ⟨x, hx, rfl⟩
        rw [hR, mem_rowsP (rightPat_iff.1 HRT.out.symm).2.2] at h1
        rw [h1.1]
        have := HSP.out
        omega⟩) (fun x hx => (HI2.out.e x hx).toV) (by rw [← List.length_map (f := Ws.l), hR, ← HR2.out.2.2]; exact hn2)
      rw [hR, HR2.out.1, ← HNR.out, ← HR2.out.2.1, decide_eq_true rfl] at h
      exact h)
    clear hm hR
    go_wp2_with fail
    refine HSA.out.mono ?_
    rintro e w9 ⟨rfl, b9⟩
    have HW9 := Lib.hid (HW8.out.below b9)
    clear b9
    have HPN : Hid (payS (st') (1099511627776 : Int).toNat = none) := Lib.hid (payS_all HW9.out.small)
    go_wp2_with fail
    refine (payN_any w5 w9 wb gb (st') 1099511627776 HW9.out).mono ?_
    rintro e x1 ⟨rfl, hs1, hc1⟩
    rw [HPN.out] at hs1 ⊢
    have HS1 := Lib.hid hs1
    have HBX1 : Hid (Below w5.heap.size w5 x1) := Lib.hid hs1.bel
    clear hs1 hc1
    obtain ⟨q0, q1, ql⟩ := (HRC.out x1 HBX1.out).1
    have HRN2 := Lib.hid (HRUN.out x1 none HS1.out)
    go_wp2_with fail
    refine HRN2.out.mono ?_
    rintro e x2 ⟨a3, c3, R3, code3, st3, rfl, hT3, hO3, hF3, hW3, hC3⟩
    have HBX2 : Hid (Below w5.heap.size w5 x2) := Lib.hid hW3.bel
    have hT4 : code3 = 41 ∧ R3.length = 0 := by
      rcases hT3 with ⟨h1, h2, _⟩ | ⟨r, r', h1, _⟩
      · have := congrArg List.length h2
        rw [List.length_map] at this
        exact ⟨h1, this⟩
      · cases h1
    obtain ⟨rfl, hR3⟩ := hT4
    rw [hR3]
    clear hT3 hO3 hF3 hW3 hC3 hR3
    go_wp2_with fail
    go_ret
    exact ⟨rfl, HFIN.out _ HBX2.out⟩
end Go.Proofs.YtonilojjahfboaaGreat
