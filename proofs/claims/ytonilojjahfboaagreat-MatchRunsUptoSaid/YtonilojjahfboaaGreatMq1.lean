/- Law MatchRuns: the walk. Conditions: small bulk. -/
import Derived.Test.YtonilojjahfboaaGreatMbA
import Derived.BigQuiet
import Derived.BigRegion
import Derived.Deep.Cut
import Derived.Deep.RegionHeld3
import Derived.Deep.CutRange
namespace Go.Proofs.YtonilojjahfboaaGreat
open Go.RowKit Go.Maps

set_option maxRecDepth 100000 in
set_option maxHeartbeats 16000000 in
theorem mruns_law (va ea na la : Option Addr) (vc ec nc lc : Nat) (VL : List Vr) (EL : List Er) (NS : List Nd) (LS : List Lk) (n : Int) (w : World) (h1 : kVr.V w va VL) (h2 : kEr.V w ea EL) (h3 : ∀ x ∈ VL, VrOk w x) (h4 : ∀ x ∈ EL, ErOk w x) (h5 : kNd.V w na NS) (h6 : kLk.V w la LS) (on : ∀ x ∈ NS, x.Ok) (ol : ∀ x ∈ LS, x.Ok) (g1 : NS.length ≤ maxLen) (g2 : LS.length ≤ maxLen) :
    Calls Tryz.prog 10 #[.agg #[.slice va VL.length vc, .slice ea EL.length ec], .agg #[.slice na NS.length nc, .slice la LS.length lc], .int .i64 n] w fun e w' => e = .returned (.bool true) ∧ Below w.heap.size w w' := by
  obtain ⟨nv, hnv⟩ : ∃ n, n = VL.length := ⟨_, rfl⟩
  obtain ⟨ne, hne⟩ : ∃ n, n = EL.length := ⟨_, rfl⟩
  obtain ⟨nn, hnn⟩ : ∃ n, n = NS.length := ⟨_, rfl⟩
  obtain ⟨nl, hnl⟩ : ∃ n, n = LS.length := ⟨_, rfl⟩
  have HNV := Lib.hid hnv
  have HNE := Lib.hid hne
  have HNN := Lib.hid hnn
  have HNL := Lib.hid hnl
  have HSM : Hid (∀ u, Below w.heap.size w u → Calls Tryz.prog 47 #[.agg #[.slice va nv vc, .slice ea ne ec]] u (fun e w' => e = .returned (.bool (small8B VL EL)) ∧ Below u.heap.size u w')) := Lib.hid (fun u hu => by rw [hnv, hne]; exact small18_any va ea vc ec VL EL u (h1.below hu) (h2.below hu))
  have HPA : Hid (∀ u, Below w.heap.size w u → Calls Tryz.prog 48 #[.agg #[.slice na nn nc, .slice la nl lc]] u (fun e w' => e = .returned (.bool (smallPat NS LS)) ∧ Below u.heap.size u w')) := Lib.hid (fun u hu => by rw [hnn, hnl]; exact pattern18_any na la nc lc NS LS u (h5.below hu) (h6.below hu) g1 g2)
  have HPT : Hid (small8B VL EL = true → PtIn w va ea VL EL) := Lib.hid (fun hs => ptIn8_of h1 h2 h3 h4 hs)
  have HQT : Hid (∀ u, Below w.heap.size w u → kNd.V u na NS ∧ kLk.V u la LS) := Lib.hid (fun u hu => ⟨h5.below hu, h6.below hu⟩)
  have HQB : Hid ((∀ b off, na = some ⟨b, off, none⟩ → NS ≠ [] → b < w.heap.size) ∧ ∀ b off, la = some ⟨b, off, none⟩ → LS ≠ [] → b < w.heap.size) := Lib.hid ⟨fun b off e hne => by
    obtain ⟨b', off', e', hat⟩ := h5 hne
    rw [e] at e'
    cases e'
    exact hat.lt, fun b off e hne => by
    obtain ⟨b', off', e', hat⟩ := h6 hne
    rw [e] at e'
    cases e'
    exact hat.lt⟩
  have HQO : Hid ((∀ x ∈ NS, x.Ok) ∧ ∀ x ∈ LS, x.Ok) := Lib.hid ⟨on, ol⟩
  rw [← hnv, ← hne, ← hnn, ← hnl]
  clear hnv hne hnn hnl h1 h2 h3 h4 h5 h6 on ol g1 g2
  obtain ⟨pb, hpb⟩ : ∃ pb, pb = w.heap.size := ⟨_, rfl⟩
  obtain ⟨qb, hqb⟩ : ∃ qb, qb = w.heap.size + 1 := ⟨_, rfl⟩
  obtain ⟨W, hW⟩ : ∃ W, W = (w.alloc (.cells #[.slice va nv vc, .slice ea ne ec] 112)).alloc (.cells #[.slice na nn nc, .slice la nl lc] 116) := ⟨_, rfl⟩
  have HWW : Hid (Below w.heap.size w W) := Lib.hid (by rw [hW]; exact below_then (below_box _ _) (below_box _ _))
  have HBX : Hid (∀ u, Below W.heap.size W u → (u.cell? ⟨pb, 0, none⟩ = some (.slice va nv vc) ∧ u.cell? ⟨pb, 1, none⟩ = some (.slice ea ne ec) ∧ pb < u.heap.size) ∧ u.cell? ⟨qb, 0, none⟩ = some (.slice na nn nc) ∧ u.cell? ⟨qb, 1, none⟩ = some (.slice la nl lc) ∧ qb < u.heap.size) := Lib.hid (fun u hu => by
    have p1 : W.heap[pb]? = some (.cells #[.slice va nv vc, .slice ea ne ec] 112 (0, 0)) := by rw [hW, hpb]; exact (Below.heap_alloc _ _ _ (by simp)).trans (heap_new w _)
    have p2 : W.heap[qb]? = some (.cells #[.slice na nn nc, .slice la nl lc] 116 (0, 0)) := by rw [hW, hqb]; exact heap_new2 w _ _
    have q1 := (hu.block _ (Array.getElem?_eq_some_iff.1 p1).1).trans p1
    have q2 := (hu.block _ (Array.getElem?_eq_some_iff.1 p2).1).trans p2
    exact ⟨⟨by rw [cell_of_blk q1]; rfl, by rw [cell_of_blk q1]; rfl, (Array.getElem?_eq_some_iff.1 q1).1⟩, by rw [cell_of_blk q2]; rfl, by rw [cell_of_blk q2]; rfl, (Array.getElem?_eq_some_iff.1 q2).1⟩)
  have HW := Lib.hid hW.symm
  have HE := Lib.hid (And.intro hpb.symm hqb.symm)
  clear hW hpb hqb
  go_enter Tryz.func10, Tryz.ntmps10
  go_wp2_with fail
  rw [HW.out, HE.out.2, HE.out.1]
  refine (awake18_any W).mono ?_
  rintro e w1 ⟨rfl, b1⟩
  have HBL := Lib.hid b1
  obtain ⟨⟨p0, p1, pl⟩, q0, q1, ql⟩ := HBX.out w1 b1
  clear b1
  go_wp2_with fail
  refine (HSM.out w1 (below_then HWW.out HBL.out)).mono ?_
  rintro e w2 ⟨rfl, b2⟩
  replace HBL : Hid (Below W.heap.size W w2) := Lib.hid (below_then HBL.out b2)
  clear b2 p0 p1 pl q0 q1 ql
  cases hs : small8B VL EL
  case false =>
    clear hs
    go_wp2_with fail
    refine (awake18_any _).mono ?_
    rintro e w9 ⟨rfl, b9⟩
    have HB9 : Hid (Below W.heap.size W w9) := Lib.hid (below_then HBL.out b9)
    clear b9
    go_wp2_with fail
    go_ret
    exact ⟨rfl, below_then HWW.out HB9.out⟩
  have HS := Lib.hid hs
  clear hs
  obtain ⟨⟨p0, p1, pl⟩, q0, q1, ql⟩ := HBX.out w2 HBL.out
  go_wp2_with fail
  refine (HPA.out w2 (below_then HWW.out HBL.out)).mono ?_
  rintro e w3 ⟨rfl, b3⟩
  replace HBL : Hid (Below W.heap.size W w3) := Lib.hid (below_then HBL.out b3)
  clear b3 p0 p1 pl q0 q1 ql
  cases hs : smallPat NS LS
  case false =>
    clear hs
    go_wp2_with fail
    refine (awake18_any _).mono ?_
    rintro e w9 ⟨rfl, b9⟩
    have HB9 : Hid (Below W.heap.size W w9) := Lib.hid (below_then HBL.out b9)
    clear b9
    go_wp2_with fail
    go_ret
    exact ⟨rfl, below_then HWW.out HB9.out⟩
  have HSP := Lib.hid (smallPat_len hs)
  clear hs
  obtain ⟨⟨p0, p1, pl⟩, q0, q1, ql⟩ := HBX.out w3 HBL.out
  go_wp2_with fail
  have HBT := built18_any va ea vc ec VL EL w3 ((HPT.out HS.out).below (below_then HWW.out HBL.out))
  rw [← HNV.out, ← HNE.out] at HBT
  refine HBT.mono ?_
  rintro e w4 ⟨gb, vb, eb, rb, B, rfl, hg, hr, b5⟩
  have hlen := built_len8 HS.out
  obtain ⟨V, hV⟩ : ∃ V, V = adV [] (VL.map Vr.v) := ⟨_, rfl⟩
  rw [← hV] at hg hr hlen
  obtain ⟨E, hE⟩ : ∃ E, E = adE V [] (EL.map Er.e) := ⟨_, rfl⟩
  rw [← hE] at hg hr hlen
  have HG := Lib.hid hg
  have HR := Lib.hid hr
  have HLN := Lib.hid hlen
  replace HBL : Hid (Below W.heap.size W w4) := Lib.hid (below_then HBL.out b5)
  clear hV hE hg hr hlen b5 HBT p0 p1 pl q0 q1 ql
  obtain ⟨⟨p0, p1, pl⟩, q0, q1, ql⟩ := HBX.out w4 HBL.out
  obtain ⟨rva, rvc, rea, rec, hrc⟩ := HR.out.cells
  obtain ⟨nV, hnV⟩ : ∃ n, n = V.length := ⟨_, rfl⟩
  obtain ⟨nE, hnE⟩ : ∃ n, n = E.length := ⟨_, rfl⟩
  have HRC : Hid (∀ u, Below w4.heap.size w4 u → (u.cell? ⟨qb, 0, none⟩ = some (.slice na nn nc) ∧ u.cell? ⟨qb, 1, none⟩ = some (.slice la nl lc) ∧ qb < u.heap.size) ∧ u.cell? ⟨rb, 0, none⟩ = some (.slice rva nV rvc) ∧ u.cell? ⟨rb, 1, none⟩ = some (.slice rea nE rec) ∧ rb < u.heap.size) := Lib.hid (fun u hu => ⟨(HBX.out u (below_then HBL.out hu)).2, by rw [hnV, hnE]; exact hrc u hu⟩)
  have HVE : Hid (nV = V.length ∧ nV ≤ 9 ∧ nE = E.length ∧ nE ≤ 40) := Lib.hid ⟨hnV, by rw [hnV]; exact HLN.out.1, hnE, by rw [hnE]; exact HLN.out.2⟩
  have HQU : Hid (∀ u, Below w4.heap.size w4 u → kNd.V u na NS ∧ kLk.V u la LS) := Lib.hid (fun u hu => HQT.out u (below_then HWW.out (below_then HBL.out hu)))
  obtain ⟨N, hN⟩ : ∃ N, N = bndP NS LS nV nE := ⟨_, rfl⟩
  have HND : Hid (N = bndP NS LS nV nE ∧ N ≤ 1073741824) := Lib.hid ⟨hN, by rw [hN]; exact bnd_top HVE.out.2.1 HVE.out.2.2.2⟩
  have HMB : Hid (∀ u, Below w4.heap.size w4 u → Calls Tryz.prog 56 #[.agg #[.slice na nn nc, .slice la nl lc], .int .i64 nV, .int .i64 nE] u fun e w' => e = .returned (.int .i64 N) ∧ Below u.heap.size u w') := Lib.hid (fun u hu => by
    rw [HNN.out, HNL.out, hN]
    exact mbound_any na la nc lc NS LS u (HQU.out u hu).1 (HQU.out u hu).2 HQO.out.1 HQO.out.2 (by have := HSP.out; omega) (by have := HSP.out; omega) nV nE HVE.out.2.1 HVE.out.2.2.2)
  have HRB : Hid (∀ u, Below w4.heap.size w4 u → Calls Tryz.prog 53 #[.agg #[.slice na nn nc, .slice la nl lc], .int .i64 nV, .int .i64 nE] u fun e w' => e = .returned (.int .i64 N) ∧ Below u.heap.size u w') := Lib.hid (fun u hu => by
    rw [HNN.out, HNL.out, hN]
    exact r18bound_any na la nc lc NS LS u (HQU.out u hu).1 (HQU.out u hu).2 HQO.out.1 HQO.out.2 (by have := HSP.out; omega) (by have := HSP.out; omega) nV nE HVE.out.2.1 HVE.out.2.2.2)
  obtain ⟨rt, hrt⟩ : ∃ b, b = rightPat NS LS := ⟨_, rfl⟩
  have HRT := Lib.hid hrt
  have HMR : Hid (∀ u, Below w4.heap.size w4 u → Calls Tryz.prog 57 #[.agg #[.slice na nn nc, .slice la nl lc]] u fun e w' => e = .returned (.bool rt) ∧ Below u.heap.size u w') := Lib.hid (fun u hu => by
    rw [HNN.out, HNL.out, hrt]
    exact mright_any na la nc lc NS LS u (HQU.out u hu).1 (HQU.out u hu).2 HQO.out.1 HQO.out.2 (by have := HSP.out; omega) (by have := HSP.out; omega))
  have HRR : Hid (∀ u, Below w4.heap.size w4 u → Calls Tryz.prog 49 #[.agg #[.slice na nn nc, .slice la nl lc]] u fun e w' => e = .returned (.bool rt) ∧ Below u.heap.size u w') := Lib.hid (fun u hu => by
    rw [HNN.out, HNL.out, hrt]
    exact r18right_any na la nc lc NS LS u (HQU.out u hu).1 (HQU.out u hu).2 HQO.out.1 HQO.out.2 (by have := HSP.out; omega) (by have := HSP.out; omega))
  clear hnV hnE hN hrc p0 p1 pl q0 q1 ql hrt
  go_upto_region 4 with fail
  go_cut [9] from 35 to 46 (fun s9 wc => ∃ u : World, u = wc ∧ s9 = .int .i64 N ∧ Hid (Below w4.heap.size w4 u))
  case first =>
    go_region_held3 (fun u => (u.cell? ⟨qb, 0, none⟩ = some (.slice na nn nc) ∧ u.cell? ⟨qb, 1, none⟩ = some (.slice la nl lc) ∧ qb < u.heap.size) ∧ u.cell? ⟨rb, 0, none⟩ = some (.slice rva nV rvc) ∧ u.cell? ⟨rb, 1, none⟩ = some (.slice rea nE rec) ∧ rb < u.heap.size)
      (first | exact HRC.out _ (Below.refl _ _).drew | exact HRC.out _ HB5.out)
      ((go_at_call 56; (refine (HMB.out _ (Below.refl _ _).drew).mono ?_); rintro e w5 ⟨rfl, b5⟩; have HB5 : Hid (Below w4.heap.size w4 w5) := Lib.hid (below_then (below_drewN (Below.refl w4.heap.size w4) 1) b5); clear b5))
    all_goals
      go_wp2_with fail
      go_meet
      exact ⟨_, rfl, rfl, HB5⟩
  case rest =>
  obtain ⟨w5, rfl, rfl, HB5⟩ := hcut
  apply_assumption
  go_upto_region 5 with fail
  go_cut [67] from 47 to 67 (fun s67 wc => ∃ u : World, u = wc ∧ s67 = .bool false ∧ Hid (Below w4.heap.size w4 u))
  case first =>
    go_region_held3 (fun u => (u.cell? ⟨qb, 0, none⟩ = some (.slice na nn nc) ∧ u.cell? ⟨qb, 1, none⟩ = some (.slice la nl lc) ∧ qb < u.heap.size) ∧ u.cell? ⟨rb, 0, none⟩ = some (.slice rva nV rvc) ∧ u.cell? ⟨rb, 1, none⟩ = some (.slice rea nE rec) ∧ rb < u.heap.size)
      (first | exact HRC.out _ HZ3.out | exact HRC.out _ HZ2.out | exact HRC.out _ HZ1.out | exact HRC.out _ (below_then HB5.out (Below.refl _ _).drew))
      ((first
        | (go_at_call 57; (refine (HMR.out _ (by first | exact HZ2.out | exact HZ1.out | exact (below_then HB5.out (Below.refl _ _).drew))).mono ?_); rintro e v1 ⟨rfl, b5⟩; first | (have HZ3 : Hid (Below w4.heap.size w4 v1) := Lib.hid (below_then HZ2.out b5)) | (have HZ2 : Hid (Below w4.heap.size w4 v1) := Lib.hid (below_then HZ1.out b5)) | (have HZ1 : Hid (Below w4.heap.size w4 v1) := Lib.hid (below_then (below_then HB5.out (Below.refl _ _).drew) b5)))
        | (go_at_call 49; (refine (HRR.out _ (by first | exact HZ2.out | exact HZ1.out | exact (below_then HB5.out (Below.refl _ _).drew))).mono ?_); rintro e v2 ⟨rfl, b5⟩; first | (have HZ3 : Hid (Below w4.heap.size w4 v2) := Lib.hid (below_then HZ2.out b5)) | (have HZ2 : Hid (Below w4.heap.size w4 v2) := Lib.hid (below_then HZ1.out b5)) | (have HZ1 : Hid (Below w4.heap.size w4 v2) := Lib.hid (below_then (below_then HB5.out (Below.refl _ _).drew) b5)))
        | (go_at_call 53; (refine (HRB.out _ (by first | exact HZ2.out | exact HZ1.out | exact (below_then HB5.out (Below.refl _ _).drew))).mono ?_); rintro e v3 ⟨rfl, b5⟩; first | (have HZ3 : Hid (Below w4.heap.size w4 v3) := Lib.hid (below_then HZ2.out b5)) | (have HZ2 : Hid (Below w4.heap.size w4 v3) := Lib.hid (below_then HZ1.out b5)) | (have HZ1 : Hid (Below w4.heap.size w4 v3) := Lib.hid (below_then (below_then HB5.out (Below.refl _ _).drew) b5)))))
    all_goals
      go_wp2_with fail
      go_meet
      exact ⟨_, rfl, rfl, HZ3⟩
  case rest =>
  obtain ⟨w6, rfl, rfl, HB6⟩ := hcut
  apply_assumption
  have HFIN : Hid (∀ u, Below w4.heap.size w4 u → Below w.heap.size w u) := Lib.hid (fun u hu => below_then HWW.out (below_then HBL.out hu))
  obtain ⟨⟨q0, q1, ql⟩, r0, r1, rl⟩ := HRC.out w6 HB6.out
  have hnn9 : nn ≤ 1000 := by have := HSP.out; have := HNN.out; omega
  have hnV9 : nV ≤ 1000 := by have := HVE.out; omega
  by_cases hf : 5 < nV ∧ 4 < nn
  · have t1 : decide ((4 : Int) < (nn : Int)) = true := decide_eq_true (by omega)
    have t1' : decide (4 < nn) = true := decide_eq_true (by omega)
    have t2 : decide ((5 : Int) < (nV : Int)) = true := decide_eq_true (by omega)
    have t2' : decide (5 < nV) = true := decide_eq_true (by omega)
    clear hf
    go_wp2_with fail
    go_ret
    exact ⟨rfl, HFIN.out _ HB6.out⟩
  have HFEW : Hid (V.length ≤ 5 ∨ NS.length ≤ 4) := Lib.hid (by have := HVE.out.1; have := HNN.out; omega)
  go_upto_region 7 with fail
  go_cut [79] from 68 to 79 (fun s79 wc => w6 = wc ∧ s79 = .bool false)
  case first =>
    by_cases h4 : 4 < nn
    · have t1 : decide ((4 : Int) < (nn : Int)) = true := decide_eq_true (by omega)
      have t1' : decide (4 < nn) = true := decide_eq_true (by omega)
      have t2 : decide ((5 : Int) < (nV : Int)) = false := decide_eq_false (by omega)
      have t2' : decide (5 < nV) = false := decide_eq_false (by omega)
      clear h4 hf
      go_wp2_with fail
      go_meet
      exact ⟨rfl, rfl⟩
    · have t1 : decide ((4 : Int) < (nn : Int)) = false := decide_eq_false (by omega)
      have t1' : decide (4 < nn) = false := decide_eq_false (by omega)
      clear h4 hf
      go_wp2_with fail
      go_meet
      exact ⟨rfl, rfl⟩
  case rest =>
  obtain ⟨rfl, rfl⟩ := hcut
  apply_assumption
  clear q0 q1 ql r0 r1 rl
  go_wp2_with fail
  refine (wnew_any gb (N : Int) w6).mono ?_
  rintro e w7 hp
  have hN := HND.out.2
  unfold WnPost at hp
  rw [if_neg (by omega), Int.toNat_natCast] at hp
  obtain ⟨rfl, hw⟩ := hp
  obtain ⟨wb, hwb⟩ : ∃ b, b = w6.heap.size := ⟨_, rfl⟩
  rw [← hwb] at hw ⊢
  have HWK := Lib.hid hw
  have HWBE : Hid (w.heap.size ≤ wb) := Lib.hid (by have := (HFIN.out _ HB6.out).size; omega)
  have HB7 : Hid (Below w4.heap.size w4 w7) := Lib.hid (HB6.out.trans (hw.bel.mono HB6.out.size))
  clear hw hwb hN hf
  obtain ⟨q0, q1, ql⟩ := (HRC.out w7 HB7.out).1
  go_wp2_with fail
  refine (mrun_nil na la nc lc nn nl n w7).mono ?_
  rintro e w8 ⟨rfl, b8⟩
  have HB8 := Lib.hid (below_then HB7.out b8)
  have HW8 := Lib.hid (HWK.out.below b8)
  clear b8 q0 q1 ql
  obtain ⟨q0, q1, ql⟩ := (HRC.out w8 HB8.out).1
  by_cases hb : rt = false ∨ n < 0 ∨ 4096 < n
  · have HBD : Hid (Calls Tryz.prog 51 #[.pointer (some ⟨wb, 0, none⟩), .agg #[.slice na nn nc, .slice la nl lc], .int .i64 n] w8 fun e w' => e = .returned (.tuple #[.slice none 0 0, .int .i64 2]) ∧ Below w8.heap.size w8 w') := Lib.hid (by
      rw [HNN.out, HNL.out]
      exact mrun_bad w8 wb na la nc lc NS LS n (HQU.out w8 HB8.out).1 (HQU.out w8 HB8.out).2 HQO.out.1 HQO.out.2 (by have := HSP.out; omega) (by have := HSP.out; omega) (by rw [← HRT.out]; exact hb))
    go_wp2_with fail
    refine HBD.out.mono ?_
    rintro e w9 ⟨rfl, b9⟩
    have HB9 := Lib.hid (below_then HB8.out b9)
    clear b9 q0 q1 ql
    obtain ⟨q0, q1, ql⟩ := (HRC.out w9 HB9.out).1
    go_wp2_with fail
    refine (HRR.out w9 HB9.out).mono ?_
    rintro e w10 ⟨rfl, b10⟩
    have HB10 := Lib.hid (below_then HB9.out b10)
    clear b10 q0 q1 ql
    cases rt with
    | false =>
      clear hb
      go_wp2_with fail
      go_ret
      exact ⟨rfl, HFIN.out _ HB10.out⟩
    | true =>
      by_cases h1 : n < 0
      · have t1 : decide (n < 0) = true := decide_eq_true h1
        clear hb h1
        go_wp2_with fail
        go_ret
        exact ⟨rfl, HFIN.out _ HB10.out⟩
      · have t1 : decide (n < 0) = false := decide_eq_false h1
        have t2 : decide (4096 < n) = true := decide_eq_true (by
          rcases hb with h | h | h
          · cases h
          · exact absurd h h1
          · exact h)
        clear hb h1
        go_wp2_with fail
        go_ret
        exact ⟨rfl, HFIN.out _ HB10.out⟩
  have hrt : rt = true := by cases rt with | false => exact absurd (.inl rfl) hb | true => rfl
  subst hrt
  obtain ⟨m, rfl⟩ : ∃ m : Nat, n = m := ⟨n.toNat, by omega⟩
  have t1 : decide ((m : Int) < 0) = false := decide_eq_false (by omega)
  have t2 : decide ((4096 : Int) < (m : Int)) = false := decide_eq_false (by omega)
  have t2' : decide (4096 < m) = false := decide_eq_false (by omega)
  have HM : Hid (m ≤ 4096) := Lib.hid (by omega)
  have HRN : Hid (Calls Tryz.prog 51 #[.pointer (some ⟨wb, 0, none⟩), .agg #[.slice na nn nc, .slice la nl lc], .int .i64 m] w8 (RnP w6 w8 wb gb (some N) V E NS LS m)) := Lib.hid (by
    rw [HNN.out, HNL.out]
    exact mrun_any w6 w8 wb gb vb eb V E na la nc lc NS LS (some N) m (HG.out.below HB6.out) HW8.out (HQU.out w8 HB8.out).1 (HQU.out w8 HB8.out).2 (fun b off e hne => by have := HQB.out.1 b off e hne; have := HWBE.out; omega) (fun b off e hne => by have := HQB.out.2 b off e hne; have := HWBE.out; omega) HQO.out.1 HQO.out.2 HRT.out.symm HM.out (by have := HLN.out; omega) (by have := HLN.out; omega))
  clear hb
  go_wp2_with fail
  refine HRN.out.mono ?_
  rintro e w9 ⟨a, c, R, code, st', rfl, hT, hO, hF, hW9, hC⟩
  have HB9 : Hid (Below w4.heap.size w4 w9) := Lib.hid (HB6.out.trans (hW9.bel.mono HB6.out.size))
  have HO := Lib.hid hO
  have HF := Lib.hid hF
  obtain ⟨nr, hnr⟩ : ∃ k, k = R.length := ⟨_, rfl⟩
  rw [← hnr]
  have HNR := Lib.hid hnr
  have hT2 : (code = 32 ∧ nr = 0 ∧ m < (rowsP V E NS LS).length) ∨ (code = 0 ∧ R.map Ws.l = rowsP V E NS LS ∧ (rowsP V E NS LS).length ≤ m) := by
    rcases hT with ⟨_, _, _, h⟩ | ⟨r, r', _, _, ⟨h1, h2, h3⟩ | ⟨h1, h2, h3⟩⟩
    · have h1 := h N rfl
      rw [HND.out.1, HVE.out.1, HVE.out.2.2.1, bnd_enough HRT.out.symm] at h1
      omega
    · refine .inl ⟨h1, ?_, h3⟩
      have := congrArg List.length h2
      rw [List.length_map] at this
      rw [hnr]; exact this
    · rw [h2] at h3
      exact .inr ⟨h1, h2, h3⟩
  clear hT hO hF hW9 hC hnr q0 q1 ql
  obtain ⟨q0, q1, ql⟩ := (HRC.out w9 HB9.out).1
  have HT2 := Lib.hid hT2
  have HROW : Hid (∀ u, Below w4.heap.size w4 u → Calls Tryz.prog 52 #[.pointer (some ⟨rb, 0, none⟩), .agg #[.slice na nn nc, .slice la nl lc]] u (RwPost u (rowsP V E NS LS))) := Lib.hid (fun u hu => by
    rw [HNN.out, HNL.out]
    exact (HR.out.below hu).rows8 HG.out.ok HLN.out.1 HLN.out.2 na la nc lc NS LS (HQU.out u hu).1 (HQU.out u hu).2 HRT.out.symm HFEW.out)
  clear hT2
  go_wp2_with fail
  refine (HRR.out w9 HB9.out).mono ?_
  rintro e w10 ⟨rfl, b10⟩
  have HB10 := Lib.hid (below_then HB9.out b10)
  have HBA := Lib.hid b10
  clear b10 q0 q1 ql
  obtain ⟨q0, q1, ql⟩ := (HRC.out w10 HB10.out).1
  go_wp2_with fail
  refine (HROW.out w10 HB10.out).mono ?_
  rintro e w11 ⟨a2, c2, R2, rfl, hR2, hI2, b11⟩
  have HB11 := Lib.hid (below_then HB10.out b11)
  have HBC := Lib.hid (below_then HBA.out b11)
  obtain ⟨nr2, hnr2⟩ : ∃ k, k = R2.length := ⟨_, rfl⟩
  rw [← hnr2]
  have HR2 : Hid (R2.map Ws.l = rowsP V E NS LS ∧ nr2 = R2.length ∧ nr2 = (rowsP V E NS LS).length) := Lib.hid ⟨hR2, hnr2, by rw [hnr2, ← hR2, List.length_map]⟩
  have HI2 := Lib.hid hI2
  have hn2 : nr2 ≤ 1000000 := by
    rw [HR2.out.2.2]
    have h := rightPat_iff.1 HRT.out.symm
    exact rows_few HLN.out.1 (by omega) HFEW.out
  clear hR2 hnr2 hI2 b11 q0 q1 ql
  rcases HT2.out with ⟨rfl, rfl, hm⟩ | ⟨rfl, hR, hm⟩
  · have t3 : decide ((m : Int) < (nr2 : Int)) = true := decide_eq_true (by have := HR2.out.2.2; omega)
    have t3' : decide (m < nr2) = true := decide_eq_true (by have := HR2.out.2.2; omega)
    clear hm
    go_wp2_with fail
    go_ret
    exact ⟨rfl, HFIN.out _ HB11.out⟩
  · have t3 : decide ((m : Int) < (nr2 : Int)) = false := decide_eq_false (by have := HR2.out.2.2; omega)
    have t3' : decide (m < nr2) = false := decide_eq_false (by have := HR2.out.2.2; omega)
    have HSA : Hid (Calls Tryz.prog 54 #[.slice a nr c, .slice a2 nr2 c2] w11 fun e w' => e = .returned (.bool true) ∧ Below w11.heap.size w11 w') := Lib.hid (by
      have h := same18_any a a2 c c2 R R2 w11 (HO.out.below HBC.out).toV HI2.out.o.toV (fun x hx => ⟨((HF.out x hx).below HBC.out).toV, by
        have h1 : x.l ∈ R.map Ws.l := List.mem_map.2 ⟨x, hx, rfl⟩
        rw [hR, mem_rowsP (rightPat_iff.1 HRT.out.symm).2.2] at h1
        rw [h1.1]
        have := HSP.out
        omega⟩) (fun x hx => (HI2.out.e x hx).toV) (by rw [← List.length_map (f := Ws.l), hR, ← HR2.out.2.2]; exact hn2)
      rw [hR, HR2.out.1, ← HNR.out, ← HR2.out.2.1, decide_eq_true rfl] at h
      exact h)
    clear hm hR
    go_wp2_with fail
    refine HSA.out.mono ?_
    rintro e w12 ⟨rfl, b12⟩
    have HB12 := Lib.hid (below_then HB11.out b12)
    clear b12
    go_wp2_with fail
    go_ret
    exact ⟨rfl, HFIN.out _ HB12.out⟩
end Go.Proofs.YtonilojjahfboaaGreat
