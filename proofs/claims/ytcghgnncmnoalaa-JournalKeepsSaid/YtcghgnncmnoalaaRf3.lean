/- cobwebref14.Recover. Conditions: each contract's own premises. -/
import Derived.Test.YtcghgnncmnoalaaRf2
namespace Go.Proofs.Ytcghgnncmnoalaa
open Go.RowKit Go.Maps

theorem r8take_at (a1 : Option Addr) (c1 n1 : Nat) (m : List UInt8) (w : World) (h : BsV w a1 m) (hn : n1 = m.length) (hl : m.length ≤ 3000000) (hc : n1 ≤ c1) : Calls Try.prog 82 #[.slice a1 n1 c1] w (TkrPost' w a1 c1 m) := by
  subst hn; exact r8take_any a1 c1 m w h hl hc
theorem r14parse_at (k : UInt8) (kn : Nat) (hk : bv k = .int .u8 (kn : Int)) (a : Option Addr) (cap n : Nat) (l : List UInt8) (w : World) (hn : n = l.length) (h : BsV w a l) (hcap : n ≤ cap) (hl : l.length ≤ 3000000) :
    Calls Try.prog 23 #[.agg #[.int .u8 (kn : Int), .slice a n cap]] w (ParPost w (psB k l)) := by
  subst hn
  rw [← hk]
  by_cases hne : l = []
  · subst hne; exact r14parse_none k a cap w
  · obtain ⟨b, off, e, hat⟩ := h hne
    exact r14parse_any k a cap l w h hcap (.inr ⟨b, off, e, hat.lt⟩) hl
/-- what the reference's recovering leaves -/
def RecvPost2 (w : World) (l : List UInt8) (e : Ending) (w' : World) : Prop :=
  ∃ a c rs, e = .returned (.tuple #[.slice a rs.length c, .int .i64 (lgN l).last, .int .i64 ((lgN l).cut : Nat)]) ∧ RsV w' a rs ∧ rs.map Rv.rc = lgOut (lgN l) ∧ rs.length ≤ 1000000 ∧ Below w.heap.size w w'
set_option maxRecDepth 100000 in
set_option maxHeartbeats 8000000 in
theorem r14recover_any (a : Option Addr) (cap : Nat) (l : List UInt8) (w : World) (h : BsV w a l) (hcap : l.length ≤ cap) (hl : l.length ≤ 1000000) :
    Calls Try.prog 17 #[.slice a l.length cap] w (RecvPost2 w l) := by
  have HB := Lib.hid h
  obtain ⟨R, hR⟩ : ∃ R, R = lgN l := ⟨_, rfl⟩
  have HI0 : Hid (RecJ w w l (.slice none 0 0) none [] [] [] (-1) 0 0 R) := Lib.hid (by rw [hR]; exact RecJ.start w l)
  have HR := Lib.hid hR
  clear h hR
  unfold RecvPost2
  rw [← HR.out]
  go_enter Try.func17, Try.ntmps17
  go_wp2_with fail
  go_loopw [5, 6, 7, 8, 9] (fun vA vO vL vC vP wr => ∃ (aa : Option Addr) (ac : Nat) (oa : Option Addr) (oc : Nat) (all sure out : List Rv) (last : Int) (cut pos : Nat), vA = .slice aa all.length ac ∧ vO = .slice oa out.length oc ∧ vL = .int .i64 last ∧ vC = .int .i64 cut ∧ vP = .int .i64 pos ∧ pos ≤ l.length ∧ Hid (RecJ w wr l vA oa all sure out last cut pos R ∧ (oa = none → oc = 0) ∧ out.length ≤ oc)) (fun _ _ _ _ p _ => l.length - (intOf p).toNat)
  case atStart => exact ⟨none, 0, none, 0, [], [], [], -1, 0, 0, rfl, rfl, rfl, rfl, rfl, Nat.zero_le _, Lib.hid ⟨HI0.out, fun _ => rfl, Nat.le_refl _⟩⟩
  case round =>
    obtain ⟨aa, ac, oa, oc, all, sure, out, last, cut, pos, rfl, rfl, rfl, rfl, rfl, hpl, HIQ⟩ := hrel
    have HI := Lib.hid HIQ.out.1
    have HOC := Lib.hid HIQ.out.2
    clear HI0 HIQ
    obtain ⟨m, hm⟩ : ∃ m, m = l.drop pos := ⟨_, rfl⟩
    obtain ⟨a1, ha1⟩ : ∃ a1, sfx a cap pos = a1 := ⟨_, rfl⟩
    obtain ⟨n1, hn1⟩ : ∃ n1, l.length - pos = n1 := ⟨_, rfl⟩
    obtain ⟨c1, hc1⟩ : ∃ c1, cap - pos = c1 := ⟨_, rfl⟩
    have HA1 := Lib.hid ha1
    have HN1 := Lib.hid hn1
    have HC1 := Lib.hid hc1
    have HM := Lib.hid hm
    have HML : Hid (n1 = m.length ∧ m.length ≤ 1000000 ∧ n1 ≤ c1) := Lib.hid (by rw [hm]; simp; omega)
    have HBM : Hid (BsV wr a1 m) := Lib.hid (by rw [← ha1, hm]; exact sfx_bsV (HB.out.below HI.out.bel) hpl hcap)
    clear ha1 hn1 hc1 hm
    go_wp2_with (refine wpList_sliceB (o := ⟨some 20, _, _, _, _, _⟩) rfl (.tmp 18) (.tmp 19) rfl a l.length cap pos rfl rfl hpl hcap HA1.out HN1.out HC1.out ?_)
    (with_reducible refine (r8take_at a1 c1 n1 m _ HBM.out HML.out.1 (by have := HML.out.2.1; omega) HML.out.2.2).mono ?_)
    rintro e w1 ⟨tb, toff, hta, b1, hT⟩
    have HI1 := Lib.hid (HI.out.next b1)
    have HBM1 := Lib.hid (HBM.out.below b1)
    have HTA := Lib.hid hta
    obtain ⟨tn, htn⟩ : ∃ tn, tkN m + 10 = tn := ⟨_, rfl⟩
    rw [htn] at hT
    have HTN := Lib.hid htn
    have HVL : Hid (∀ g, (Value.slice aa all.length ac).ownBlock = some g → g < w1.heap.size) := Lib.hid (fun g e => (HI1.out.own.lt g e).2)
    clear htn HI HBM hta
    rcases hT with ⟨t0, rfl⟩ | ⟨t0, rfl⟩
    · obtain ⟨m2, hm2⟩ : ∃ m2, (tkB m).length = m2 := ⟨_, rfl⟩
      rw [hm2]
      have HM2 := Lib.hid hm2
      obtain ⟨kn, hkn⟩ : ∃ n, n = (m.getD 1 0).toNat := ⟨_, rfl⟩
      have hbv : bv (m.getD 1 0) = .int .u8 (kn : Int) := by rw [hkn]; rfl
      rw [hbv]
      have HBV := Lib.hid hbv
      have HT0 := Lib.hid t0
      have HTL : Hid (tkN m + 10 ≤ m.length) := Lib.hid (tk_len t0)
      obtain ⟨toff6, ht6⟩ : ∃ t, t = toff + 6 := ⟨_, rfl⟩
      obtain ⟨c2, hc2⟩ : ∃ c, c = c1 - 6 := ⟨_, rfl⟩
      rw [← ht6, ← hc2]
      obtain ⟨V, hV⟩ : ∃ V, V = w1.alloc (.cells #[.int .u8 (kn : Int), .slice (some ⟨tb, toff6, none⟩) m2 c2] 43) := ⟨_, rfl⟩
      have hBV : Below w1.heap.size w1 V := by rw [hV]; exact below_box w1 _
      have eV : V.heap[w1.heap.size]? = some (.cells #[.int .u8 (kn : Int), .slice (some ⟨tb, toff6, none⟩) m2 c2] 43) := by rw [hV]; exact heap_new w1 _
      have k0 : V.cell? ⟨w1.heap.size, 0, none⟩ = some (.int .u8 (kn : Int)) := cell_of_blk eV 0
      have k1 : V.cell? ⟨w1.heap.size, 1, none⟩ = some (.slice (some ⟨tb, toff6, none⟩) m2 c2) := cell_of_blk eV 1
      obtain ⟨bx, hbx⟩ : ∃ bx, bx = w1.heap.size := ⟨_, rfl⟩
      rw [← hbx] at k0 k1
      have HV := Lib.hid hV
      have HBX := Lib.hid hbx
      have HI2 := Lib.hid (HI1.out.next hBV)
      have HPC : Hid (m2 ≤ c2 ∧ BsV V (some ⟨tb, toff6, none⟩) (tkB m)) := Lib.hid ⟨by
        have h1 := HTL.out
        have h2 := HML.out
        have h3 : m2 ≤ tkN m := by rw [← hm2]; unfold tkB; simp; omega
        omega, fun hne => by
        obtain ⟨b, off, e, hat⟩ := HBM1.out (fun e => by have := HTL.out; rw [e] at this; simp at this)
        have e2 := HTA.out (fun e => by have := HTL.out; rw [e] at this; simp at this)
        rw [e] at e2; injection e2 with e2; injection e2 with e3 e4
        subst e3 e4
        refine ⟨b, toff6, rfl, ?_⟩
        rw [ht6]
        exact ((hat.below hBV).drop 6).take _⟩
      have HPL : Hid ((tkB m).length ≤ 3000000) := Lib.hid (by have := tkB_le m; have := HML.out.2.1; omega)
      clear hm2 hkn hbv hV hBV eV hbx t0 HI1 ht6 hc2 HBM1
      go_upto_region 7 with fail
      rw [← HV.out, ← HBX.out]
      go_wp2_with fail
      (with_reducible refine (r14parse_at (m.getD 1 0) kn HBV.out (some ⟨tb, toff6, none⟩) c2 m2 (tkB m) _ HM2.out.symm HPC.out.2 HPC.out.1 HPL.out).mono ?_)
      rintro e w3 ⟨b3, hP⟩
      have HI3 := Lib.hid (HI2.out.next b3)
      obtain ⟨p, hp⟩ : ∃ p, psB (m.getD 1 0) (tkB m) = p := ⟨_, rfl⟩
      rw [hp] at hP
      have HP := Lib.hid hp
      clear hp b3 HI2 k0 k1
      cases p with
      | err c =>
        have he : e = .returned (.tuple #[.agg #[.int .u64 0, .slice none 0 0], .int .i64 0, .int .i64 c]) := hP
        subst he
        clear hP
        have hc0 : (c != 0) = true := by rcases psB_err HP.out with rfl | rfl <;> decide
        have HST0 : Hid (R = ⟨all.map Rv.rc, sure.map Rv.rc, last, cut, pos⟩) := Lib.hid (HI3.out.stop (by rw [← HM.out]; exact .inr (.inl ⟨c, HP.out⟩)))
        obtain ⟨u, hu⟩ : ∃ u, u = w3.alloc (.cells #[.int .u64 0, .slice none 0 0] 35) := ⟨_, rfl⟩
        have HIF : Hid (RecJ w u l (.slice aa all.length ac) oa all sure out last cut pos R) := Lib.hid (by rw [hu]; exact HI3.out.next (below_box w3 _))
        have HU := Lib.hid hu
        clear hu HI3
        go_upto_region 10 with fail
        rw [← HU.out]
        go_wp2_with fail
        go_ret3
        refine ⟨oa, oc, out, ?_, HIF.out.outV, ?_, ?_, HIF.out.bel⟩
        · rw [HST0.out]; rfl
        · rw [HST0.out, HIF.out.eq, recvRv_eq]
          exact lgOut_rv sure ⟨all.map Rv.rc, sure.map Rv.rc, last, cut, pos⟩ rfl
        · have h1 := recvRv_len sure last
          have h2 := HIF.out.slen
          rw [HIF.out.eq]; omega
      | rc r =>
        obtain ⟨v4, he, o4, hk4, hs4, hl4⟩ := hP
        subst he
        obtain ⟨a4, c4, hv4⟩ := o4.shape
        subst hv4
        obtain ⟨st, hst⟩ : ∃ st, st = r.stamp := ⟨_, rfl⟩
        obtain ⟨n4, hn4⟩ : ∃ n4, n4 = r.ws.length := ⟨_, rfl⟩
        rw [← hst, ← hn4]
        have HST := Lib.hid hst
        have HN4 := Lib.hid hn4
        obtain ⟨u, hu⟩ : ∃ u, u = w3.alloc (.cells #[.int .u64 st, .slice a4 n4 c4] 35) := ⟨_, rfl⟩
        have hBU : Below w3.heap.size w3 u := by rw [hu]; exact below_box w3 _
        have eU : u.heap[w3.heap.size]? = some (.cells #[.int .u64 st, .slice a4 n4 c4] 35) := by rw [hu]; exact heap_new w3 _
        have k0 : u.cell? ⟨w3.heap.size, 0, none⟩ = some (.int .u64 st) := cell_of_blk eU 0
        have k1 : u.cell? ⟨w3.heap.size, 1, none⟩ = some (.slice a4 n4 c4) := cell_of_blk eU 1
        obtain ⟨bz, hbz⟩ : ∃ bz, bz = w3.heap.size := ⟨_, rfl⟩
        rw [← hbz] at k0 k1
        have HU := Lib.hid hu
        have HBZ := Lib.hid hbz
        have hXO : (⟨st, a4, c4, r.ws⟩ : Rv).Ok u := ⟨by rw [hst]; exact hs4, (ws_of_row o4.toV hk4).below hBU, by show r.ws.length ≤ _; omega⟩
        have HXO := Lib.hid hXO
        have HX3 : Hid (∀ b off, r.ws ≠ [] → a4 = some ⟨b, off, none⟩ → w1.heap.size < b) := Lib.hid (fun b off hn e => by
          obtain ⟨g, cp, hv, hg, _⟩ := o4.at' hn
          injection hv with e1 e2 e3
          rw [e1] at e; injection e with e; injection e with e4 e5
          have hz : V.heap.size = w1.heap.size + 1 := by rw [HV.out]; simp
          omega)
        have HI4 := Lib.hid (HI3.out.next hBU)
        clear hu hbz hst hn4 eU hBU hXO o4 hk4 hs4 hl4 HI3
        go_upto_region 10 with fail
        rw [← HU.out, ← HBZ.out]
        obtain ⟨V2, hV2⟩ : ∃ V2, V2 = u.alloc (.cells #[.int .u64 st, .slice a4 n4 c4] 35) := ⟨_, rfl⟩
        have eV2 : V2.heap[u.heap.size]? = some (.cells #[.int .u64 st, .slice a4 n4 c4] 35) := by rw [hV2]; exact heap_new u _
        have HB2 : Hid (Below u.heap.size u V2) := Lib.hid (by rw [hV2]; exact below_box u _)
        have HXV : Hid (kR.V V2 (some ⟨u.heap.size, 0, none⟩) [⟨st, a4, c4, r.ws⟩]) := Lib.hid (fun _ => ⟨_, 0, rfl, RowK.new_at (k := kR) eV2 (by rw [HN4.out]; rfl)⟩)
        obtain ⟨by2, hby2⟩ : ∃ by2, by2 = u.heap.size := ⟨_, rfl⟩
        have HV2 := Lib.hid hV2
        have HBY := Lib.hid hby2
        have HI5 := Lib.hid (HI4.out.next HB2.out)
        have HLEN : Hid (all.length ≤ 1000000) := Lib.hid (by have := HI5.out.len; omega)
        rw [← hby2] at HXV
        clear hV2 eV2 hby2 HI4
        have hposz : pos + tn ≤ l.length := by have := HTL.out; have := HML.out.1; have := HN1.out; have := HTN.out; omega
        go_wp2_with ((at_builtin; rw [← HV2.out, ← HBY.out]; refine RowK.wpList_app2 (k := kR) (B := w.heap.size) (v := .slice aa all.length ac) (l := all) rfl (.tmp 55) (.tmp 57) rfl rfl HI5.out.own ⟨by2, 0, none⟩ 1 [⟨st, a4, c4, r.ws⟩] 1 rfl rfl HXV.out (by simp) (by have := HLEN.out; simp; omega) HI5.out.bel.size ?_; rintro v9 w9 h9; have H9 := Lib.hid h9; clear h9))
        obtain ⟨a9, c9, hv9⟩ := H9.out.1.shape
        have HI6 : Hid (RecJ w w9 l v9 oa (all ++ [⟨st, a4, c4, r.ws⟩]) sure out last cut (pos + tn) R) := Lib.hid (by
          rw [← HTN.out, HM.out]
          refine HI5.out.more _ (HXO.out.below HB2.out) (fun hn b off e => fun e2 => ?_) H9.out (by rw [← HM.out]; exact HT0.out) (by rw [← HM.out, HP.out]; show Psd.rc r = Psd.rc ⟨st, r.ws⟩; rw [HST.out]) (by rw [← HM.out, HTN.out]; exact hposz)
          have := HX3.out b off hn e
          have := HVL.out b e2
          omega)
        subst hv9
        exact ⟨⟨a9, c9, oa, oc, all ++ [⟨st, a4, c4, r.ws⟩], sure, out, last, cut, pos + tn, rfl, rfl, rfl, rfl, by go_num, hposz, Lib.hid ⟨HI6.out, HOC.out⟩⟩, by have := HTN.out; simp [intOf]; omega⟩
      | mark n =>
        have he : e = .returned (.tuple #[.agg #[.int .u64 0, .slice none 0 0], .int .i64 (n : Nat), .int .i64 0]) := hP
        subst he
        clear hP
        obtain ⟨u, hu⟩ : ∃ u, u = w3.alloc (.cells #[.int .u64 0, .slice none 0 0] 35) := ⟨_, rfl⟩
        have HIF : Hid (RecJ w u l (.slice aa all.length ac) oa all sure out last cut pos R) := Lib.hid (by rw [hu]; exact HI3.out.next (below_box w3 _))
        have HU := Lib.hid hu
        have hn0 : (0 : Int) ≤ (n : Int) := by omega
        have hposz : pos + tn ≤ l.length := by have := HTL.out; have := HML.out.1; have := HN1.out; have := HTN.out; omega
        by_cases hnl : (n : Int) ≤ last
        · have HST0 : Hid (R = ⟨all.map Rv.rc, sure.map Rv.rc, last, cut, pos⟩) := Lib.hid (HI3.out.stop (by rw [← HM.out]; exact .inr (.inr ⟨n, HP.out, hnl⟩)))
          have t1 : decide ((n : Int) ≤ last) = true := decide_eq_true hnl
          clear hu HI3
          go_upto_region 10 with fail
          rw [← HU.out]
          go_wp2_with fail
          go_ret3
          refine ⟨oa, oc, out, ?_, HIF.out.outV, ?_, ?_, HIF.out.bel⟩
          · rw [HST0.out]; rfl
          · rw [HST0.out, HIF.out.eq, recvRv_eq]
            exact lgOut_rv sure ⟨all.map Rv.rc, sure.map Rv.rc, last, cut, pos⟩ rfl
          · have h1 := recvRv_len sure last
            have h2 := HIF.out.slen
            rw [HIF.out.eq]; omega
        · have t1 : decide ((n : Int) ≤ last) = false := decide_eq_false hnl
          have HNL : Hid (¬ (n : Int) ≤ last) := Lib.hid hnl
          have hnm : n ≤ 2147483647 := psB_mark HP.out
          have HLEN : Hid (all.length ≤ 1000000) := Lib.hid (by have := HIF.out.len; omega)
          have hlen : all.length ≤ 1000000 := HLEN.out
          clear hu HI3 hnl
          go_upto_region 10 with fail
          rw [← HU.out]
          obtain ⟨wo, hwo⟩ : ∃ wo : World, wo = wr := ⟨_, rfl⟩
          subst hwo
          go_wp2_with fail
          go_loopw [6, 16] (fun vO vI wr => ∃ (i : Nat) (oa2 : Option Addr) (oc2 : Nat) (o2 : List Rv), i ≤ all.length ∧ vI = .int .i64 i ∧ vO = .slice oa2 o2.length oc2 ∧ Hid (Below u.heap.size u wr ∧ o2 = recvRv (all.take i) (n : Int) ∧ (o2 ≠ [] → ∃ b off, oa2 = some ⟨b, off, none⟩ ∧ kR.At wr b off o2 ∧ (Value.slice aa all.length ac).ownBlock ≠ some b) ∧ (oa2 = none → oc2 = 0) ∧ o2.length ≤ oc2)) (fun _ i _ => all.length - (intOf i).toNat)
          case atStart => exact ⟨0, none, 0, [], by omega, rfl, rfl, Lib.hid ⟨Below.refl _ _, rfl, fun hn => absurd rfl hn, fun _ => rfl, Nat.le_refl _⟩⟩
          case round =>
            obtain ⟨i, oa2, oc2, o2, hi, rfl, rfl, HRI⟩ := hrel
            by_cases hlt : i < all.length
            · obtain ⟨y, hy⟩ : ∃ y, y = all[i]! := ⟨_, rfl⟩
              have hyk : all[i]? = some y := by rw [hy, getElem!_pos all i hlt]; exact List.getElem?_eq_getElem hlt
              have HJ := Lib.hid (HIF.out.next HRI.out.1)
              obtain ⟨gb, goff, hga, hat⟩ := HJ.out.allV (fun e => by rw [e] at hlt; simp at hlt)
              obtain ⟨hyo, c0, c1⟩ := hat.cells i y hyk
              have HYO := Lib.hid hyo
              have HTS : Hid (recvRv (all.take (i + 1)) (n : Int) = if delB (n : Int) y = true then recvRv (all.take i) (n : Int) else Srt.putD Rv.stamp (recvRv (all.take i) (n : Int)) y) := Lib.hid (by
                rw [List.take_add_one, hyk]; exact recvRv_snoc _ _ _)
              obtain ⟨dv, hdv⟩ : ∃ dv : Nat, dv = y.stamp / 2147483648 := ⟨_, rfl⟩
              have e1 : (y.stamp : Int) / 2147483648 = (dv : Int) := by omega
              have z1 : (i : Int) < (all.length : Int) := by omega
              have HDV : Hid (delB (n : Int) y = decide (n < dv)) := Lib.hid (by unfold delB; rw [← hdv]; simp)
              have hys := hyo.stamp
              have HDL := Lib.hid hdv
              have HOV : Hid (RsV wr oa2 o2 ∧ o2.length ≤ 1000000) := Lib.hid ⟨RsV.of_at (fun hn => by
                obtain ⟨b, off, q1, q2, _⟩ := HRI.out.2.2.1 hn
                exact ⟨b, off, q1, q2⟩) (fun x hx => HJ.out.ok x (List.take_subset _ _ (recvRv_sub _ _ x (by rw [← HRI.out.2.1]; exact hx)))), by
                rw [HRI.out.2.1]
                have h1 := recvRv_len (all.take i) (n : Int)
                rw [List.length_take] at h1
                omega⟩
              subst hga
              clear hy hyk hat hyo hdv
              by_cases hdn : dv ≤ n
              · have t2 : decide ((dv : Int) ≤ (n : Int)) = true := decide_eq_true (by omega)
                have HDB : Hid (delB (n : Int) y = false) := Lib.hid (by rw [HDV.out]; exact decide_eq_false (by omega))
                go_wp2_with fail
                (with_reducible refine (put_any oa2 oc2 o2 y false _ HOV.out.1 HYO.out HOV.out.2 HRI.out.2.2.2.2 HRI.out.2.2.2.1).mono ?_)
                rintro e w7 ⟨a7, c7, rfl, q1, q2, q3, q4, q5⟩
                have HNW : Hid (Below u.heap.size u w7 ∧ putL false o2 y = recvRv (all.take (i + 1)) (n : Int) ∧ (putL false o2 y ≠ [] → ∃ b off, a7 = some ⟨b, off, none⟩ ∧ kR.At w7 b off (putL false o2 y) ∧ (Value.slice (some ⟨gb, goff, none⟩) all.length ac).ownBlock ≠ some b) ∧ (a7 = none → c7 = 0) ∧ (putL false o2 y).length ≤ c7) := Lib.hid ⟨below_then HRI.out.1 q4, by
                  rw [HTS.out, HDB.out, if_neg (by decide), ← HRI.out.2.1]; rfl, fun hn => by
                  obtain ⟨b, off, e1, e2⟩ := q1.row hn
                  refine ⟨b, off, e1, e2, ?_⟩
                  rcases q5 with ⟨e3, e4⟩ | h5
                  · obtain ⟨b', off', e5, _, e6⟩ := HRI.out.2.2.1 (fun e => hn (by rw [e4]; exact e))
                    rw [← e3, e1] at e5
                    injection e5 with e5; injection e5 with e5 e7
                    rw [e5]; exact e6
                  · intro e3
                    have h6 := (HIF.out.own.lt b e3).2
                    have h7 := h5 b off e1
                    have h8 := HRI.out.1.size
                    omega, q2, q3⟩
                obtain ⟨o7, ho7⟩ : ∃ o7, o7 = putL false o2 y := ⟨_, rfl⟩
                rw [← ho7] at HNW
                rw [← ho7]
                clear q1 q2 q3 q4 q5 ho7 t2
                go_wp2_with fail
                exact ⟨⟨i + 1, a7, c7, o7, by omega, by go_num, rfl, HNW⟩, by simp [intOf]; omega⟩
              · have t2 : decide ((dv : Int) ≤ (n : Int)) = false := decide_eq_false (by omega)
                have HDB : Hid (delB (n : Int) y = true) := Lib.hid (by rw [HDV.out]; exact decide_eq_true (by omega))
                go_wp2_with fail
                exact ⟨⟨i + 1, oa2, oc2, o2, by omega, by go_num, rfl, Lib.hid ⟨HRI.out.1, by rw [HTS.out, HDB.out, if_pos rfl]; exact HRI.out.2.1, HRI.out.2.2⟩⟩, by simp [intOf]; omega⟩
            · obtain rfl : i = all.length := by omega
              have HEO : Hid (o2 = recvRv all (n : Int)) := Lib.hid (by
                have := HRI.out.2.1
                rw [List.take_length] at this
                exact this)
              have HI6 : Hid (RecJ w wr l (.slice aa all.length ac) oa2 all all o2 (n : Int) (pos + tn) (pos + tn) R) := Lib.hid (by
                have h1 := HRI.out.2.2.1
                rw [HEO.out] at h1 ⊢
                rw [← HTN.out, HM.out]
                exact HIF.out.mark n HRI.out.1 h1 (by rw [← HM.out]; exact HT0.out) (by rw [← HM.out]; exact HP.out) (by have := HNL.out; omega) (by rw [← HM.out, HTN.out]; exact hposz))
              go_wp2_with fail
              exact ⟨⟨aa, ac, oa2, oc2, all, all, o2, (n : Int), pos + tn, pos + tn, rfl, rfl, rfl, by go_num, by go_num, hposz, Lib.hid ⟨HI6.out, HRI.out.2.2.2⟩⟩, by have := HTN.out; simp [intOf]; omega⟩
    · have HST0 : Hid (R = ⟨all.map Rv.rc, sure.map Rv.rc, last, cut, pos⟩) := Lib.hid (HI1.out.stop (by rw [← HM.out]; exact .inl t0))
      have hc0 : (tkE m != 0) = true := by simpa using t0
      obtain ⟨u, hu⟩ : ∃ u, u = w1.alloc (.cells #[.int .u8 0, .slice none 0 0] 43) := ⟨_, rfl⟩
      have HIF : Hid (RecJ w u l (.slice aa all.length ac) oa all sure out last cut pos R) := Lib.hid (by rw [hu]; exact HI1.out.next (below_box w1 _))
      have HU := Lib.hid hu
      clear hu HI1
      go_upto_region 7 with fail
      rw [← HU.out]
      go_wp2_with fail
      go_ret3
      refine ⟨oa, oc, out, ?_, HIF.out.outV, ?_, ?_, HIF.out.bel⟩
      · rw [HST0.out]; rfl
      · rw [HST0.out, HIF.out.eq, recvRv_eq]
        exact lgOut_rv sure ⟨all.map Rv.rc, sure.map Rv.rc, last, cut, pos⟩ rfl
      · have h1 := recvRv_len sure last
        have h2 := HIF.out.slen
        rw [HIF.out.eq]; omega
end Go.Proofs.Ytcghgnncmnoalaa
