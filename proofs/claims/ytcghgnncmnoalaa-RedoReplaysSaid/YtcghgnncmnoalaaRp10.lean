/- RedoReplays: the walk. Conditions: each contract's own premises. -/
import Derived.Test.YtcghgnncmnoalaaRpB
namespace Go.Proofs.Ytcghgnncmnoalaa
open Go.RowKit Go.Maps

def ApQ (q : Bool) (P : Prop) : Prop := q = true → P
set_option maxRecDepth 100000 in
set_option maxHeartbeats 16000000 in
theorem replays_any (ra : Option Addr) (rc : Nat) (rs : List Rv) (turn : Int) (w : World) (h : RmV w ra rs) (ht : I64 turn) :
    Calls Try.prog 14 #[.slice ra rs.length rc, .int .i64 turn] w (BoolPost w true) := by
  have HR := Lib.hid h
  have HT := Lib.hid ht
  obtain ⟨n, hn⟩ : ∃ n, n = rs.length := ⟨_, rfl⟩
  rw [← hn]
  have HN := Lib.hid hn
  clear h ht hn
  go_enter Try.func14, Try.ntmps14
  go_wp2_with fail
  refine (awake14_any _).mono ?_
  rintro e w1 ⟨rfl, b1⟩
  have HB1 := Lib.hid b1
  clear b1
  by_cases hbig : 12 < n
  · have t1 : decide ((12 : Int) < (n : Int)) = true := decide_eq_true (by omega)
    go_wp2_with fail
    refine (awake14_any _).mono ?_
    rintro e w2 ⟨rfl, b2⟩
    have HB2 := Lib.hid b2
    clear b2
    go_wp2_with fail
    go_ret
    exact ⟨rfl, below_then HB1.out HB2.out⟩
  have t1 : decide ((12 : Int) < (n : Int)) = false := decide_eq_false (by omega)
  have HL0 : Hid (SmallTo rs 0 ∧ ApQ true (ApartTo rs 0) ∧ Below w1.heap.size w1 w1) := Lib.hid ⟨fun j x hj => absurd hj (Nat.not_lt_zero _), fun _ p q x y _ hp => absurd hp (Nat.not_lt_zero _), Below.refl _ _⟩
  go_wp2_with fail
  clear t1
  go_loopw [5, 6] (fun s5 vi wr => ∃ i : Nat, i ≤ n ∧ vi = .int .i64 i ∧ ∃ q, s5 = .bool q ∧ Hid (SmallTo rs i ∧ ApQ q (ApartTo rs i) ∧ Below w1.heap.size w1 wr)) (fun _ vi _ => n - (intOf vi).toNat)
  case atStart => exact ⟨0, Nat.zero_le _, rfl, _, rfl, HL0⟩
  case round =>
    obtain ⟨i, hi, rfl, q, rfl, HL⟩ := hrel
    by_cases hlt : i < n
    · have hltz : (i : Int) < (n : Int) := by omega
      obtain ⟨x, hx⟩ : ∃ x, rs[i]? = some x := ⟨_, List.getElem?_eq_getElem (by have := HN.out; omega)⟩
      obtain ⟨b, off, hae, hlb, hat⟩ := (HR.out.below HB1.out) (fun e => by rw [e] at hx; simp at hx)
      subst hae
      have HAT : Hid (∀ u, Below w1.heap.size w1 u → ∀ j y, rs[j]? = some y → WsV u y.a y.ws ∧ u.cell? ⟨b, off + j * 2, none⟩ = some (.int .u64 y.stamp) ∧ u.cell? ⟨b, off + j * 2 + 1, none⟩ = some (.slice y.a y.ws.length y.cap)) := Lib.hid (fun u hu j y hy => by
        obtain ⟨⟨_, g2, _⟩, g4, g5⟩ := hat j y hy
        exact ⟨g2.below hu, (hu.cell (p := ⟨b, off + j * 2, none⟩) hlb).trans g4, (hu.cell (p := ⟨b, off + j * 2 + 1, none⟩) hlb).trans g5⟩)
      have HX := Lib.hid hx
      have HWL := Lib.hid (hat i x hx).1.2.2
      obtain ⟨hws, c0, c1⟩ := HAT.out _ HL.out.2.2 i x hx
      have HWS := Lib.hid hws
      obtain ⟨sq, hsq⟩ : ∃ s, smallW 20 300 x.ws = s := ⟨_, rfl⟩
      have HSQ := Lib.hid hsq
      have HST : Hid (∀ y, rs[i]? = some y → y.stamp = x.stamp) := Lib.hid (fun y hy => by rw [hx] at hy; injection hy with hy; rw [hy])
      obtain ⟨st, xa, xc, xs⟩ := x
      simp only [] at c0 c1
      clear hx hat hws hsq
      go_wp2_with fail
      refine (small14_any st xa xc xs wr HWS.out HWL.out).mono ?_
      rintro e w2 ⟨rfl, b2⟩
      have HB2 := Lib.hid (below_then HL.out.2.2 b2)
      rw [show smallW 20 300 xs = sq from HSQ.out]
      clear b2 c0 c1
      cases sq
      · go_wp2_with fail
        go_ret
        exact ⟨rfl, below_then HB1.out HB2.out⟩
      · have HS2 : Hid (SmallTo rs (i + 1)) := Lib.hid (fun j y hj hy => by
          rcases Nat.lt_succ_iff_lt_or_eq.1 hj with hj | rfl
          · exact HL.out.1 j y hj hy
          · rw [HX.out] at hy
            injection hy with hy
            rw [← hy]
            exact HSQ.out)
        have HA0 : Hid (ApQ q (ApartTo rs i ∧ ApartAt rs i 0) ∧ Below w1.heap.size w1 w2) := Lib.hid ⟨fun hq => ⟨HL.out.2.1 hq, fun p x y hp => absurd hp (Nat.not_lt_zero _)⟩, HB2.out⟩
        clear HL
        go_wp2_with fail
        go_loopw [5, 7] (fun s5 vk wq => ∃ k : Nat, k ≤ i ∧ vk = .int .i64 k ∧ ∃ q, s5 = .bool q ∧ Hid (ApQ q (ApartTo rs i ∧ ApartAt rs i k) ∧ Below w1.heap.size w1 wq)) (fun _ vk _ => i - (intOf vk).toNat)
        case atStart => exact ⟨0, Nat.zero_le _, rfl, _, rfl, HA0⟩
        case round =>
          obtain ⟨k, hk, rfl, q2, rfl, HA⟩ := hrel
          by_cases hki : k < i
          · have hkz : (k : Int) < (i : Int) := by omega
            have hknz : (k : Int) < (n : Int) := by omega
            obtain ⟨y, hy⟩ : ∃ y, rs[k]? = some y := ⟨_, List.getElem?_eq_getElem (by have := HN.out; omega)⟩
            obtain ⟨_, d0, _⟩ := HAT.out _ HA.out.2 k y hy
            obtain ⟨_, c0, _⟩ := HAT.out _ HA.out.2 i _ HX.out
            have HY := Lib.hid hy
            simp only [] at c0
            obtain ⟨r, hr⟩ : ∃ r, (y.stamp != st) = r := ⟨_, rfl⟩
            have t5 : ((y.stamp : Int) != (st : Int)) = r := by
              rw [← hr]
              cases hq : (y.stamp == st)
              · have : y.stamp ≠ st := fun e => by rw [e] at hq; simp at hq
                simp [bne, hq]; omega
              · have := eq_of_beq hq
                simp [bne, this]
            have HRR := Lib.hid hr
            clear hy hr
            cases q2
            · go_wp2_with fail
              go_quiet (fail)
              go_wp2_with fail
              exact ⟨⟨k + 1, by omega, by go_num, _, rfl, Lib.hid ⟨(fun h => by cases h), below_drewN HA.out.2 _⟩⟩, by simp [intOf]; omega⟩
            · go_wp2_with fail
              go_quiet (fail)
              go_wp2_with fail
              refine ⟨⟨k + 1, by omega, by go_num, _, rfl, Lib.hid ⟨fun hrt => ⟨(HA.out.1 rfl).1, fun p u v hp hu hv => ?_⟩, below_drewN HA.out.2 _⟩⟩, by simp [intOf]; omega⟩
              rcases Nat.lt_succ_iff_lt_or_eq.1 hp with hp | rfl
              · exact (HA.out.1 rfl).2 p u v hp hu hv
              · rw [HY.out] at hv
                injection hv with hv
                rw [← hv, HST.out u hu]
                have h9 := HRR.out
                rw [hrt] at h9
                exact fun e => by rw [e] at h9; simp at h9
          · obtain rfl : k = i := by omega
            have HNX : Hid (SmallTo rs (k + 1) ∧ ApQ q2 (ApartTo rs (k + 1)) ∧ Below w1.heap.size w1 wr) := Lib.hid ⟨HS2.out, fun hq => apart_next (HA.out.1 hq).1 (HA.out.1 hq).2, HA.out.2⟩
            go_wp2_with fail
            exact ⟨⟨k + 1, by omega, by go_num, _, rfl, HNX⟩, by simp [intOf]; omega⟩
    · obtain rfl : i = n := by omega
      have HSM : Hid (SmallTo rs rs.length) := Lib.hid (by have := HL.out.1; rw [HN.out] at this; exact this)
      have HAP : Hid (ApQ q (ApartTo rs rs.length)) := Lib.hid (by have := HL.out.2.1; rw [HN.out] at this; exact this)
      have HBW := Lib.hid HL.out.2.2
      have HRV : Hid (RsV wr ra rs) := Lib.hid (((HR.out.below HB1.out).below HBW.out).rsV HSM.out)
      have HALL := Lib.hid (all_small HSM.out (by rw [← HN.out]; omega))
      have hn12 : i ≤ 12 := by omega
      obtain ⟨WA, hWA⟩ : ∃ W, W = wsAll (Srt.sortK Rv.stamp rs) := ⟨_, rfl⟩
      have HREP : Hid (Rep (WA.foldl wput []) (gAll WA)) := Lib.hid (Rep.steps _ Rep.start)
      have HC1 := Lib.hid (replay_any ra rc rs wr HRV.out (by rw [← HN.out]; omega) HALL.out.1)
      rw [← HN.out, ← hWA] at HC1
      have HWA := Lib.hid hWA
      clear hWA HL
      go_wp2_with fail
      refine HC1.out.mono ?_
      rintro e w3 ⟨v3, ws, rfl, hrep, hok, o3, b3⟩
      have hws := hrep.uniq HREP.out
      subst hws
      obtain ⟨ua, uc, hus⟩ := o3.shape
      obtain ⟨un, hun⟩ : ∃ un, un = (WA.foldl wput []).length := ⟨_, rfl⟩
      rw [← hun] at hus
      subst hus
      have HUN := Lib.hid hun
      have HO3 := Lib.hid o3
      have HB3 := Lib.hid (below_then HBW.out b3)
      have HOKW : Hid (∀ y ∈ WA.foldl wput [], y.Ok) := Lib.hid (fun y hy => ⟨hok y hy, by
        rcases wputs_mem _ _ y hy with h1 | h1
        · rw [HWA.out] at h1; exact (HALL.out.2 y h1).2
        · simp at h1⟩)
      have HLEN : Hid ((WA.foldl wput []).length ≤ 1000000) := Lib.hid (by have h1 := wputs_len WA []; have h2 := HALL.out.1; rw [← HWA.out] at h2; simp only [List.length_nil] at h1; omega)
      have HC2 := Lib.hid (r14Replay_any ra rc rs w3 (HRV.out.below b3) (by rw [← HN.out]; omega) HALL.out.1 (fun y hy => (HALL.out.2 y hy).1))
      rw [← HN.out, ← HWA.out] at HC2
      clear hrep hok o3 b3 hun HC1
      go_wp2_with fail
      refine HC2.out.mono ?_
      rintro e w4 ⟨v4, rfl, o4, b4⟩
      obtain ⟨xa, xc, hxs⟩ := o4.shape
      rw [← HUN.out] at hxs
      subst hxs
      have HB4 := Lib.hid (below_then HB3.out b4)
      have HO4 := Lib.hid (HO3.out.below b4)
      have HSAME : Hid (Calls Try.prog 47 #[.slice ua un uc, .slice xa un xc] w4 (BoolPost w4 true)) := Lib.hid (by
        have := same13_eq ua xa uc xc (WA.foldl wput []) w4 (ws_of_row (HO3.out.below b4).toV HOKW.out) (ws_of_row o4.toV HOKW.out) HLEN.out
        rw [← HUN.out] at this
        exact this)
      clear o4 b4 HC2
      go_wp2_with fail
      refine HSAME.out.mono ?_
      rintro e w5 ⟨rfl, b5⟩
      have HB5 := Lib.hid (below_then HB4.out b5)
      have HO5 := Lib.hid (HO4.out.below b5)
      have HRV5 : Hid (RsV w5 ra rs) := Lib.hid (((HR.out.below HB1.out).below HB5.out).rsV HSM.out)
      clear b5 HSAME
      cases q
      · go_wp2_with fail
        go_ret
        exact ⟨rfl, below_then HB1.out HB5.out⟩
      by_cases hn0 : i = 0
      · subst hn0
        go_wp2_with fail
        go_ret
        exact ⟨rfl, below_then HB1.out HB5.out⟩
      have tz : ((i : Int) == 0) = false := Bool.eq_false_iff.2 (fun h => by have := eq_of_beq h; omega)
      have hipos : 0 < i := by omega
      have htn : (i : Int) ≠ 0 := by omega
      obtain ⟨K, hK, hKi⟩ : ∃ K : Nat, (wrap64 (turn.tmod (i : Int) + (i : Int))).tmod (i : Int) = (K : Int) ∧ K < i := by
        have g1 := Int.lt_tmod_of_pos turn (show (0 : Int) < (i : Int) by omega)
        have g2 := Int.tmod_lt_of_pos turn (show (0 : Int) < (i : Int) by omega)
        have g3 : wrap64 (turn.tmod (i : Int) + (i : Int)) = turn.tmod (i : Int) + (i : Int) := by unfold wrap64; omega
        rw [g3, Int.tmod_eq_emod_of_nonneg (by omega)]
        have g4 := Int.emod_nonneg (turn.tmod (i : Int) + (i : Int)) (show (i : Int) ≠ 0 by omega)
        have g5 := Int.emod_lt_of_pos (turn.tmod (i : Int) + (i : Int)) (show (0 : Int) < (i : Int) by omega)
        exact ⟨((turn.tmod (i : Int) + (i : Int)) % (i : Int)).toNat, by omega, by omega⟩
      go_upto_region 19 with fail
      try rw [hK]
      have HKI := Lib.hid hKi
      clear hK hKi
      have HT0 : Hid (kR.Own w5 w5.heap.size (.slice none 0 0) (turnL rs K 0) ∧ Below w5.heap.size w5 w5) := Lib.hid ⟨RowK.Own.nil kR _ _, Below.refl _ _⟩
      go_wp2_with fail
      go_loopw [10, 11] (fun s10 vj wq => ∃ c : Nat, c ≤ i ∧ vj = .int .i64 ((i : Int) - 1 - (c : Int)) ∧ ∃ v10, v10 = s10 ∧ Hid (kR.Own wq w5.heap.size v10 (turnL rs K c) ∧ Below w5.heap.size w5 wq)) (fun _ vj _ => (intOf vj + 1).toNat)
      case atStart => exact ⟨0, Nat.zero_le _, by go_num, _, rfl, HT0⟩
      case round =>
        obtain ⟨c, hc, rfl, v10, rfl, HC⟩ := hrel
        by_cases hci : c < i
        · obtain ⟨j, hj⟩ : ∃ j : Nat, (i : Int) - 1 - (c : Int) = (j : Int) := ⟨i - 1 - c, by omega⟩
          rw [hj]
          have hji : j < i := by omega
          obtain ⟨P, hP⟩ : ∃ P, P = turnP i K c := ⟨_, rfl⟩
          have hPi : P < i := by rw [hP]; exact turnP_lt (by omega)
          have hPe : ((j : Int) + (K : Int)) % (i : Int) = (P : Int) := by
            rw [hP]; unfold turnP
            rw [show i - 1 - c = j by omega]
            push_cast; rfl
          have hPt : ((j : Int) + (K : Int)).tmod (i : Int) = (P : Int) := by rw [Int.tmod_eq_emod_of_nonneg (by omega)]; exact hPe
          have hP2 : (wrap64 ((j : Int) + (K : Int))).tmod (i : Int) = (P : Int) := by
            have := HKI.out
            rw [show wrap64 ((j : Int) + (K : Int)) = (j : Int) + (K : Int) by unfold wrap64; omega]
            exact hPt
          have hPz : (P : Int) < (i : Int) := by omega
          have hPn : decide ((P : Int) < 0) = false := decide_eq_false (by omega)
          clear hPe hPt
          have hjn : decide ((0 : Int) ≤ (j : Int)) = true := decide_eq_true (by omega)
          obtain ⟨x, hx⟩ : ∃ x, rs[P]? = some x := ⟨_, List.getElem?_eq_getElem (by have := HN.out; omega)⟩
          obtain ⟨g, off, hae, hat⟩ := (HRV5.out.below HC.out.2) (fun e => by rw [e] at hx; simp at hx)
          subst hae
          obtain ⟨_, d0, d1⟩ := hat.cells P x hx
          have HST : Hid (turnL rs K (c + 1) = turnL rs K c ++ [x]) := Lib.hid (turnL_step (by rw [← HN.out, ← hP]; exact hx))
          have HTL : Hid ((turnL rs K c).length + 1 ≤ 4000000) := Lib.hid (by
            have : (turnL rs K c).length ≤ c := by unfold turnL; exact Nat.le_trans (List.length_filterMap_le _ _) (by simp)
            omega)
          obtain ⟨oa, oc, hos⟩ := HC.out.1.shape
          obtain ⟨on, hon⟩ : ∃ on, on = (turnL rs K c).length := ⟨_, rfl⟩
          rw [← hon] at hos
          subst hos
          have HON := Lib.hid hon
          obtain ⟨Z, hZ⟩ : ∃ Z, wr.alloc (.cells #[.int .u64 x.stamp, .slice x.a x.ws.length x.cap] 35) = Z := ⟨_, rfl⟩
          obtain ⟨zb, hzb⟩ : ∃ z, z = wr.heap.size := ⟨_, rfl⟩
          have bZ : Below wr.heap.size wr Z := by rw [← hZ]; exact below_box _ _
          have eZ : Z.heap[zb]? = some (.cells #[.int .u64 x.stamp, .slice x.a x.ws.length x.cap] 35) := by rw [← hZ, hzb]; exact heap_new _ _
          have HOZ := Lib.hid (HC.out.1.below bZ)
          have HBZ := Lib.hid (below_then HC.out.2 bZ)
          have HVZ : Hid (kR.V Z (some ⟨zb, 0, none⟩) [x]) := Lib.hid (fun _ => ⟨_, 0, rfl, RowK.new_at (k := kR) eZ rfl⟩)
          have HZ := Lib.hid (And.intro hZ hzb)
          clear hx hat hP bZ eZ hZ hzb hon
          go_wp2_with (at_builtin; rw [HZ.out.1, ← HZ.out.2]; refine RowK.wpList_app (k := kR) (B := w5.heap.size) (v := .slice oa on oc) (l := turnL rs K c) rfl (.tmp 82) (.tmp 92) rfl rfl HOZ.out (some ⟨zb, 0, none⟩) 1 [x] 1 rfl rfl HVZ.out (fun e => by cases e) HTL.out HBZ.out.size ?_; rintro v9 w9 h9; have H9 := Lib.hid h9; clear h9)
          have HCN : Hid (kR.Own w9 w5.heap.size v9 (turnL rs K (c + 1)) ∧ Below w5.heap.size w5 w9) := Lib.hid (by
            rw [HST.out]
            exact ⟨H9.out.1, HBZ.out.trans (below_grownR HOZ.out H9.out.2.1 HBZ.out.size)⟩)
          refine ⟨⟨c + 1, by omega, ?_, _, rfl, HCN⟩, ?_⟩
          · congr 1; push_cast; omega
          · simp [intOf] <;> omega
        · obtain rfl : c = i := by omega
          rw [show (c : Int) - 1 - (c : Int) = -1 by omega]
          have hperm := turnL_perm (rs := rs) (k := K) (by rw [← HN.out]; exact HKI.out)
          have HPM : Hid ((turnL rs K c).Perm rs) := Lib.hid (by rw [← HN.out] at hperm; exact hperm)
          have HSK : Hid (Srt.sortK Rv.stamp (turnL rs K c) = Srt.sortK Rv.stamp rs) := Lib.hid ((sortK_same HPM.out.symm (apart_nodup (HAP.out rfl))).symm)
          obtain ⟨oa, oc, hos⟩ := HC.out.1.shape
          have hol : (turnL rs K c).length = c := by rw [HPM.out.length_eq, ← HN.out]
          rw [hol] at hos
          subst hos
          have HOV : Hid (RsV wr oa (turnL rs K c)) := Lib.hid (RsV.of_own HC.out.1 (fun x hx => by
            have hx2 := HPM.out.mem_iff.1 hx
            obtain ⟨j, hj⟩ := List.getElem?_of_mem hx2
            obtain ⟨_, _, _, hat⟩ := (HRV5.out.below HC.out.2) (fun e => by rw [e] at hx2; simp at hx2)
            exact (hat.cells j x hj).1))
          have HC3 := Lib.hid (replay_any oa oc (turnL rs K c) wr HOV.out (by rw [hol]; omega) (by rw [HSK.out]; exact HALL.out.1))
          rw [hol, HSK.out, ← HWA.out] at HC3
          clear hperm hol
          go_wp2_with fail
          refine HC3.out.mono ?_
          rintro e w6 ⟨v6, ws6, rfl, hrep, hok, o6, b6⟩
          have hws := hrep.uniq HREP.out
          subst hws
          obtain ⟨ya, yc, hys⟩ := o6.shape
          rw [← HUN.out] at hys
          subst hys
          have HB6 := Lib.hid (below_then HC.out.2 b6)
          have HSAME : Hid (Calls Try.prog 47 #[.slice ya un yc, .slice ua un uc] w6 (BoolPost w6 true)) := Lib.hid (by
            have := same13_eq ya ua yc uc (WA.foldl wput []) w6 (ws_of_row o6.toV HOKW.out) (ws_of_row (HO5.out.below HB6.out).toV HOKW.out) HLEN.out
            rw [← HUN.out] at this
            exact this)
          clear hrep hok o6 b6 HC3
          go_wp2_with fail
          refine HSAME.out.mono ?_
          rintro e w7 ⟨rfl, b7⟩
          have HB7 := Lib.hid (below_then HB6.out b7)
          clear b7 HSAME
          go_wp2_with fail
          go_ret
          exact ⟨rfl, below_then HB1.out (below_then HB5.out HB7.out)⟩
end Go.Proofs.Ytcghgnncmnoalaa
