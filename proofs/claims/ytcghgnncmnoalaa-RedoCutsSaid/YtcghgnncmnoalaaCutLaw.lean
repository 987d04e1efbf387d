/- RedoCuts. Conditions: none. -/
import Derived.Test.YtcghgnncmnoalaaCutPlain
import Derived.Test.YtcghgnncmnoalaaAw
import Derived.Test.YtcghgnncmnoalaaRdMem
namespace Go.Proofs.Ytcghgnncmnoalaa
open Go.RowKit Go.Maps

theorem turn_at (c : Int) (n : Nat) (hn : n ≤ 5000) : ∃ k : Nat, k ≤ n ∧ (wrap64 (wrap64 (c.tmod ((n : Int) + 1) + n) + 1)).tmod ((n : Int) + 1) = k := by
  have h1 : c.tmod ((n : Int) + 1) < (n : Int) + 1 := Int.tmod_lt_of_pos c (by omega)
  have h2 : -((n : Int) + 1) < c.tmod ((n : Int) + 1) := by
    have := Int.tmod_lt_of_pos (-c) (show (0 : Int) < (n : Int) + 1 by omega)
    rw [Int.neg_tmod] at this
    omega
  obtain ⟨t, ht⟩ : ∃ t, c.tmod ((n : Int) + 1) = t := ⟨_, rfl⟩
  rw [ht] at h1 h2 ⊢
  have h3 : 0 ≤ (t + n + 1) % ((n : Int) + 1) := Int.emod_nonneg _ (by omega)
  have h4 : (t + n + 1) % ((n : Int) + 1) < (n : Int) + 1 := Int.emod_lt_of_pos _ (by omega)
  obtain ⟨k, hk⟩ := Int.eq_ofNat_of_zero_le h3
  refine ⟨k, by omega, ?_⟩
  have e1 : wrap64 (t + n) = t + n := by unfold wrap64; omega
  have e2 : wrap64 (t + n + 1) = t + n + 1 := by unfold wrap64; omega
  rw [e1, e2, Int.tmod_eq_emod_of_nonneg (by omega), hk]
set_option maxRecDepth 100000 in
set_option maxHeartbeats 4000000 in
theorem cuts_any (a : Option Addr) (cap : Nat) (l : List UInt8) (c : Int) (w : World) (h : BsV w a l) (hc : l.length ≤ cap) (hi : I64 c) :
    Calls Try.prog 4 #[.slice a l.length cap, .int .i64 c] w (BoolPost w true) := by
  have HB := Lib.hid h
  have HCI := Lib.hid hi
  clear h hi
  go_enter Try.func4, Try.ntmps4
  go_wp2_with fail
  (with_reducible refine (awake14_any _).mono ?_)
  rintro e w1 ⟨rfl, b1⟩
  have HB1 := Lib.hid b1
  clear b1
  by_cases hbig : 3000 < l.length
  · have t1 : decide ((3000 : Int) < (l.length : Int)) = true := decide_eq_true (by omega)
    go_wp2_with fail
    (with_reducible refine (awake14_any _).mono ?_)
    rintro e w2 ⟨rfl, b2⟩
    have HB2 := Lib.hid b2
    clear b2
    go_wp2_with fail
    go_ret
    exact ⟨rfl, below_then HB1.out HB2.out⟩
  · have t1 : decide ((3000 : Int) < (l.length : Int)) = false := decide_eq_false (by omega)
    obtain ⟨n, hn⟩ : ∃ n, n = l.length := ⟨_, rfl⟩
    rw [← hn]
    rw [← hn] at t1 hc hbig
    have HN := Lib.hid hn
    clear hn
    go_wp2_with fail
    (with_reducible refine (recover_at a cap n l _ HN.out (HB.out.below HB1.out) hc (by have := HN.out; omega)).mono ?_)
    rintro e w2 ⟨v2, rs, rfl, o2, k2, m2, b2⟩
    obtain ⟨a2, c2, hv2, hz2⟩ := o2.shape
    subst hv2
    have HZ2 := Lib.hid (hz2 k2)
    have HM2 := Lib.hid m2
    have HB2 := Lib.hid b2
    have HSL : Hid (rs.length ≤ 1000000) := Lib.hid (by
      have h1 := congrArg List.length m2
      rw [List.length_map] at h1
      have h2 := out_len (lgN l)
      have h3 := sure_len l
      have := HN.out
      omega)
    have HCL : Hid ((lgN l).cut ≤ n) := Lib.hid (by rw [HN.out]; exact cut_le l)
    obtain ⟨la, hla⟩ : ∃ x, (lgN l).last = x := ⟨_, rfl⟩
    obtain ⟨cu, hcu⟩ : ∃ x, (lgN l).cut = x := ⟨_, rfl⟩
    rw [hla, hcu]
    have HLA := Lib.hid hla
    have HCU := Lib.hid hcu
    have hcun : cu ≤ n := by rw [← hcu]; exact HCL.out
    obtain ⟨rn, hrn⟩ : ∃ rn, rs.length = rn := ⟨_, rfl⟩
    rw [hrn]
    have HRN := Lib.hid hrn
    clear o2 k2 m2 b2 hz2 hla hcu hrn t1
    by_cases hc0 : cu = 0
    · have hx := cut_none l (by rw [HCU.out]; exact hc0)
      have hla1 : la = -1 := by rw [← HLA.out]; exact hx.1
      have hrn0 : rn = 0 := by
        have := congrArg List.length (HM2.out.trans hx.2)
        rw [List.length_map, HRN.out] at this
        simpa using this
      subst hc0 hla1 hrn0
      clear hx
      go_wp2_with fail
      go_ret
      exact ⟨rfl, below_then HB1.out HB2.out⟩
    · obtain ⟨k, hk, hq⟩ := turn_at c cu (by omega)
      have t1 : ((cu : Int) == 0) = false := by simpa using hc0
      have HQ := Lib.hid hq
      have hln : l ≠ [] := fun e => by have := HN.out; rw [e] at this; simp at this; omega
      obtain ⟨gb, goff, hga, hat⟩ := HB.out hln
      subst hga
      have HAT := Lib.hid hat
      have HLW := Lib.hid (cut_law l k (by have := HN.out; omega))
      have HLE := Lib.hid (cut_end l)
      have hkn : k ≤ n := by omega
      have hkc : k ≤ cap := by omega
      have HBK : Hid (∀ (W : World) (j : Nat), Below w.heap.size w W → BsV W (some ⟨gb, goff, none⟩) (l.take j)) := Lib.hid (fun W j hb _ => ⟨gb, goff, rfl, (HAT.out.take j).below hb⟩)
      have HB12 := Lib.hid (below_then HB1.out HB2.out)
      have HKL : Hid (k = (l.take k).length) := Lib.hid (by rw [List.length_take]; have := HN.out; omega)
      clear hq hc0 hat hln
      go_upto_region 7 with fail
      rw [HQ.out]
      have hkz : (k : Int) ≤ (cap : Int) := by omega
      go_wp2_with fail
      (with_reducible refine (recover_at (some ⟨gb, goff, none⟩) cap k (l.take k) _ HKL.out (HBK.out _ k HB12.out) hkc (by have := HKL.out; omega)).mono ?_)
      rintro e w3 ⟨v3, rs3, rfl, o3, k3, m3, b3⟩
      obtain ⟨a3, c3, hv3, hz3⟩ := o3.shape
      subst hv3
      have HZ3 := Lib.hid (hz3 k3)
      have HM3 := Lib.hid m3
      have HB3 := Lib.hid (below_then HB12.out b3)
      have HB3' := Lib.hid b3
      obtain ⟨hL1, hL2, hL3, hL4, hL5, hL6⟩ := HLW.out
      obtain ⟨la3, hla3⟩ : ∃ x, (lgN (l.take k)).last = x := ⟨_, rfl⟩
      obtain ⟨cu3, hcu3⟩ : ∃ x, (lgN (l.take k)).cut = x := ⟨_, rfl⟩
      have HL4 : Hid (lgOut (lgN (l.take cu3)) = lgOut (lgN (l.take k))) := Lib.hid (by rw [← hcu3]; exact hL4)
      rw [hcu3] at hL1 hL2 hL3
      rw [hla3] at hL2 hL5
      rw [HLA.out] at hL5
      have HLL := Lib.hid (And.intro hL2 hL3)
      have HL6 := Lib.hid hL6
      rw [hla3, hcu3]
      obtain ⟨rn3, hrn3⟩ : ∃ rn, rs3.length = rn := ⟨_, rfl⟩
      rw [hrn3]
      have HRN3 := Lib.hid hrn3
      have hcc : cu3 ≤ cap := by omega
      have hccz : (cu3 : Int) ≤ (cap : Int) := by omega
      have HKL3 : Hid (cu3 = (l.take cu3).length) := Lib.hid (by rw [List.length_take]; have := HN.out; omega)
      have hrn6 : rn3 ≤ rn := by
        have h1 := congrArg List.length HM3.out
        have h2 := congrArg List.length HM2.out
        rw [List.length_map, hrn3] at h1
        rw [List.length_map, HRN.out] at h2
        omega
      clear o3 k3 m3 b3 hz3 hla3 hcu3 hrn3 hL2 hL3 hL4 hL6
      go_wp2_with fail
      (with_reducible refine (recover_at (some ⟨gb, goff, none⟩) cap cu3 (l.take cu3) _ HKL3.out (HBK.out _ cu3 HB3.out) hcc (by have := HKL3.out; omega)).mono ?_)
      rintro e w4 ⟨v4, rs4, rfl, o4, k4, m4, b4⟩
      obtain ⟨a4, c4, hv4, hz4⟩ := o4.shape
      subst hv4
      rw [HLL.out.1, HLL.out.2]
      have HZ4 := Lib.hid (hz4 k4)
      have HM4 := Lib.hid m4
      have HB4 := Lib.hid (below_then HB3.out b4)
      have HB4' := Lib.hid b4
      obtain ⟨rn4, hrn4⟩ : ∃ rn, rs4.length = rn := ⟨_, rfl⟩
      rw [hrn4]
      have HRN4 := Lib.hid hrn4
      have HME : Hid (rs3.map Rv.rc = rs4.map Rv.rc) := Lib.hid (by rw [HM3.out, HM4.out, HL4.out])
      have HR3L : Hid (rs3.length ≤ 1000000) := Lib.hid (by
        have h1 := congrArg List.length HM3.out
        rw [List.length_map] at h1
        have h2 := congrArg List.length HM2.out
        rw [List.length_map] at h2
        have h3 := HRN3.out
        have h4 := HRN.out
        have h5 := HSL.out
        omega)
      have t2 : decide ((k : Int) < (cu3 : Int)) = false := decide_eq_false (by omega)
      have t3 : ((la3 : Int) != la3) = false := by simp
      have t4 : ((cu3 : Int) != (cu3 : Int)) = false := by simp
      have t5 : decide ((la : Int) < la3) = false := decide_eq_false (by omega)
      clear o4 k4 m4 b4 hz4 hrn4
      go_wp2_with fail
      (with_reducible refine (all14_at a3 a4 c3 c4 rn3 rn4 rs3 rs4 _ HRN3.out.symm HRN4.out.symm (HZ3.out.below HB4'.out) HZ4.out HME.out HR3L.out).mono ?_)
      rintro e w5 ⟨rfl, b5⟩
      have HB5 := Lib.hid (below_then HB4.out b5)
      have HB5' := Lib.hid b5
      have hcuc : cu ≤ cap := by omega
      have hcucz : (cu : Int) ≤ (cap : Int) := by omega
      have HKL5 : Hid (cu = (l.take cu).length) := Lib.hid (by rw [List.length_take]; have := HN.out; omega)
      clear b5
      go_wp2_with fail
      (with_reducible refine (recover_at (some ⟨gb, goff, none⟩) cap cu (l.take cu) _ HKL5.out (HBK.out _ cu HB5.out) hcuc (by have := HKL5.out; omega)).mono ?_)
      rintro e w6 ⟨v6, rs6, rfl, o6, k6, m6, b6⟩
      obtain ⟨a6, c6, hv6, hz6⟩ := o6.shape
      subst hv6
      have HLE2 : Hid ((lgN (l.take cu)).last = la ∧ (lgN (l.take cu)).cut = cu ∧ lgOut (lgN (l.take cu)) = lgOut (lgN l)) := Lib.hid (by
        have h1 := HLE.out
        rw [HCU.out, HLA.out] at h1
        exact h1)
      rw [HLE2.out.1, HLE2.out.2.1]
      have HZ6 := Lib.hid (hz6 k6)
      have HM6 := Lib.hid m6
      have HB6 := Lib.hid (below_then HB5.out b6)
      have HB6' := Lib.hid b6
      obtain ⟨rn6, hrn6'⟩ : ∃ rn, rs6.length = rn := ⟨_, rfl⟩
      rw [hrn6']
      have HRN6 := Lib.hid hrn6'
      have HME6 : Hid (rs6.map Rv.rc = rs.map Rv.rc) := Lib.hid (by rw [HM6.out, HM2.out, HLE2.out.2.2])
      have HR6L : Hid (rs6.length ≤ 1000000) := Lib.hid (by
        have h1 := congrArg List.length HME6.out
        rw [List.length_map, List.length_map] at h1
        have h4 := HRN.out
        have h5 := HSL.out
        omega)
      have t6 : ((la : Int) == la) = true := by simp
      have t7 : ((cu : Int) == (cu : Int)) = true := by simp
      have t8 : decide ((rn3 : Int) ≤ (rn : Int)) = true := decide_eq_true (by omega)
      clear o6 k6 m6 b6 hz6 hrn6'
      go_wp2_with fail
      (with_reducible refine (all14_at a6 a2 c6 c2 rn6 rn rs6 rs _ HRN6.out.symm HRN.out.symm HZ6.out ((((HZ2.out.below HB3'.out).below HB4'.out).below HB5'.out).below HB6'.out) HME6.out HR6L.out).mono ?_)
      rintro e w7 ⟨rfl, b7⟩
      have HB7 := Lib.hid (below_then HB6.out b7)
      clear b7
      go_wp2_with fail
      go_ret
      exact ⟨rfl, HB7.out⟩
end Go.Proofs.Ytcghgnncmnoalaa
