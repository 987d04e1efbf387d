/- RedoRecovers. Conditions: none. -/
import Derived.Test.YtcghgnncmnoalaaRf3
import Derived.Test.YtcghgnncmnoalaaRdMem
namespace Go.Proofs.Ytcghgnncmnoalaa
open Go.RowKit Go.Maps

theorem r14recover_at (a : Option Addr) (cap n : Nat) (l : List UInt8) (w : World) (hn : n = l.length) (h : BsV w a l) (hcap : n ≤ cap) (hl : l.length ≤ 1000000) : Calls Try.prog 17 #[.slice a n cap] w (RecvPost2 w l) := by
  subst hn; exact r14recover_any a cap l w h hcap hl
set_option maxRecDepth 100000 in
set_option maxHeartbeats 4000000 in
theorem recovers_any (a : Option Addr) (cap : Nat) (l : List UInt8) (w : World) (h : BsV w a l) (hc : l.length ≤ cap) :
    Calls Try.prog 3 #[.slice a l.length cap] w (BoolPost w true) := by
  have HB := Lib.hid h
  clear h
  go_enter Try.func3, Try.ntmps3
  go_wp2_with fail
  (with_reducible refine (awake14_any _).mono ?_)
  rintro e w1 ⟨rfl, b1⟩
  have HB1 := Lib.hid b1
  clear b1
  by_cases hbig : 5000 < l.length
  · have t1 : decide ((5000 : Int) < (l.length : Int)) = true := decide_eq_true (by omega)
    go_wp2_with fail
    (with_reducible refine (awake14_any _).mono ?_)
    rintro e w2 ⟨rfl, b2⟩
    have HB2 := Lib.hid b2
    clear b2
    go_wp2_with fail
    go_ret
    exact ⟨rfl, below_then HB1.out HB2.out⟩
  · have t1 : decide ((5000 : Int) < (l.length : Int)) = false := decide_eq_false (by omega)
    obtain ⟨V, hV⟩ : ∃ V, V = w1.alloc (.cells #[] 5) := ⟨_, rfl⟩
    have eV : V.heap[w1.heap.size]? = some (.cells #[] 5) := by rw [hV]; exact heap_new w1 _
    have hBV : Below w1.heap.size w1 V := by rw [hV]; exact below_box w1 _
    obtain ⟨g, hg⟩ : ∃ g, g = w1.heap.size := ⟨_, rfl⟩
    rw [← hg] at eV
    have HO : Hid (BsO V w1.heap.size (.slice (some ⟨g, 0, none⟩) 0 0) []) := Lib.hid (BsO.empty eV (by omega))
    have HV := Lib.hid hV
    have HG := Lib.hid hg
    have HBV := Lib.hid hBV
    obtain ⟨n, hn⟩ : ∃ n, n = l.length := ⟨_, rfl⟩
    have HN := Lib.hid hn
    have HSRC : Hid (Src Try.prog 1 22 (.slice a n cap) n (l.map bv) V) := Lib.hid (by rw [hn]; exact BsV.src ((HB.out.below HB1.out).below hBV) cap)
    have hn5 : n ≤ 5000 := by omega
    rw [← hn]
    rw [← hn] at t1 hc
    clear hV eV hg hBV hn hbig
    go_wp2_with ((at_builtin; rw [← HV.out, ← HG.out]; refine wpList_appX _ rfl (.tmp 18) (.tmp 19) 22 rfl w1.heap.size _ _ rfl HO.out (.slice a n cap) n l rfl HN.out.symm HSRC.out (by have := HN.out; simp; omega) HBV.out.size ?_; rintro v2 w2 ⟨o2, b2, _, _⟩; have H2 := Lib.hid (And.intro o2 b2); clear o2 b2))
    obtain ⟨a2, c2, hv2⟩ := H2.out.1.shape
    rw [List.nil_append] at hv2
    subst hv2
    have HB2 : Hid (BsV w2 a2 l) := Lib.hid (BsO.bsV H2.out.1)
    have HC2 : Hid (l.length ≤ c2) := Lib.hid (by
      rcases H2.out.1.2 with ⟨h1, h2⟩ | ⟨gg, cp, cur, h1, _, _, h4, _⟩
      · injection h1 with e1 e2 e3; omega
      · injection h1 with e1 e2 e3; rw [List.nil_append] at h4; omega)
    have HBE : Hid (Below w1.heap.size w1 w2) := Lib.hid (HBV.out.trans H2.out.2)
    rw [← HN.out] at HC2
    rw [← HN.out]
    clear H2
    (with_reducible refine (recover_at a2 c2 n l _ HN.out HB2.out HC2.out (by have := HN.out; omega)).mono ?_)
    rintro e w3 ⟨v3, rs, rfl, o3, k3, m3, b3⟩
    obtain ⟨a3, c3, hv3, hz3⟩ := o3.shape
    subst hv3
    have HZ3 := Lib.hid (hz3 k3)
    have HM3 := Lib.hid m3
    have HB3 := Lib.hid b3
    obtain ⟨la, hla⟩ : ∃ x, (lgN l).last = x := ⟨_, rfl⟩
    obtain ⟨cu, hcu⟩ : ∃ x, (lgN l).cut = x := ⟨_, rfl⟩
    rw [hla, hcu]
    have HLA := Lib.hid (And.intro hla hcu)
    clear o3 k3 m3 b3 hz3 hla hcu
    go_wp2_with fail
    (with_reducible refine (r14recover_at a cap n l _ HN.out (((HB.out.below HB1.out).below HBE.out).below HB3.out) hc (by have := HN.out; omega)).mono ?_)
    rintro e w4 ⟨a4, c4, rs4, rfl, z4, m4, l4, b4⟩
    rw [HLA.out.1, HLA.out.2]
    have HZ4 := Lib.hid z4
    have HB4 := Lib.hid b4
    have HME : Hid (rs.map Rv.rc = rs4.map Rv.rc) := Lib.hid (HM3.out.trans m4.symm)
    have HRL : Hid (rs.length ≤ 1000000) := Lib.hid (by have := congrArg List.length HME.out; simp at this; omega)
    clear z4 m4 l4 b4
    have t3 : ((la : Int) == la) = true := by simp
    have t4 : ((cu : Int) == (cu : Int)) = true := by simp
    go_wp2_with fail
    (with_reducible refine (all14_eq a3 a4 c3 c4 rs rs4 _ (HZ3.out.below HB4.out) HZ4.out HME.out HRL.out).mono ?_)
    rintro e w5 ⟨rfl, b5⟩
    have HB5 := Lib.hid b5
    clear b5
    go_wp2_with fail
    go_ret
    exact ⟨rfl, below_then (below_then (below_then (below_then HB1.out HBE.out) HB3.out) HB4.out) HB5.out⟩
end Go.Proofs.Ytcghgnncmnoalaa
