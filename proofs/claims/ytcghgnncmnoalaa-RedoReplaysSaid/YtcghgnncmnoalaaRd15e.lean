/- cobwebref14.Parse of a block without bytes, wherever its slice may point. Conditions: none. -/
import Derived.Test.YtcghgnncmnoalaaRd15
namespace Go.Proofs.Ytcghgnncmnoalaa
open Go.RowKit Go.Maps

/-- a tape that has nothing -/
def TpE (w : World) (tb : Nat) (a : Option Addr) (cap : Nat) (bad : Bool) : Prop := w.heap[tb]? = some (.cells #[.slice a 0 cap, .bool bad] 146)
def TePost (w : World) (tb : Nat) (a : Option Addr) (cap : Nat) (v : Value) (e : Ending) (w' : World) : Prop := e = .returned v ∧ Chg w w' (· = tb) ∧ TpE w' tb a cap true
theorem ttake_none (tb : Nat) (a : Option Addr) (cap : Nat) (bad : Bool) (n : Nat) (w : World) (h : TpE w tb a cap bad) (hn : 0 < n) :
    Calls Try.prog 93 #[.pointer (some ⟨tb, 0, none⟩), .int .i64 n] w (TePost w tb a cap (.slice none 0 0)) := by
  have c0 := cell_of_blk h 0
  have f0 := frozen_of_blk h 0
  have c1 := cell_of_blk h 1
  have f1 := frozen_of_blk h 1
  simp at c0 c1
  have HT : Hid (TpE (w.setCell ⟨tb, 1, none⟩ (.bool true)) tb a cap true) := Lib.hid (by unfold TpE; rw [blk_setCell h]; rfl)
  have t1 : decide ((0 : Int) < (n : Int)) = true := decide_eq_true (by omega)
  clear h
  go_enter Try.func93, Try.ntmps93
  go_wp2_with fail
  go_ret
  exact ⟨rfl, chg_set2 _, HT.out⟩
theorem tnum_none (tb : Nat) (a : Option Addr) (cap : Nat) (bad : Bool) (n : Nat) (w : World) (h : TpE w tb a cap bad) (hn : 0 < n) :
    Calls Try.prog 92 #[.pointer (some ⟨tb, 0, none⟩), .int .i64 n] w (TePost w tb a cap (.int .i64 0)) := by
  have HH := Lib.hid h
  clear h
  go_enter Try.func92, Try.ntmps92
  go_wp2_with fail
  refine (ttake_none tb a cap bad n _ HH.out hn).mono ?_
  rintro e w1 ⟨rfl, hc, ht⟩
  have HT := Lib.hid (And.intro hc ht)
  clear hc ht
  go_wp2_with fail
  go_loopw [6, 7] (fun v i wr => v = .int .i64 0 ∧ i = .int .i64 0 ∧ w1 = wr) (fun _ _ _ => 0)
  case atStart => exact ⟨rfl, rfl, rfl⟩
  case round =>
    obtain ⟨rfl, rfl, rfl⟩ := hrel
    go_wp2_with fail
    go_ret
    exact ⟨rfl, HT.out⟩
set_option maxRecDepth 100000 in
set_option maxHeartbeats 2000000 in
theorem r14parse_none (k : UInt8) (a : Option Addr) (cap : Nat) (w : World) : Calls Try.prog 23 #[.agg #[bv k, .slice a 0 cap]] w (ParPost w (psB k [])) := by
  obtain ⟨kn, hkn⟩ : ∃ n, n = k.toNat := ⟨_, rfl⟩
  have hbv : bv k = .int .u8 (kn : Int) := by rw [hkn]; rfl
  rw [hbv]
  obtain ⟨p, hp⟩ : ∃ p, p = psB k [] := ⟨_, rfl⟩
  rw [← hp]
  have HP := Lib.hid hp
  have HKN := Lib.hid hkn
  clear hkn hbv
  have hqb := qb_new w (.int .u8 (kn : Int)) (.slice a 0 cap)
  obtain ⟨V0, hV0⟩ : ∃ V, V = ((w.alloc (.cells #[.int .u8 (kn : Int), .slice a 0 cap] 43)).alloc (.cells #[.int .u64 0, .slice none 0 0] 35)) := ⟨_, rfl⟩
  rw [← hV0] at hqb
  obtain ⟨b2, hb2⟩ : ∃ b, b = w.heap.size + 1 := ⟨_, rfl⟩
  obtain ⟨b1, hb1⟩ : ∃ b, b = w.heap.size := ⟨_, rfl⟩
  rw [← hb2, ← hb1] at hqb
  have HQ0 := Lib.hid hqb
  have HV0 := Lib.hid hV0
  have HB1 := Lib.hid hb1
  have HB2 := Lib.hid hb2
  have HL2 := Lib.hid (Array.getElem?_eq_some_iff.1 hqb.e2).1
  clear hqb hV0 hb1 hb2 hp
  go_enter Try.func23, Try.ntmps23
  go_upto_region 1 with fail
  rw [← HV0.out, ← HB2.out, ← HB1.out]
  obtain ⟨V, hV⟩ : ∃ W, W = V0.alloc (.cells #[.slice a 0 cap, .bool false] 146) := ⟨_, rfl⟩
  obtain ⟨tb, htb⟩ : ∃ b, b = V0.heap.size := ⟨_, rfl⟩
  have hb2tb : b2 < tb := by rw [htb]; exact HL2.out
  have hqV : QB w V b1 b2 (.int .u8 (kn : Int)) (.slice a 0 cap) (.int .u64 0) (.slice none 0 0) := HQ0.out.below (by rw [hV]; exact below_box _ _)
  have hrd : TpE V tb a cap false := by unfold TpE; rw [hV, htb]; exact heap_new _ _
  obtain ⟨c10, c11, _⟩ := HQ0.out.cells
  have HV := Lib.hid hV
  have HTB := Lib.hid htb
  have HQV := Lib.hid hqV
  have HT := Lib.hid hrd
  have HLT : Hid (b2 < tb) := Lib.hid hb2tb
  clear hV htb hqV hrd hb2tb
  go_upto_region 2 with fail
  rw [← HTB.out, ← HV.out]
  clear c10 c11
  obtain ⟨d10, d11, d20, d21, f20, f21⟩ := HQV.out.cells
  by_cases hk2 : kn = 2
  · have HN : Hid (p = .err 10) := Lib.hid (by rw [HP.out, show k = 2 from UInt8.toNat_inj.1 (by rw [← HKN.out, hk2]; rfl)]; rfl)
    subst hk2
    go_wp2_with fail
    refine (tnum_none tb a cap false 4 _ HT.out (by omega)).mono ?_
    rintro e w1 ⟨rfl, hc, hr⟩
    have hq1 := HQV.out.chg hc HLT.out
    clear d10 d11 d20 d21 f20 f21 hc
    have g0 := cell_of_blk hr 0
    have g1 := cell_of_blk hr 1
    simp at g0 g1
    obtain ⟨d10, d11, d20, d21, f20, f21⟩ := hq1.cells
    have HQ1 := Lib.hid hq1
    clear hr hq1
    go_wp2_with fail
    exact rp_ret rfl rfl rfl (HQ1.out.set2 _ _).e2 (qb_err 10 HN.out HQ1.out)
  · by_cases hk1 : kn = 1
    · have HN : Hid (p = .err 10) := Lib.hid (by rw [HP.out, show k = 1 from UInt8.toNat_inj.1 (by rw [← HKN.out, hk1]; rfl)]; rfl)
      subst hk1
      clear hk2
      go_wp2_with fail
      refine (ttake_none tb a cap false 8 _ HT.out (by omega)).mono ?_
      rintro e w1 ⟨rfl, hc, hr⟩
      have hq1 := HQV.out.chg hc HLT.out
      clear d10 d11 d20 d21 f20 f21 hc
      obtain ⟨U, hU⟩ : ∃ U, U = w1.alloc (.cells #[.int .u64 0, .slice none 0 0] 35) := ⟨_, rfl⟩
      have hTU : TpE U tb a cap true := by unfold TpE; rw [hU, Below.heap_alloc _ _ _ (Array.getElem?_eq_some_iff.1 hr).1]; exact hr
      have HQU : Hid (QB w U b1 b2 (.int .u8 ((1 : Nat) : Int)) (.slice a 0 cap) (.int .u64 0) (.slice none 0 0)) := Lib.hid (hq1.below (by rw [hU]; exact below_box _ _))
      have HTU := Lib.hid hTU
      have HU := Lib.hid hU
      clear hr hq1 hU hTU
      go_upto_region 11 with fail
      rw [← HU.out]
      go_wp2_with fail
      go_loopw [9] (fun i wr => i = .int .i64 0 ∧ U = wr) (fun _ _ => 0)
      case atStart => exact ⟨rfl, rfl⟩
      case round =>
        obtain ⟨rfl, rfl⟩ := hrel
        go_wp2_with fail
        refine (tnum_none tb a cap true 2 _ HTU.out (by omega)).mono ?_
        rintro e w2 ⟨rfl, hc, hr⟩
        have hq2 := HQU.out.chg hc HLT.out
        have g0 := cell_of_blk hr 0
        have g1 := cell_of_blk hr 1
        simp at g0 g1
        obtain ⟨d10, d11, d20, d21, f20, f21⟩ := hq2.cells
        have HQ2 := Lib.hid hq2
        clear hr hq2 hc
        go_wp2_with fail
        go_loopw [11] (fun i wr => i = .int .i64 0 ∧ w2 = wr) (fun _ _ => 0)
        case atStart => exact ⟨rfl, rfl⟩
        case round =>
          obtain ⟨rfl, rfl⟩ := hrel
          go_wp2_with fail
          exact rp_ret rfl rfl rfl (HQ2.out.set2 _ _).e2 (qb_err 10 HN.out HQ2.out)
    · have HN : Hid (p = .err 22) := Lib.hid (by
        rw [HP.out]; unfold psB
        rw [if_neg (fun e => hk1 (by rw [HKN.out, e]; rfl)), if_neg (fun e => hk2 (by rw [HKN.out, e]; rfl))])
      have t1 : ((kn : Int) == 1) = false := by simp; omega
      have t2 : ((kn : Int) == 2) = false := by simp; omega
      have t3 : ((kn : Int) != 1) = true := by simp; omega
      clear hk1 hk2
      go_wp2_with fail
      exact rp_ret rfl rfl rfl (HQV.out.set2 _ _).e2 (qb_err 22 HN.out HQV.out)
end Go.Proofs.Ytcghgnncmnoalaa
