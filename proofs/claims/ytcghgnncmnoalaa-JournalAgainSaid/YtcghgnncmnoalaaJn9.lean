/- JournalAgain. Conditions: none. -/
import Derived.Test.YtcghgnncmnoalaaJn8
import Derived.Test.YtcghgnncmnoalaaBackRow
namespace Go.Proofs.Ytcghgnncmnoalaa
open Go.RowKit Go.Maps

set_option maxRecDepth 100000 in
theorem convO {w : World} {B : Nat} {v : Value} {l : List UInt8} (h : BsO w B v l) : (convert 22 9 v).run Try.prog w = .ok (.string ⟨l.toArray⟩) w := by
  obtain ⟨a, c, rfl⟩ := h.shape
  rcases h.2 with ⟨e, hl⟩ | ⟨g, cp, cur, e, h2, h3, _⟩
  · injection e with e1 e2 e3
    subst e1 e3
    have : l = [] := List.eq_nil_of_length_eq_zero hl
    subst this
    exact conv_nil w
  · injection e with e1 e2 e3
    subst e1
    by_cases hl : l = []
    · subst hl
      refine run_convert_bytes_back (P := Try.prog) w 22 9 5 ⟨g, 0, none⟩ c [] Try.underlying22 Try.underlying5 Try.underlying9 ?_
      intro j hj
      exact absurd hj (by simp)
    · obtain ⟨b, off, e, hat⟩ := BsO.bsV h hl
      injection e with e
      injection e with e1 e2
      subst e1 e2
      exact conv_at hat
theorem conv_nilc (c : Nat) (w : World) : (convert 22 9 (.slice none 0 c)).run Try.prog w = .ok (.string ⟨#[]⟩) w := by kernel_rfl
set_option maxRecDepth 100000 in
theorem convV {w : World} {a : Option Addr} {c : Nat} {l : List UInt8} (h : BsV w a l) : (convert 22 9 (.slice a l.length c)).run Try.prog w = .ok (.string ⟨l.toArray⟩) w := by
  cases a with
  | none =>
    have : l = [] := Classical.byContradiction fun hn => by obtain ⟨_, _, e, _⟩ := h hn; cases e
    subst this
    exact conv_nilc c w
  | some x =>
    refine run_convert_bytes_back (P := Try.prog) w 22 9 5 x c l Try.underlying22 Try.underlying5 Try.underlying9 ?_
    intro j hj
    obtain ⟨b, off, e, hat⟩ := h (fun e => by rw [e] at hj; simp at hj)
    injection e with e
    subst e
    exact hat.conv j hj
/-- the disk and the first journal, through the crashes -/
structure AgI (w wr : World) (jb db n : Nat) (T : List UInt8) (la : Int) (a2 : Option Addr) (rs : List Rv) : Prop where
  s : JS wr jb db n T.length 0 la w.heap.size T [(la, (T.length : Int))]
  r : RsV wr a2 rs
  b : Below w.heap.size w wr
set_option maxRecDepth 100000 in
set_option maxHeartbeats 8000000 in
theorem again_any (a : Option Addr) (cap : Nat) (l : List UInt8) (ka : Option Addr) (kcap : Nat) (kl : List Int) (w : World) (h : BsV w a l) (hc : l.length ≤ cap) (hk : IsV w ka kl) (hkc : kl.length ≤ kcap) :
    Calls Try.prog 12 #[.slice a l.length cap, .slice ka kl.length kcap] w (BoolPost w true) := by
  have HB := Lib.hid h
  have HK := Lib.hid hk
  clear h hk
  obtain ⟨n, hn⟩ : ∃ n, n = l.length := ⟨_, rfl⟩
  obtain ⟨kn, hkn⟩ : ∃ n, n = kl.length := ⟨_, rfl⟩
  rw [← hn] at hc ⊢
  rw [← hkn] at hkc ⊢
  have HN := Lib.hid hn
  have HKN := Lib.hid hkn
  clear hn hkn
  go_enter Try.func12, Try.ntmps12
  go_wp2_with fail
  (with_reducible refine (awake15_any _).mono ?_)
  rintro e w1 ⟨rfl, b1⟩
  have HB1 := Lib.hid b1
  clear b1
  by_cases hbig : 3000 < n
  · have t1 : decide ((3000 : Int) < (n : Int)) = true := decide_eq_true (by omega)
    go_wp2_with fail
    (with_reducible refine (awake15_any _).mono ?_)
    rintro e w2 ⟨rfl, b2⟩
    have HB2 := Lib.hid b2
    clear b2
    go_wp2_with fail
    go_ret
    exact ⟨rfl, below_then HB1.out HB2.out⟩
  have t1 : decide ((3000 : Int) < (n : Int)) = false := decide_eq_false (by omega)
  by_cases hbk : 20 < kn
  · have t2 : decide ((20 : Int) < (kn : Int)) = true := decide_eq_true (by omega)
    go_wp2_with fail
    (with_reducible refine (awake15_any _).mono ?_)
    rintro e w2 ⟨rfl, b2⟩
    have HB2 := Lib.hid b2
    clear b2
    go_wp2_with fail
    go_ret
    exact ⟨rfl, below_then HB1.out HB2.out⟩
  have t2 : decide ((20 : Int) < (kn : Int)) = false := decide_eq_false (by omega)
  go_wp2_with fail
  refine (dkNew_any n (by omega) w1).mono ?_
  rintro e w2 ⟨rfl, d2, b2⟩
  have HD2 := Lib.hid d2
  have HB2 := Lib.hid b2
  clear d2 b2 t1 t2
  obtain ⟨W3, hW3⟩ : ∃ W3, w2.alloc (.cells #[.slice a n cap] 22) = W3 := ⟨_, rfl⟩
  have b3 : Below w2.heap.size w2 W3 := by rw [← hW3]; exact below_box _ _
  have e3 : W3.heap[w2.heap.size]? = some (.cells #[.slice a n cap] 22) := by rw [← hW3]; exact heap_new _ _
  have HB3 := Lib.hid (below_then HB2.out b3)
  have HDA : Hid (Calls Try.prog 66 #[.pointer (some ⟨w1.heap.size, 0, none⟩), .slice (some ⟨w2.heap.size, 0, none⟩) 1 1] W3 (DkAppPost W3 w1.heap.size n 0 w1.heap.size [] l)) := Lib.hid (dkAppend_any (HD2.out.below b3) HB3.out.size w2.heap.size a n cap l e3 (fun e => by
    rw [dob_below HD2.out b3] at e
    have := (HD2.out.ob e).2.1
    omega) HN.out ((HB.out.below HB1.out).below (HB3.out)) (by have := HN.out; simp; omega))
  have HDO : Hid (∀ j, j = w1.heap.size ∨ dob W3 w1.heap.size = some j → w1.heap.size ≤ j) := Lib.hid (fun j hj => hj.elim (fun q => by rw [q]; exact Nat.le_refl _) (fun q => ((HD2.out.below b3).ob q).1))
  have HW3 := Lib.hid hW3
  clear hW3 b3 e3
  go_upto_region 4 with fail
  go_wp2_with fail
  rw [HW3.out]
  refine HDA.out.mono ?_
  rintro e w4 ⟨hy, _⟩
  obtain ⟨rfl, d4, g4, _⟩ := hy (by have := HN.out; simp; omega)
  have HD4 : Hid (DkS w4 w1.heap.size n 0 w1.heap.size l) := Lib.hid d4
  have HB4 : Hid (Below w1.heap.size w1 w4) := Lib.hid (HB3.out.trans (g4.below HB3.out.size HDO.out))
  clear hy d4 g4
  go_wp2_with fail
  refine (jOpen_any HD4.out HB4.out.size).mono ?_
  rintro e w5 ⟨jb, a2, c2, rs, rfl, r5, _, m5, l5, hjb, s5, g5⟩
  have hcl := cut_le l
  obtain ⟨T, hT⟩ : ∃ T, T = l.take (lgN l).cut := ⟨_, rfl⟩
  have hTl : T.length = (lgN l).cut := by rw [hT, List.length_take]; omega
  obtain ⟨la, hla⟩ : ∃ x, x = (lgN l).last := ⟨_, rfl⟩
  obtain ⟨ce1, ce2, ce3⟩ := cut_end l
  rw [← hT, ← hla] at ce1
  rw [← hT, ← hTl] at ce2
  rw [← hT] at ce3
  rw [← hT, ← hTl, ← hla] at s5
  have HI0 : Hid (AgI w1 w5 jb w1.heap.size n T la a2 rs) := Lib.hid ⟨s5, r5, HB4.out.trans (g5.below HB4.out.size (fun i hi => by rw [hi]; exact Nat.le_refl _))⟩
  have HJB : Hid (w1.heap.size ≤ jb) := Lib.hid (Nat.le_trans HB4.out.size hjb)
  have HCE := Lib.hid (And.intro ce1 (And.intro ce2 ce3))
  have HM5 : Hid (rs.map Rv.rc = lgOut (lgN T)) := Lib.hid (by rw [ce3]; exact m5)
  have HT := Lib.hid hT
  have HTN : Hid (T.length ≤ n) := Lib.hid (by rw [hTl, HN.out]; exact hcl)
  have HL5 := Lib.hid l5
  obtain ⟨rn, hrn⟩ : ∃ rn, rn = rs.length := ⟨_, rfl⟩
  rw [← hrn]
  have HRN := Lib.hid hrn
  clear hcl hT hTl hla ce1 ce2 ce3 s5 r5 g5 m5 l5 hjb hrn HD2 HB2 HB3 HDA HDO HW3 HD4 HB4
  have HPR : Hid (Calls Try.prog 60 #[.pointer (some ⟨jb, 0, none⟩)] w5 fun e w' => e = .returned (.int .i64 0) ∧ w5 = w') := Lib.hid (jPromised_any HI0.out.s.j)
  go_wp2_with fail
  refine HPR.out.mono ?_
  rintro e w6 ⟨rfl, rfl⟩
  clear HPR
  go_wp2_with fail
  refine (dkBytes_any HI0.out.s.d).mono ?_
  rintro e w7 ⟨v7, rfl, o7, b7⟩
  obtain ⟨a7, c7, rfl⟩ := o7.shape
  have hcv := convO o7
  obtain ⟨kt, hkt⟩ : ∃ s : ByteArray, s = ⟨T.toArray⟩ := ⟨_, rfl⟩
  rw [← hkt] at hcv
  have HKT := Lib.hid hkt
  have HI7 : Hid (AgI w1 w7 jb w1.heap.size n T la a2 rs) := Lib.hid ⟨HI0.out.s.below b7, HI0.out.r.below b7, below_then HI0.out.b b7⟩
  clear hkt o7 b7
  go_wp2_with fail
  clear hcv
  go_loopw [11, 12, 13, 14] (fun vi _ _ _ wr => ∃ i : Nat, i ≤ kn ∧ vi = .int .i64 i ∧ Hid (AgI w1 wr jb w1.heap.size n T la a2 rs)) (fun vi _ _ _ _ => kn - (intOf vi).toNat)
  case atStart => exact ⟨0, by omega, rfl, HI7⟩
  case round =>
    obtain ⟨i, hi, rfl, HI⟩ := hrel
    by_cases hik : i < kn
    · have hikz : (i : Int) < (kn : Int) := by omega
      obtain ⟨kb, koff, hka, hkb, hkat⟩ := HK.out (fun e => by have := HKN.out; rw [e] at this; simp at this; omega)
      obtain ⟨kp, hkp⟩ : ∃ o, kl[i]? = some o := ⟨_, List.getElem?_eq_getElem (by have := HKN.out; omega)⟩
      have k0 : wr.cell? ⟨kb, koff + i, none⟩ = some (.int .i64 kp) := ((below_then HB1.out HI.out.b).cell (p := ⟨kb, koff + i, none⟩) hkb).trans (hkat i kp hkp)
      have HCR : Hid (Calls Try.prog 63 #[.pointer (some ⟨w1.heap.size, 0, none⟩), .int .i64 kp] wr (DkPost wr w1.heap.size n T.length w1.heap.size T T.length)) := Lib.hid (by
        have := dkCrash_any HI.out.s.d kp
        rw [show crashN T.length T.length kp = T.length from (by have := crashN_le kp (Nat.le_refl T.length); omega), List.take_length] at this
        exact this)
      subst hka
      clear hkp hkat
      go_wp2_with fail
      refine HCR.out.mono ?_
      rintro e w8 ⟨rfl, d8, g8⟩
      have HI8 : Hid (AgI w1 w8 jb w1.heap.size n T la a2 rs) := Lib.hid ⟨HI.out.s.disk1 d8 g8, HI.out.r.off HI.out.s.d g8, HI.out.b.trans (g8.below HI.out.b.size (fun i hi => by rw [hi]; exact Nat.le_refl _))⟩
      clear k0 HCR d8 g8
      go_wp2_with fail
      refine (jOpen_any HI8.out.s.d HI8.out.b.size).mono ?_
      rintro e w9 ⟨jb9, a9, c9, rs9, rfl, r9, _, m9, l9, hjb9, s9, g9⟩
      rw [HCE.out.1, HCE.out.2.1, List.take_length] at s9
      have HI9 : Hid (AgI w1 w9 jb w1.heap.size n T la a2 rs) := Lib.hid ⟨HI8.out.s.disk1 s9.d g9, HI8.out.r.off HI8.out.s.d g9, HI8.out.b.trans (g9.below HI8.out.b.size (fun i hi => by rw [hi]; exact Nat.le_refl _))⟩
      have HS9 := Lib.hid s9
      obtain ⟨n9, hn9⟩ : ∃ n9, n9 = rs9.length := ⟨_, rfl⟩
      rw [← hn9]
      have HALL : Hid (Calls Try.prog 18 #[.slice a9 n9 c9, .slice a2 rn c2] w9 (BoolPost w9 true)) := Lib.hid (all14_at a9 a2 c9 c2 n9 rn rs9 rs w9 hn9 HRN.out r9 HI9.out.r (m9.trans HM5.out.symm) l9)
      clear r9 m9 l9 hjb9 s9 g9 hn9
      go_wp2_with fail
      refine HALL.out.mono ?_
      rintro e w10 ⟨rfl, b10⟩
      have HI10 : Hid (AgI w1 w10 jb w1.heap.size n T la a2 rs) := Lib.hid ⟨HI9.out.s.below b10, HI9.out.r.below b10, below_then HI9.out.b b10⟩
      have HS10 := Lib.hid (HS9.out.below b10)
      clear b10 HALL
      go_wp2_with fail
      refine (jLast_any HS10.out.j).mono ?_
      rintro e w11 ⟨rfl, rfl⟩
      go_wp2_with fail
      refine (jLast_any HI10.out.s.j).mono ?_
      rintro e w11 ⟨rfl, rfl⟩
      go_wp2_with fail
      refine (jSure_any HS10.out.j HS10.out.d (by simp)).mono ?_
      rintro e w11 ⟨rfl, b11⟩
      rw [show sureOf (T.length : Int) (-1) [(la, (T.length : Int))] = la by simp [sureOf]]
      have HI11 : Hid (AgI w1 w11 jb w1.heap.size n T la a2 rs) := Lib.hid ⟨HI10.out.s.below b11, HI10.out.r.below b11, below_then HI10.out.b b11⟩
      clear b11
      go_wp2_with fail
      refine (jLast_any HI11.out.s.j).mono ?_
      rintro e w12 ⟨rfl, rfl⟩
      go_wp2_with fail
      refine (dkBytes_any HI11.out.s.d).mono ?_
      rintro e w12 ⟨v12, rfl, o12, b12⟩
      obtain ⟨a12, c12, rfl⟩ := o12.shape
      have hcv := convO o12
      rw [← HKT.out] at hcv
      have HI12 : Hid (AgI w1 w12 jb w1.heap.size n T la a2 rs) := Lib.hid ⟨HI11.out.s.below b12, HI11.out.r.below b12, below_then HI11.out.b b12⟩
      clear o12 b12
      go_wp2_with fail
      exact ⟨⟨i + 1, by omega, by go_num, HI12⟩, by simp [intOf]; omega⟩
    · obtain rfl : i = kn := by omega
      have hsz : kt.size = T.length := by rw [HKT.out]; rfl
      have hkn : kt.size ≤ n := by rw [hsz]; exact HTN.out
      have hk1 : (kt.size : Int) ≤ (n : Int) := by omega
      have t3 : decide ((kt.size : Int) ≤ (n : Int)) = true := decide_eq_true hk1
      have t4 : decide (kt.size ≤ n) = true := decide_eq_true hkn
      have hk2 : (kt.size : Int) ≤ (cap : Int) := by omega
      have hcv : (convert 22 9 (.slice a kt.size cap)).run Try.prog wr = .ok (.string kt) wr := by
        have hbv : BsV wr a T := by
          have h0 := HB.out.below (below_then HB1.out HI.out.b)
          intro hTn
          have hln : l ≠ [] := fun e => by rw [e] at HT; rw [HT.out] at hTn; simp at hTn
          obtain ⟨b, off, e, hat⟩ := h0 hln
          refine ⟨b, off, e, ?_⟩
          rw [HT.out]
          exact hat.take _
        have := convV (c := cap) hbv
        rw [hsz]
        rw [← HKT.out] at this
        exact this
      have HBE := Lib.hid (below_then HB1.out HI.out.b)
      clear hsz hkn hk1
      cases a with
      | none =>
        go_wp2_with fail
        go_ret
        exact ⟨rfl, HBE.out⟩
      | some x =>
        go_wp2_with fail
        go_ret
        exact ⟨rfl, HBE.out⟩
end Go.Proofs.Ytcghgnncmnoalaa
