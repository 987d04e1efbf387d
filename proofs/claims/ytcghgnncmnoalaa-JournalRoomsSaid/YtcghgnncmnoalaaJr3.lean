/- JournalRooms: its walk. Conditions: none. -/
import Derived.Test.YtcghgnncmnoalaaJr2
import Derived.Test.YtcghgnncmnoalaaJaA
import Derived.Test.YtcghgnncmnoalaaBackRow
namespace Go.Proofs.Ytcghgnncmnoalaa
open Go.RowKit Go.Maps

set_option maxRecDepth 100000 in
set_option maxHeartbeats 8000000 in
theorem rooms_any (room : Int) (ra : Option Addr) (rcap : Nat) (zs : List Rv) (pa : Option Addr) (pcap : Nat) (pl : List Int) (w : World) (hz : RsM w ra zs) (hzl : zs.length ≤ maxLen) (hp : IsV w pa pl) (hpl : pl.length ≤ maxLen) (hpi : ∀ m ∈ pl, I64 m) (hr : I64 room) :
    Calls Try.prog 10 #[.int .i64 room, .slice ra zs.length rcap, .slice pa pl.length pcap] w (BoolPost w true) := by
  unfold maxLen at hzl hpl
  have HZ := Lib.hid hz
  have HP := Lib.hid hp
  have HPI := Lib.hid hpi
  clear hz hp hpi
  obtain ⟨rn, hrn⟩ : ∃ n, n = zs.length := ⟨_, rfl⟩
  obtain ⟨pn, hpn⟩ : ∃ n, n = pl.length := ⟨_, rfl⟩
  rw [← hrn] at hzl ⊢
  rw [← hpn] at hpl ⊢
  have HRN := Lib.hid hrn
  have HPN := Lib.hid hpn
  clear hrn hpn
  go_enter Try.func10, Try.ntmps10
  go_wp2_with fail
  (with_reducible refine (awake15_any _).mono ?_)
  rintro e w1 ⟨rfl, b1⟩
  have HB1 := Lib.hid b1
  clear b1
  by_cases hbk : 20 < rn
  · have t2 : decide ((20 : Int) < (rn : Int)) = true := decide_eq_true (by omega)
    go_wp2_with fail
    (with_reducible refine (awake15_any _).mono ?_)
    rintro e w2 ⟨rfl, b2⟩
    have HB2 := Lib.hid b2
    clear b2
    go_wp2_with fail
    go_ret
    exact ⟨rfl, below_then HB1.out HB2.out⟩
  have t2 : decide ((20 : Int) < (rn : Int)) = false := decide_eq_false (by omega)
  by_cases hbig : 60 < pn
  · have t1 : decide ((60 : Int) < (pn : Int)) = true := decide_eq_true (by omega)
    go_wp2_with fail
    (with_reducible refine (awake15_any _).mono ?_)
    rintro e w2 ⟨rfl, b2⟩
    have HB2 := Lib.hid b2
    clear b2
    go_wp2_with fail
    go_ret
    exact ⟨rfl, below_then HB1.out HB2.out⟩
  have t1 : decide ((60 : Int) < (pn : Int)) = false := decide_eq_false (by omega)
  obtain ⟨n, hn, hn1⟩ := turnR 900 (by omega) (by omega) room
  have HNE := Lib.hid hn
  obtain ⟨ra9, rb9⟩ := hr
  clear hn
  go_upto_region 4 with fail
  rw [show (wrap64 (room.tmod 900 + 900)).tmod 900 = (n : Int) from HNE.out]
  clear t1 t2
  go_wp2_with fail
  refine (dkNew_any n (by omega) w1).mono ?_
  rintro e w2 ⟨rfl, d2, b2⟩
  have HD2 := Lib.hid d2
  have HB2 := Lib.hid b2
  clear d2 b2
  go_wp2_with fail
  refine (jOpen_any HD2.out HB2.out.size).mono ?_
  rintro e w3 ⟨jb, a3, c3, rs3, rfl, _, _, m3, _, hjb, s3, g3⟩
  have hcut : (lgN []).cut = 0 := by have := cut_le []; simpa using this
  obtain ⟨hla, hou⟩ := cut_none [] hcut
  rw [hou] at m3
  obtain rfl : rs3 = [] := List.map_eq_nil_iff.1 m3
  rw [hla, hcut] at s3
  have HJ0 : Hid (RmI w1 w3 jb w1.heap.size n 0 (-1) [] [(-1, 0)] none 0 0 [] []) := Lib.hid ⟨s3, HB2.out.trans (g3.below HB2.out.size (fun i hi => by rw [hi]; exact Nat.le_refl _)), OffR.nil _ _, fun x hx => (by cases hx), by omega, by simp [sumP], ⟨by simp, .inl rfl⟩, Nat.le_trans HB2.out.size hjb, Nat.le_refl _⟩
  clear m3 hjb s3 g3 hcut hla hou HD2 HB2
  go_wp2_with fail
  go_loopw [13, 14, 15, 16, 17, 18] (fun vo vm vi _ _ _ wr => ∃ (a : Option Addr) (on cap i mk : Nat) (prom last : Int) (ow : List Rv) (l : List UInt8) (ms : List (Int × Int)), i ≤ pn ∧ vo = .slice a on cap ∧ vm = .int .i64 mk ∧ vi = .int .i64 i ∧ mk ≤ i ∧ Hid (RmI w1 wr jb w1.heap.size n prom last l ms a on cap ow ow ∧ ow.length ≤ i ∧ ms.length ≤ i + 1)) (fun _ _ vi _ _ _ _ => pn - (intOf vi).toNat)
  case atStart => exact ⟨none, 0, 0, 0, 0, 0, -1, [], [], _, by omega, rfl, rfl, rfl, by omega, Lib.hid ⟨HJ0.out, by simp, by simp⟩⟩
  case round =>
    obtain ⟨a, on, cap, i, mk, prom, last, ow, l, ms, hi, rfl, rfl, rfl, hmk, HR⟩ := hrel
    have HI := Lib.hid HR.out.1
    have HX := Lib.hid HR.out.2
    clear HJ0 HR
    by_cases hik : i < pn
    · have hikz : (i : Int) < (pn : Int) := by omega
      obtain ⟨p, hp⟩ : ∃ x, pl[i]? = some x := ⟨_, List.getElem?_eq_getElem (by have := HPN.out; omega)⟩
      have HBA := Lib.hid (below_then HB1.out HI.out.b)
      obtain ⟨pb, poff, hpa, hpb, hpat⟩ := HP.out (fun e => by rw [e] at hp; simp at hp)
      have k0 : wr.cell? ⟨pb, poff + i, none⟩ = some (.int .i64 p) := (HBA.out.cell (p := ⟨pb, poff + i, none⟩) hpb).trans (hpat i p hp)
      have HK0 : Hid (∀ u : World, Below w1.heap.size w1 u → u.cell? ⟨pb, poff + i, none⟩ = some (.int .i64 p)) := Lib.hid (fun u hu => ((below_then HB1.out hu).cell (p := ⟨pb, poff + i, none⟩) hpb).trans (hpat i p hp))
      subst hpa
      have HIP := Lib.hid (HPI.out p (List.mem_of_getElem? hp))
      clear hp hpat
      have ho1 : on = ow.length := HI.out.o.1
      have hHX := HX.out
      have hl2 := HI.out.prom2 (by omega)
      have HL2 := Lib.hid hl2
      by_cases h1 : p.tmod 3 = 1
      · have z0 : (p.tmod 3 == 0) = false := by rw [h1]; rfl
        have z1 : (p.tmod 3 == 1) = true := by rw [h1]; rfl
        have z2 : (p.tmod 3 == 2) = false := by rw [h1]; rfl
        clear h1
        have zr : (decide ((0 : Int) < (rn : Int)) = true ∧ decide (0 < rn) = true) ∨ (decide ((0 : Int) < (rn : Int)) = false ∧ decide (0 < rn) = false) := by
          by_cases hr : 0 < rn
          · exact .inl ⟨decide_eq_true (by omega), decide_eq_true hr⟩
          · exact .inr ⟨decide_eq_false (by omega), decide_eq_false hr⟩
        cases ow with
        | nil =>
          obtain rfl : on = 0 := by simpa using ho1
          clear ho1 hHX hl2
          rcases zr with ⟨zr, zq⟩ | ⟨zr, zq⟩
          · as_aux_lemma =>
              have he1 := HI.out.fit
              have t8 : decide ((n : Int) < ((l).length : Int)) = false := decide_eq_false (by omega)
              have t8n : decide (n < (l).length) = false := decide_eq_false (by omega)
              have t9 : decide ((n : Int) - ((l).length : Int) < prom) = false := decide_eq_false (by have := HI.out.p0; omega)
              clear he1
              go_wp2_with fail
              refine (dkLen_any HI.out.s.d).mono ?_
              rintro e w8 ⟨rfl, rfl⟩
              go_wp2_with fail
              refine (dkLeft_any HI.out.s.d).mono ?_
              rintro e w9 ⟨rfl, b9⟩
              have H9 := Lib.hid (HI.out.below b9)
              clear b9
              go_wp2_with fail
              refine (jPromised_any H9.out.s.j).mono ?_
              rintro e w8 ⟨rfl, rfl⟩
              go_wp2_with fail
              exact ⟨⟨a, 0, cap, i + 1, mk, prom, last, ([] : List Rv), l, ms, by omega, rfl, by first | rfl | go_num, by go_num, by omega, Lib.hid ⟨H9.out, by have h9 := HX.out; simp only [List.length_nil] at h9 ⊢; omega, by have h9 := HX.out; omega⟩⟩, by simp [intOf]; omega⟩
          · as_aux_lemma =>
              have he1 := HI.out.fit
              have t8 : decide ((n : Int) < ((l).length : Int)) = false := decide_eq_false (by omega)
              have t8n : decide (n < (l).length) = false := decide_eq_false (by omega)
              have t9 : decide ((n : Int) - ((l).length : Int) < prom) = false := decide_eq_false (by have := HI.out.p0; omega)
              clear he1
              go_wp2_with fail
              refine (dkLen_any HI.out.s.d).mono ?_
              rintro e w8 ⟨rfl, rfl⟩
              go_wp2_with fail
              refine (dkLeft_any HI.out.s.d).mono ?_
              rintro e w9 ⟨rfl, b9⟩
              have H9 := Lib.hid (HI.out.below b9)
              clear b9
              go_wp2_with fail
              refine (jPromised_any H9.out.s.j).mono ?_
              rintro e w8 ⟨rfl, rfl⟩
              go_wp2_with fail
              exact ⟨⟨a, 0, cap, i + 1, mk, prom, last, ([] : List Rv), l, ms, by omega, rfl, by first | rfl | go_num, by go_num, by omega, Lib.hid ⟨H9.out, by have h9 := HX.out; simp only [List.length_nil] at h9 ⊢; omega, by have h9 := HX.out; omega⟩⟩, by simp [intOf]; omega⟩
        | cons x ot =>
          have hon0 : 0 < on := by rw [ho1]; simp
          have hon : (0 : Int) < (on : Int) := by omega
          have hon1 : (1 : Int) ≤ (on : Int) := by omega
          have hon2 : 1 ≤ on := by omega
          obtain ⟨g, off, hga, hgB, hgc⟩ := HI.out.o.at' (fun e => by cases e)
          subst hga
          obtain ⟨c0, c1⟩ := hgc 0 x rfl
          rw [Nat.zero_mul, Nat.add_zero] at c0 c1
          have HOW := Lib.hid (HI.out.ok x (List.mem_cons_self ..))
          obtain ⟨ap1, ap2, ap3, ap4⟩ := appR_rm (n := n) (len := l.length) (prom := prom) (s := sumP ot) HOW.out.ok (by have := HI.out.sum; rw [sumP_cons] at this; exact this) HI.out.fit
          have hsm := small_two (st := x.stamp) HOW.out.sm
          have HAP : Hid (Calls Try.prog 56 #[.pointer (some ⟨jb, 0, none⟩), .agg #[.int .u64 x.stamp, .slice x.a x.ws.length x.cap]] wr (JAppPost wr jb w1.heap.size n 0 prom last w1.heap.size l ms ⟨x.stamp, x.ws⟩)) := Lib.hid (jAppend_any HI.out.s HI.out.b.size HI.out.p0 (by omega) x.stamp x.a x.cap x.ws.length x.ws rfl (HOW.out.ws.below HI.out.b) HOW.out.sb (by omega) (by rw [pack_len]; omega))
          have HAQ := Lib.hid (And.intro ap1 (And.intro ap2 (And.intro ap3 ap4)))
          have hsl : on ≤ cap := by have := HI.out.o.2.1; omega
          clear hgc hsm ap1 ap2 ap3 ap4 ho1 hHX hl2
          have HON := Lib.hid hon2
          clear hon2
          rcases zr with ⟨zr, zq⟩ | ⟨zr, zq⟩
          · go_wp2_with fail
            refine HAP.out.mono ?_
            rintro e w3 ⟨rfl, s3, g3, _⟩
            rw [HAQ.out.1] at s3 ⊢
            obtain ⟨p3, hp3⟩ : ∃ q, q = prom - ((packL 1 (bodyL x.stamp x.ws)).length : Nat) := ⟨_, rfl⟩
            obtain ⟨l3, hl3⟩ : ∃ q, q = l ++ packL 1 (bodyL x.stamp x.ws) := ⟨_, rfl⟩
            have H0 : Hid (RmI w1 w3 jb w1.heap.size n p3 last l3 ms (some ⟨g, off, none⟩) on cap (x :: ot) ot) := Lib.hid (by
              rw [hp3, hl3]
              exact HI.out.turn s3 (g3.mono (fun _ _ h => h.elim .inl (fun q => q.elim (fun q => .inr (.inl q)) (fun q => .inr (.inr (.inl q)))))) HAQ.out.2.1 HAQ.out.2.2.1 (by rw [List.length_append]; exact HAQ.out.2.2.2))
            clear hp3 hl3 s3 g3 c0 c1
            obtain ⟨a3, ha3⟩ : ∃ q, sfxR (some ⟨g, off, none⟩) cap 1 = q := ⟨_, rfl⟩
            obtain ⟨o3, ho3⟩ : ∃ q, on - 1 = q := ⟨_, rfl⟩
            obtain ⟨k3, hk3⟩ : ∃ q, cap - 1 = q := ⟨_, rfl⟩
            have H3 : Hid (RmI w1 w3 jb w1.heap.size n p3 last l3 ms a3 o3 k3 ot ot) := Lib.hid (by rw [← ha3, ← ho3, ← hk3]; exact H0.out.pay)
            have k1 := HK0.out _ H3.out.b
            clear k0
            have HE3 := Lib.hid (And.intro ha3 (And.intro ho3 hk3))
            clear ha3 ho3 hk3 hsl
            go_upto_region 23 with fail
            go_wp2_with (refine wpList_sliceR rfl _ _ rfl (some ⟨g, off, none⟩) on cap 1 rfl rfl HON.out HE3.out.1 HE3.out.2.1 HE3.out.2.2 ?_)
            as_aux_lemma =>
              have he1 := H3.out.fit
              have t8 : decide ((n : Int) < ((l3).length : Int)) = false := decide_eq_false (by omega)
              have t8n : decide (n < (l3).length) = false := decide_eq_false (by omega)
              have t9 : decide ((n : Int) - ((l3).length : Int) < p3) = false := decide_eq_false (by have := H3.out.p0; omega)
              clear he1
              go_wp2_with fail
              refine (dkLen_any H3.out.s.d).mono ?_
              rintro e w8 ⟨rfl, rfl⟩
              go_wp2_with fail
              refine (dkLeft_any H3.out.s.d).mono ?_
              rintro e w9 ⟨rfl, b9⟩
              have H9 := Lib.hid (H3.out.below b9)
              clear b9
              go_wp2_with fail
              refine (jPromised_any H9.out.s.j).mono ?_
              rintro e w8 ⟨rfl, rfl⟩
              go_wp2_with fail
              exact ⟨⟨a3, o3, k3, i + 1, mk, p3, last, ot, l3, ms, by omega, rfl, by first | rfl | go_num, by go_num, by omega, Lib.hid ⟨H9.out, by have h9 := HX.out; simp only [List.length_cons] at h9; omega, by have h9 := HX.out; omega⟩⟩, by simp [intOf]; omega⟩
          · go_wp2_with fail
            refine HAP.out.mono ?_
            rintro e w3 ⟨rfl, s3, g3, _⟩
            rw [HAQ.out.1] at s3 ⊢
            obtain ⟨p3, hp3⟩ : ∃ q, q = prom - ((packL 1 (bodyL x.stamp x.ws)).length : Nat) := ⟨_, rfl⟩
            obtain ⟨l3, hl3⟩ : ∃ q, q = l ++ packL 1 (bodyL x.stamp x.ws) := ⟨_, rfl⟩
            have H0 : Hid (RmI w1 w3 jb w1.heap.size n p3 last l3 ms (some ⟨g, off, none⟩) on cap (x :: ot) ot) := Lib.hid (by
              rw [hp3, hl3]
              exact HI.out.turn s3 (g3.mono (fun _ _ h => h.elim .inl (fun q => q.elim (fun q => .inr (.inl q)) (fun q => .inr (.inr (.inl q)))))) HAQ.out.2.1 HAQ.out.2.2.1 (by rw [List.length_append]; exact HAQ.out.2.2.2))
            clear hp3 hl3 s3 g3 c0 c1
            obtain ⟨a3, ha3⟩ : ∃ q, sfxR (some ⟨g, off, none⟩) cap 1 = q := ⟨_, rfl⟩
            obtain ⟨o3, ho3⟩ : ∃ q, on - 1 = q := ⟨_, rfl⟩
            obtain ⟨k3, hk3⟩ : ∃ q, cap - 1 = q := ⟨_, rfl⟩
            have H3 : Hid (RmI w1 w3 jb w1.heap.size n p3 last l3 ms a3 o3 k3 ot ot) := Lib.hid (by rw [← ha3, ← ho3, ← hk3]; exact H0.out.pay)
            have k1 := HK0.out _ H3.out.b
            clear k0
            have HE3 := Lib.hid (And.intro ha3 (And.intro ho3 hk3))
            clear ha3 ho3 hk3 hsl
            go_upto_region 23 with fail
            go_wp2_with (refine wpList_sliceR rfl _ _ rfl (some ⟨g, off, none⟩) on cap 1 rfl rfl HON.out HE3.out.1 HE3.out.2.1 HE3.out.2.2 ?_)
            as_aux_lemma =>
              have he1 := H3.out.fit
              have t8 : decide ((n : Int) < ((l3).length : Int)) = false := decide_eq_false (by omega)
              have t8n : decide (n < (l3).length) = false := decide_eq_false (by omega)
              have t9 : decide ((n : Int) - ((l3).length : Int) < p3) = false := decide_eq_false (by have := H3.out.p0; omega)
              clear he1
              go_wp2_with fail
              refine (dkLen_any H3.out.s.d).mono ?_
              rintro e w8 ⟨rfl, rfl⟩
              go_wp2_with fail
              refine (dkLeft_any H3.out.s.d).mono ?_
              rintro e w9 ⟨rfl, b9⟩
              have H9 := Lib.hid (H3.out.below b9)
              clear b9
              go_wp2_with fail
              refine (jPromised_any H9.out.s.j).mono ?_
              rintro e w8 ⟨rfl, rfl⟩
              go_wp2_with fail
              exact ⟨⟨a3, o3, k3, i + 1, mk, p3, last, ot, l3, ms, by omega, rfl, by first | rfl | go_num, by go_num, by omega, Lib.hid ⟨H9.out, by have h9 := HX.out; simp only [List.length_cons] at h9; omega, by have h9 := HX.out; omega⟩⟩, by simp [intOf]; omega⟩
      by_cases h2 : p.tmod 3 = 2
      · have z0 : (p.tmod 3 == 0) = false := by rw [h2]; rfl
        have z1 : (p.tmod 3 == 1) = false := by rw [h2]; rfl
        have z2 : (p.tmod 3 == 2) = true := by rw [h2]; rfl
        clear h1 h2 ho1 hHX hl2
        have zr : (decide ((0 : Int) < (rn : Int)) = true ∧ decide (0 < rn) = true) ∨ (decide ((0 : Int) < (rn : Int)) = false ∧ decide (0 < rn) = false) := by
          by_cases hr : 0 < rn
          · exact .inl ⟨decide_eq_true (by omega), decide_eq_true hr⟩
          · exact .inr ⟨decide_eq_false (by omega), decide_eq_false hr⟩
        have HMC : Hid (Calls Try.prog 57 #[.pointer (some ⟨jb, 0, none⟩), .int .i64 ((mk : Int) + 1)] wr (JMarkPost wr jb w1.heap.size n 0 prom last w1.heap.size l ms ((mk : Int) + 1))) := Lib.hid (jMark_any HI.out.s HI.out.b.size HI.out.p0 (by have := HL2.out; omega) (by have := HX.out; omega) (by have := HL2.out; omega) _)
        rcases zr with ⟨zr, zq⟩ | ⟨zr, zq⟩
        · go_wp2_with fail
          refine HMC.out.mono ?_
          rintro e w4 ⟨rfl, m1, m2, g4, _⟩
          by_cases hm : mkE n l.length prom last ((mk : Int) + 1) = 0
          · obtain ⟨l4, hl4⟩ : ∃ q, q = l ++ packL 2 (fourL ((mk : Int) + 1).toNat) := ⟨_, rfl⟩
            obtain ⟨ms4, hms4⟩ : ∃ q, q = ms ++ [((mk : Int) + 1, ((l.length + 14 : Nat) : Int))] := ⟨_, rfl⟩
            have H4 : Hid (RmI w1 w4 jb w1.heap.size n prom ((mk : Int) + 1) l4 ms4 a on cap ow ow) := Lib.hid (by
              rw [hl4, hms4]
              refine HI.out.turn (m2 hm) g4 HI.out.p0 HI.out.sum ?_
              have hpl : (packL 2 (fourL ((mk : Int) + 1).toNat)).length = 14 := by rw [pack_len]; simp [fourL]
              rw [List.length_append, hpl]
              exact mkE_rm hm HI.out.p0)
            have HM4 : Hid (ms4.length = ms.length + 1) := Lib.hid (by rw [hms4]; simp)
            replace HX : Hid (ow.length ≤ i ∧ ms4.length ≤ i + 1 + 1) := Lib.hid ⟨HX.out.1, by have := HX.out.2; rw [HM4.out]; omega⟩
            clear m1 m2 g4 hm hl4 hms4 k0 HM4
            as_aux_lemma =>
              have he1 := H4.out.fit
              have t8 : decide ((n : Int) < ((l4).length : Int)) = false := decide_eq_false (by omega)
              have t8n : decide (n < (l4).length) = false := decide_eq_false (by omega)
              have t9 : decide ((n : Int) - ((l4).length : Int) < prom) = false := decide_eq_false (by have := H4.out.p0; omega)
              clear he1
              go_wp2_with fail
              refine (dkLen_any H4.out.s.d).mono ?_
              rintro e w8 ⟨rfl, rfl⟩
              go_wp2_with fail
              refine (dkLeft_any H4.out.s.d).mono ?_
              rintro e w9 ⟨rfl, b9⟩
              have H9 := Lib.hid (H4.out.below b9)
              clear b9
              go_wp2_with fail
              refine (jPromised_any H9.out.s.j).mono ?_
              rintro e w8 ⟨rfl, rfl⟩
              go_wp2_with fail
              exact ⟨⟨a, on, cap, i + 1, (mk + 1), prom, ((mk : Int) + 1), ow, l4, ms4, by omega, rfl, by first | rfl | go_num, by go_num, by omega, Lib.hid ⟨H9.out, by have h9 := HX.out; omega, by have h9 := HX.out; omega⟩⟩, by simp [intOf]; omega⟩
          · have H4 : Hid (RmI w1 w4 jb w1.heap.size n prom last l ms a on cap ow ow) := Lib.hid (HI.out.turn (m1 hm) g4 HI.out.p0 HI.out.sum HI.out.fit)
            clear m1 m2 g4 hm k0
            as_aux_lemma =>
              have he1 := H4.out.fit
              have t8 : decide ((n : Int) < ((l).length : Int)) = false := decide_eq_false (by omega)
              have t8n : decide (n < (l).length) = false := decide_eq_false (by omega)
              have t9 : decide ((n : Int) - ((l).length : Int) < prom) = false := decide_eq_false (by have := H4.out.p0; omega)
              clear he1
              go_wp2_with fail
              refine (dkLen_any H4.out.s.d).mono ?_
              rintro e w8 ⟨rfl, rfl⟩
              go_wp2_with fail
              refine (dkLeft_any H4.out.s.d).mono ?_
              rintro e w9 ⟨rfl, b9⟩
              have H9 := Lib.hid (H4.out.below b9)
              clear b9
              go_wp2_with fail
              refine (jPromised_any H9.out.s.j).mono ?_
              rintro e w8 ⟨rfl, rfl⟩
              go_wp2_with fail
              exact ⟨⟨a, on, cap, i + 1, (mk + 1), prom, last, ow, l, ms, by omega, rfl, by first | rfl | go_num, by go_num, by omega, Lib.hid ⟨H9.out, by have h9 := HX.out; omega, by have h9 := HX.out; omega⟩⟩, by simp [intOf]; omega⟩
        · go_wp2_with fail
          refine HMC.out.mono ?_
          rintro e w4 ⟨rfl, m1, m2, g4, _⟩
          by_cases hm : mkE n l.length prom last ((mk : Int) + 1) = 0
          · obtain ⟨l4, hl4⟩ : ∃ q, q = l ++ packL 2 (fourL ((mk : Int) + 1).toNat) := ⟨_, rfl⟩
            obtain ⟨ms4, hms4⟩ : ∃ q, q = ms ++ [((mk : Int) + 1, ((l.length + 14 : Nat) : Int))] := ⟨_, rfl⟩
            have H4 : Hid (RmI w1 w4 jb w1.heap.size n prom ((mk : Int) + 1) l4 ms4 a on cap ow ow) := Lib.hid (by
              rw [hl4, hms4]
              refine HI.out.turn (m2 hm) g4 HI.out.p0 HI.out.sum ?_
              have hpl : (packL 2 (fourL ((mk : Int) + 1).toNat)).length = 14 := by rw [pack_len]; simp [fourL]
              rw [List.length_append, hpl]
              exact mkE_rm hm HI.out.p0)
            have HM4 : Hid (ms4.length = ms.length + 1) := Lib.hid (by rw [hms4]; simp)
            replace HX : Hid (ow.length ≤ i ∧ ms4.length ≤ i + 1 + 1) := Lib.hid ⟨HX.out.1, by have := HX.out.2; rw [HM4.out]; omega⟩
            clear m1 m2 g4 hm hl4 hms4 k0 HM4
            as_aux_lemma =>
              have he1 := H4.out.fit
              have t8 : decide ((n : Int) < ((l4).length : Int)) = false := decide_eq_false (by omega)
              have t8n : decide (n < (l4).length) = false := decide_eq_false (by omega)
              have t9 : decide ((n : Int) - ((l4).length : Int) < prom) = false := decide_eq_false (by have := H4.out.p0; omega)
              clear he1
              go_wp2_with fail
              refine (dkLen_any H4.out.s.d).mono ?_
              rintro e w8 ⟨rfl, rfl⟩
              go_wp2_with fail
              refine (dkLeft_any H4.out.s.d).mono ?_
              rintro e w9 ⟨rfl, b9⟩
              have H9 := Lib.hid (H4.out.below b9)
              clear b9
              go_wp2_with fail
              refine (jPromised_any H9.out.s.j).mono ?_
              rintro e w8 ⟨rfl, rfl⟩
              go_wp2_with fail
              exact ⟨⟨a, on, cap, i + 1, (mk + 1), prom, ((mk : Int) + 1), ow, l4, ms4, by omega, rfl, by first | rfl | go_num, by go_num, by omega, Lib.hid ⟨H9.out, by have h9 := HX.out; omega, by have h9 := HX.out; omega⟩⟩, by simp [intOf]; omega⟩
          · have H4 : Hid (RmI w1 w4 jb w1.heap.size n prom last l ms a on cap ow ow) := Lib.hid (HI.out.turn (m1 hm) g4 HI.out.p0 HI.out.sum HI.out.fit)
            clear m1 m2 g4 hm k0
            as_aux_lemma =>
              have he1 := H4.out.fit
              have t8 : decide ((n : Int) < ((l).length : Int)) = false := decide_eq_false (by omega)
              have t8n : decide (n < (l).length) = false := decide_eq_false (by omega)
              have t9 : decide ((n : Int) - ((l).length : Int) < prom) = false := decide_eq_false (by have := H4.out.p0; omega)
              clear he1
              go_wp2_with fail
              refine (dkLen_any H4.out.s.d).mono ?_
              rintro e w8 ⟨rfl, rfl⟩
              go_wp2_with fail
              refine (dkLeft_any H4.out.s.d).mono ?_
              rintro e w9 ⟨rfl, b9⟩
              have H9 := Lib.hid (H4.out.below b9)
              clear b9
              go_wp2_with fail
              refine (jPromised_any H9.out.s.j).mono ?_
              rintro e w8 ⟨rfl, rfl⟩
              go_wp2_with fail
              exact ⟨⟨a, on, cap, i + 1, (mk + 1), prom, last, ow, l, ms, by omega, rfl, by first | rfl | go_num, by go_num, by omega, Lib.hid ⟨H9.out, by have h9 := HX.out; omega, by have h9 := HX.out; omega⟩⟩, by simp [intOf]; omega⟩
      by_cases h0 : p.tmod 3 = 0 ∧ 0 < rn
      · obtain ⟨h0, hrn⟩ := h0
        have z0 : (p.tmod 3 == 0) = true := by rw [h0]; rfl
        have z1 : (p.tmod 3 == 1) = false := by rw [h0]; rfl
        have z2 : (p.tmod 3 == 2) = false := by rw [h0]; rfl
        have zr : (0 : Int) < (rn : Int) := by omega
        have zq : decide (0 < rn) = true := decide_eq_true hrn
        have zr0 : ((rn : Int) == 0) = false := by simp; omega
        obtain ⟨kk, hkk, hkl⟩ := turnR rn hrn (by omega) p
        obtain ⟨x, hx⟩ : ∃ x, zs[kk]? = some x := ⟨_, List.getElem?_eq_getElem (by have := HRN.out; omega)⟩
        obtain ⟨zb, zoff, hza, hzb, hzat⟩ := HZ.out (fun e => by rw [e] at hx; simp at hx)
        obtain ⟨hxo, c0, c1⟩ := hzat kk x hx
        subst hza
        replace c0 := (HBA.out.cell (p := ⟨zb, zoff + kk * 2, none⟩) hzb).trans c0
        replace c1 := (HBA.out.cell (p := ⟨zb, zoff + kk * 2 + 1, none⟩) hzb).trans c1
        have hklz : (kk : Int) < (rn : Int) := by omega
        have HXO := Lib.hid (And.intro hxo.1 (And.intro (hxo.2.1.below HB1.out) hxo.2.2))
        have HKK := Lib.hid hkk
        obtain ⟨rb, hrb⟩ : ∃ x, x = wr.heap.size := ⟨_, rfl⟩
        obtain ⟨W, hW⟩ : ∃ W, wr.alloc (.cells #[.int .u64 x.stamp, .slice x.a x.ws.length x.cap] 35) = W := ⟨_, rfl⟩
        have bW : Below wr.heap.size wr W := by rw [← hW]; exact below_box wr _
        have eW : W.heap[rb]? = some (.cells #[.int .u64 x.stamp, .slice x.a x.ws.length x.cap] 35) := by rw [← hW, hrb]; exact heap_new wr _
        have HIW := Lib.hid (HI.out.below bW)
        have v0 := cell_of_blk eW 0
        have v1 := cell_of_blk eW 1
        simp at v0 v1
        have HEW := Lib.hid eW
        have HW := Lib.hid hW
        have HRB := Lib.hid hrb
        have HZR := Lib.hid (And.intro zr0 hrn)
        clear h0 h1 h2 hx hzat hxo hW bW eW hrb hHX hl2 ho1 hrn hkl
        go_upto_region 14 with fail
        go_upto_region 15 with fail
        rw [HW.out, ← HRB.out]
        clear c0 c1 k0 HW HRB hkk
        have k1 := HK0.out _ HIW.out.b
        go_wp2_with fail
        (with_reducible refine (jsmall_any 0 0 x.stamp x.a x.cap x.ws _ (HXO.out.2.1.below HIW.out.b) HXO.out.2.2).mono ?_)
        rintro e w2 ⟨rfl, b2⟩
        obtain ⟨q, hq⟩ : ∃ q, q = smallW 10 200 x.ws := ⟨_, rfl⟩
        rw [← hq]
        have HQ := Lib.hid hq
        have HI2 := Lib.hid (HIW.out.below b2)
        have e2 := (b2.block _ (Array.getElem?_eq_some_iff.1 HEW.out).1).trans HEW.out
        clear v0 v1 b2 hq k1
        cases q
        · have HBE := Lib.hid (below_then HB1.out HI2.out.b)
          clear e2
          go_wp2_with fail
          go_ret
          exact ⟨rfl, HBE.out⟩
        · have v0 := cell_of_blk e2 0
          have v1 := cell_of_blk e2 1
          simp at v0 v1
          have HE2 := Lib.hid e2
          have hsm := small_two (st := max x.stamp 1) HQ.out.symm
          have HPC : Hid (Calls Try.prog 55 #[.pointer (some ⟨jb, 0, none⟩), .agg #[.int .u64 x.stamp, .slice x.a x.ws.length x.cap]] w2 (PromPost w2 jb w1.heap.size n 0 prom last w1.heap.size l ms ⟨max x.stamp 1, x.ws⟩)) := Lib.hid (jPromise_any HI2.out.s HI2.out.p0 (by have := HL2.out; omega) x.stamp x.a x.cap x.ws.length x.ws rfl (HXO.out.2.1.below HI2.out.b) HXO.out.1 (by omega) (by omega))
          obtain ⟨qq, hqq⟩ : ∃ q, promR n l.length prom ⟨max x.stamp 1, x.ws⟩ = q := ⟨_, rfl⟩
          obtain ⟨q1, q2, q3⟩ := qq
          obtain ⟨r1, r2, r3⟩ := promR_rm hqq HI2.out.p0 HI2.out.fit
          have HQQ := Lib.hid hqq
          have HRR := Lib.hid (And.intro r1 (And.intro r2 r3))
          clear e2 hsm hqq r1 r2 r3
          go_wp2_with fail
          refine HPC.out.mono ?_
          rintro e w3 ⟨rfl, s3, g3⟩
          rw [HQQ.out] at s3 ⊢
          have H1 : Hid (RmI w1 w3 jb w1.heap.size n q3 last l ms a on cap ow ow) := Lib.hid (HI2.out.turn s3 (g3.mono (fun _ _ h => .inl h)) (by show 0 ≤ q3; have := HI2.out.p0; have := HRR.out.1; omega) (by show (sumP ow : Int) ≤ q3; have := HI2.out.sum; have := HRR.out.1; omega) HRR.out.2.1)
          have e3 := (g3.block rb (Array.getElem?_eq_some_iff.1 HE2.out).1 (fun e => HI2.out.s.noRec HE2.out (.inl e))).trans HE2.out
          have k1 := HK0.out _ H1.out.b
          have v0 := cell_of_blk e3 0
          have v1 := cell_of_blk e3 1
          simp at v0 v1
          have HE3 := Lib.hid e3
          clear s3 g3 HPC e3
          dsimp only
          by_cases hq2 : q2 = 0
          · subst hq2
            by_cases hst : x.stamp = 0
            · have s0 : ((x.stamp : Int) != 0) = false := by rw [hst]; rfl
              go_upto_region 20 with fail
              clear v0 v1
              as_aux_lemma =>
                have he1 := H1.out.fit
                have t8 : decide ((n : Int) < ((l).length : Int)) = false := decide_eq_false (by omega)
                have t8n : decide (n < (l).length) = false := decide_eq_false (by omega)
                have t9 : decide ((n : Int) - ((l).length : Int) < q3) = false := decide_eq_false (by have := H1.out.p0; omega)
                clear he1
                go_wp2_with fail
                refine (dkLen_any H1.out.s.d).mono ?_
                rintro e w8 ⟨rfl, rfl⟩
                go_wp2_with fail
                refine (dkLeft_any H1.out.s.d).mono ?_
                rintro e w9 ⟨rfl, b9⟩
                have H9 := Lib.hid (H1.out.below b9)
                clear b9
                go_wp2_with fail
                refine (jPromised_any H9.out.s.j).mono ?_
                rintro e w8 ⟨rfl, rfl⟩
                go_wp2_with fail
                exact ⟨⟨a, on, cap, i + 1, mk, q3, last, ow, l, ms, by omega, rfl, by first | rfl | go_num, by go_num, by omega, Lib.hid ⟨H9.out, by have h9 := HX.out; omega, by have h9 := HX.out; omega⟩⟩, by simp [intOf]; omega⟩
            · have s0 : ((x.stamp : Int) != 0) = true := by simp; omega
              have HST := Lib.hid hst
              clear hst
              go_upto_region 19 with fail
              have H1B := Lib.hid (H1.out.below (below_box w3 (.cells #[.int .u64 x.stamp, .slice x.a x.ws.length x.cap] 35)))
              have HNB : Hid ((w3.alloc (.cells #[.int .u64 x.stamp, .slice x.a x.ws.length x.cap] 35)).heap[w3.heap.size]? = some (.cells #[.int .u64 x.stamp, .slice x.a x.ws.length x.cap] 35)) := Lib.hid (heap_new w3 _)
              clear k1
              go_upto_region 20 with (first | (at_builtin; refine wpList_appOff rfl (.tmp 104) (.tmp 106) rfl rfl H1B.out.o w3.heap.size x rfl HNB.out (by have := HX.out; omega) H1B.out.b.size ?_; intro a2 cap2 w4 o4 g4; have HO2 := Lib.hid (And.intro o4 g4); clear o4 g4) | fail)
              have HMX : Hid (max x.stamp 1 = x.stamp) := Lib.hid (by have := HST.out; omega)
              have H2 : Hid (RmI w1 w4 jb w1.heap.size n q3 last l ms a2 (on + 1) cap2 (ow ++ [x]) (ow ++ [x])) := Lib.hid (by
                have h9 := HRR.out.2.2 rfl
                rw [HMX.out] at h9
                refine H1B.out.owe HO2.out.1 HO2.out.2 ⟨HST.out, HXO.out.1, HXO.out.2.1, HQ.out.symm, h9.1⟩ ?_
                have := h9.2
                have := HI2.out.sum
                omega)
              clear v0 v1
              have k1 := HK0.out _ H2.out.b
              as_aux_lemma =>
                have he1 := H2.out.fit
                have t8 : decide ((n : Int) < ((l).length : Int)) = false := decide_eq_false (by omega)
                have t8n : decide (n < (l).length) = false := decide_eq_false (by omega)
                have t9 : decide ((n : Int) - ((l).length : Int) < q3) = false := decide_eq_false (by have := H2.out.p0; omega)
                clear he1
                go_wp2_with fail
                refine (dkLen_any H2.out.s.d).mono ?_
                rintro e w8 ⟨rfl, rfl⟩
                go_wp2_with fail
                refine (dkLeft_any H2.out.s.d).mono ?_
                rintro e w9 ⟨rfl, b9⟩
                have H9 := Lib.hid (H2.out.below b9)
                clear b9
                go_wp2_with fail
                refine (jPromised_any H9.out.s.j).mono ?_
                rintro e w8 ⟨rfl, rfl⟩
                go_wp2_with fail
                exact ⟨⟨a2, (on + 1), cap2, i + 1, mk, q3, last, (ow ++ [x]), l, ms, by omega, rfl, by first | rfl | go_num, by go_num, by omega, Lib.hid ⟨H9.out, by have h9 := HX.out; simp only [List.length_append, List.length_cons, List.length_nil]; omega, by have h9 := HX.out; omega⟩⟩, by simp [intOf]; omega⟩
          · have s0 : (q2 == 0) = false := by simp; exact hq2
            clear v0 v1
            as_aux_lemma =>
              have he1 := H1.out.fit
              have t8 : decide ((n : Int) < ((l).length : Int)) = false := decide_eq_false (by omega)
              have t8n : decide (n < (l).length) = false := decide_eq_false (by omega)
              have t9 : decide ((n : Int) - ((l).length : Int) < q3) = false := decide_eq_false (by have := H1.out.p0; omega)
              clear he1
              go_wp2_with fail
              refine (dkLen_any H1.out.s.d).mono ?_
              rintro e w8 ⟨rfl, rfl⟩
              go_wp2_with fail
              refine (dkLeft_any H1.out.s.d).mono ?_
              rintro e w9 ⟨rfl, b9⟩
              have H9 := Lib.hid (H1.out.below b9)
              clear b9
              go_wp2_with fail
              refine (jPromised_any H9.out.s.j).mono ?_
              rintro e w8 ⟨rfl, rfl⟩
              go_wp2_with fail
              exact ⟨⟨a, on, cap, i + 1, mk, q3, last, ow, l, ms, by omega, rfl, by first | rfl | go_num, by go_num, by omega, Lib.hid ⟨H9.out, by have h9 := HX.out; omega, by have h9 := HX.out; omega⟩⟩, by simp [intOf]; omega⟩
      · have hz : (decide ((0 : Int) < (rn : Int)) = false ∧ decide (0 < rn) = false) ∨ ((decide ((0 : Int) < (rn : Int)) = true ∧ decide (0 < rn) = true) ∧ (p.tmod 3 == 0) = false) := by
          by_cases hr : 0 < rn
          · exact .inr ⟨⟨decide_eq_true (by omega), decide_eq_true hr⟩, by simp; exact fun e => h0 ⟨e, hr⟩⟩
          · exact .inl ⟨decide_eq_false (by omega), decide_eq_false hr⟩
        have z1 : (p.tmod 3 == 1) = false := by simp; exact h1
        have z2 : (p.tmod 3 == 2) = false := by simp; exact h2
        clear h0 h1 h2 hHX hl2 ho1
        rcases hz with ⟨zr, zq⟩ | ⟨⟨zr, zq⟩, z0⟩
        · as_aux_lemma =>
            have he1 := HI.out.fit
            have t8 : decide ((n : Int) < ((l).length : Int)) = false := decide_eq_false (by omega)
            have t8n : decide (n < (l).length) = false := decide_eq_false (by omega)
            have t9 : decide ((n : Int) - ((l).length : Int) < prom) = false := decide_eq_false (by have := HI.out.p0; omega)
            clear he1
            go_wp2_with fail
            refine (dkLen_any HI.out.s.d).mono ?_
            rintro e w8 ⟨rfl, rfl⟩
            go_wp2_with fail
            refine (dkLeft_any HI.out.s.d).mono ?_
            rintro e w9 ⟨rfl, b9⟩
            have H9 := Lib.hid (HI.out.below b9)
            clear b9
            go_wp2_with fail
            refine (jPromised_any H9.out.s.j).mono ?_
            rintro e w8 ⟨rfl, rfl⟩
            go_wp2_with fail
            exact ⟨⟨a, on, cap, i + 1, mk, prom, last, ow, l, ms, by omega, rfl, by first | rfl | go_num, by go_num, by omega, Lib.hid ⟨H9.out, by have h9 := HX.out; omega, by have h9 := HX.out; omega⟩⟩, by simp [intOf]; omega⟩
        · as_aux_lemma =>
            have he1 := HI.out.fit
            have t8 : decide ((n : Int) < ((l).length : Int)) = false := decide_eq_false (by omega)
            have t8n : decide (n < (l).length) = false := decide_eq_false (by omega)
            have t9 : decide ((n : Int) - ((l).length : Int) < prom) = false := decide_eq_false (by have := HI.out.p0; omega)
            clear he1
            go_wp2_with fail
            refine (dkLen_any HI.out.s.d).mono ?_
            rintro e w8 ⟨rfl, rfl⟩
            go_wp2_with fail
            refine (dkLeft_any HI.out.s.d).mono ?_
            rintro e w9 ⟨rfl, b9⟩
            have H9 := Lib.hid (HI.out.below b9)
            clear b9
            go_wp2_with fail
            refine (jPromised_any H9.out.s.j).mono ?_
            rintro e w8 ⟨rfl, rfl⟩
            go_wp2_with fail
            exact ⟨⟨a, on, cap, i + 1, mk, prom, last, ow, l, ms, by omega, rfl, by first | rfl | go_num, by go_num, by omega, Lib.hid ⟨H9.out, by have h9 := HX.out; omega, by have h9 := HX.out; omega⟩⟩, by simp [intOf]; omega⟩
    · obtain rfl : i = pn := by omega
      have ho1 : on = ow.length := HI.out.o.1
      have ho6 : on ≤ 60 := by have := HX.out.1; omega
      go_upto_region 30 with fail
      as_aux_lemma =>
        go_loopw [19] (fun vj wr => ∃ (j : Nat) (prom2 : Int) (l2 : List UInt8), j ≤ on ∧ vj = .int .i64 j ∧ Hid (RmI w1 wr jb w1.heap.size n prom2 last l2 ms a on cap ow (ow.drop j))) (fun vj _ => on - (intOf vj).toNat)
        case atStart => exact ⟨0, prom, l, by omega, rfl, HI⟩
        case round =>
          obtain ⟨j, prom2, l2, hj, rfl, HJ⟩ := hrel
          clear HI
          by_cases hjo : j < on
          · have hjz : (j : Int) < (on : Int) := by omega
            obtain ⟨x, hx⟩ : ∃ x, ow[j]? = some x := ⟨_, List.getElem?_eq_getElem (by omega)⟩
            obtain ⟨g, off, hga, hgB, hgc⟩ := HJ.out.o.at' (fun e => by rw [e] at hx; simp at hx)
            subst hga
            obtain ⟨c0, c1⟩ := hgc j x hx
            obtain ⟨hj9, hxe⟩ := List.getElem?_eq_some_iff.1 hx
            have hdr : ow.drop j = x :: ow.drop (j + 1) := by rw [List.drop_eq_getElem_cons hj9, hxe]
            have HOW := Lib.hid (HJ.out.ok x (List.mem_of_getElem? hx))
            obtain ⟨ap1, ap2, ap3, ap4⟩ := appR_rm (n := n) (len := l2.length) (prom := prom2) (s := sumP (ow.drop (j + 1))) HOW.out.ok (by have := HJ.out.sum; rw [hdr, sumP_cons] at this; exact this) HJ.out.fit
            have hsm := small_two (st := x.stamp) HOW.out.sm
            have hl2 := HJ.out.prom2 (by omega)
            have HAP : Hid (Calls Try.prog 56 #[.pointer (some ⟨jb, 0, none⟩), .agg #[.int .u64 x.stamp, .slice x.a x.ws.length x.cap]] wr (JAppPost wr jb w1.heap.size n 0 prom2 last w1.heap.size l2 ms ⟨x.stamp, x.ws⟩)) := Lib.hid (jAppend_any HJ.out.s HJ.out.b.size HJ.out.p0 (by omega) x.stamp x.a x.cap x.ws.length x.ws rfl (HOW.out.ws.below HJ.out.b) HOW.out.sb (by omega) (by rw [pack_len]; omega))
            have HAQ := Lib.hid (And.intro ap1 (And.intro ap2 (And.intro ap3 ap4)))
            clear hgc hsm ap1 ap2 ap3 ap4 ho1 hl2 hdr hx hxe hgB
            go_wp2_with fail
            refine HAP.out.mono ?_
            rintro e w3 ⟨rfl, s3, g3, _⟩
            rw [HAQ.out.1] at s3 ⊢
            obtain ⟨p3, hp3⟩ : ∃ q, q = prom2 - ((packL 1 (bodyL x.stamp x.ws)).length : Nat) := ⟨_, rfl⟩
            obtain ⟨l3, hl3⟩ : ∃ q, q = l2 ++ packL 1 (bodyL x.stamp x.ws) := ⟨_, rfl⟩
            have H3 : Hid (RmI w1 w3 jb w1.heap.size n p3 last l3 ms (some ⟨g, off, none⟩) on cap ow (ow.drop (j + 1))) := Lib.hid (by
              rw [hp3, hl3]
              exact HJ.out.turn s3 (g3.mono (fun _ _ h => h.elim .inl (fun q => q.elim (fun q => .inr (.inl q)) (fun q => .inr (.inr (.inl q)))))) HAQ.out.2.1 HAQ.out.2.2.1 (by rw [List.length_append]; exact HAQ.out.2.2.2))
            clear hp3 hl3 s3 g3 c0 c1
            go_wp2_with fail
            exact ⟨⟨j + 1, p3, l3, by omega, by go_num, H3⟩, by simp [intOf]; omega⟩
          · obtain rfl : j = on := by omega
            have he1 := HJ.out.fit.1
            have t8 : decide ((l2.length : Int) ≤ (n : Int)) = true := decide_eq_true (by omega)
            have t8n : decide (l2.length ≤ n) = true := decide_eq_true (by omega)
            clear he1
            go_wp2_with fail
            refine (dkLen_any HJ.out.s.d).mono ?_
            rintro e w8 ⟨rfl, rfl⟩
            have HBE := Lib.hid (below_then HB1.out HJ.out.b)
            go_wp2_with fail
            go_ret
            exact ⟨rfl, HBE.out⟩
end Go.Proofs.Ytcghgnncmnoalaa
