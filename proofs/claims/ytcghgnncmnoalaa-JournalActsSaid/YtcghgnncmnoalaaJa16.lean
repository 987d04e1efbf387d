/- JournalActs. Conditions: none. -/
import Derived.Test.YtcghgnncmnoalaaJaB
namespace Go.Proofs.Ytcghgnncmnoalaa
open Go.RowKit Go.Maps

theorem wpAnyH_narrow {P : Program} {md : Region.Mode} {ops : Array Oper} {Q : Exit → Act → World → Prop} {S S' : World → Prop} (hs : ∀ w, S' w → S w) :
    ∀ (fuel : Nat) (listed : Array Bool) (a : Act) (w : World), wpAnyH P md ops Q S' fuel listed a w → wpAnyH P md ops Q S fuel listed a w
  | 0, _, _, _, h => h
  | fuel + 1, _, _, _, h => ⟨h.1, fun i hi => wpOp_mono (fun a' w' h' => ⟨hs _ h'.1, wpAnyH_narrow hs fuel _ a' w' h'.2⟩) (h.2 i hi)⟩
/-- an act -/
structure Ac where
  kd : Int
  k : Int
  st : Nat
  a : Option Addr
  cap : Nat
  ws : List Wr
/-- acts of an argument -/
def AcM (w : World) (a : Option Addr) (l : List Ac) : Prop := l ≠ [] → ∃ b off, a = some ⟨b, off, none⟩ ∧ b < w.heap.size ∧ ∀ (i : Nat) (x : Ac), l[i]? = some x → (x.st < 18446744073709551616 ∧ WsV w x.a x.ws ∧ x.ws.length ≤ maxLen ∧ I64 x.k) ∧
  w.cell? ⟨b, off + i * 4, none⟩ = some (.int .i64 x.kd) ∧ w.cell? ⟨b, off + i * 4 + 1, none⟩ = some (.int .i64 x.k) ∧ w.cell? ⟨b, off + i * 4 + 2, none⟩ = some (.int .u64 x.st) ∧ w.cell? ⟨b, off + i * 4 + 3, none⟩ = some (.slice x.a x.ws.length x.cap)
theorem AcM.below {w w' : World} {a : Option Addr} {l : List Ac} (h : AcM w a l) (hb : Below w.heap.size w w') : AcM w' a l := fun hn => by
  obtain ⟨b, off, e, hl, hc⟩ := h hn
  refine ⟨b, off, e, Nat.lt_of_lt_of_le hl hb.size, fun i x hx => ?_⟩
  obtain ⟨⟨h1, h2, h3, h4⟩, h5, h6, h7, h8⟩ := hc i x hx
  exact ⟨⟨h1, h2.below hb, h3, h4⟩, below_cell hb _ hl h5, below_cell hb _ hl h6, below_cell hb _ hl h7, below_cell hb _ hl h8⟩
/-- b[:n] of an argument's bytes -/
theorem run_slicePB (a : Option Addr) (cap len i : Nat) (h1 : i ≤ cap) (w : World) :
    (Instr.sliceAt 22 (.slice a len cap) none (some (.int .i64 i)) none).run Try.prog w = .ok (.slice a i cap) w := by
  have hz : (i : Int) ≤ (cap : Int) := by omega
  cases a <;> simp [Instr.sliceAt, go_sem, Try.underlying22, hz]
theorem PJ.start {n : Nat} {T : List UInt8} {found : Int} (h : T.length ≤ n) : PJ n T found 0 [] 0 T.length T [(found, (T.length : Int))] :=
  ⟨by simp [pcB], by simp [mks], by simp [pcN], by omega, ⟨h, .inl rfl⟩, fun p hp => by cases hp⟩
/-- the box of a new reference journal -/
theorem RJ.start {W : World} {rb n cap B : Nat} {la : Int} {oa : Option Addr} {T : List UInt8} (e : W.heap[rb]? = some (.cells #[.int .i64 n, .int .i64 0, .int .i64 la, .int .i64 la, .slice oa T.length cap, .slice none 0 0, .int .i64 0] 117)) (ho : OldV W B oa T) (hc : T.length ≤ cap) (hB : B ≤ rb) (hn : n ≤ 1000000) (hT : T.length ≤ 1000000) :
    RJ W rb n 0 la la T [] 0 B := ⟨⟨oa, cap, none, 0, e, ho, hc, RowK.Own.nil (k := kP) W B⟩, fun p hp => (by cases hp), hB, hn, hT, by simp [pcN], by simp, by simp⟩
theorem turnN (c : Nat) (hc : 0 < c) (hc2 : c ≤ 100000) (on : Nat) (ho : on ≤ 100000) (x : Int) : ∃ N : Nat, wrap64 ((on : Int) + (wrap64 (x.tmod c + c)).tmod c) = N ∧ on ≤ N ∧ N < on + c := by
  have h1 : x.tmod c < c := Int.tmod_lt_of_pos x (by omega)
  have h2 : -(c : Int) < x.tmod c := by
    have := Int.tmod_lt_of_pos (-x) (show (0 : Int) < (c : Int) by omega)
    rw [Int.neg_tmod] at this
    omega
  obtain ⟨t, ht⟩ : ∃ t, x.tmod c = t := ⟨_, rfl⟩
  rw [ht] at h1 h2 ⊢
  have e1 : wrap64 (t + c) = t + c := by unfold wrap64; omega
  rw [e1, Int.tmod_eq_emod_of_nonneg (by omega)]
  have h3 : 0 ≤ (t + c) % (c : Int) := Int.emod_nonneg _ (by omega)
  have h4 : (t + c) % (c : Int) < (c : Int) := Int.emod_lt_of_pos _ (by omega)
  obtain ⟨k, hk⟩ := Int.eq_ofNat_of_zero_le h3
  rw [hk] at h4 ⊢
  have e2 : wrap64 ((on : Int) + (k : Int)) = on + k := by unfold wrap64; omega
  exact ⟨on + k, by rw [e2]; omega, by omega, by omega⟩
set_option maxRecDepth 100000 in
set_option maxHeartbeats 8000000 in
theorem jacts_any (oa : Option Addr) (ocap : Nat) (l : List UInt8) (room : Int) (aa : Option Addr) (acap : Nat) (al : List Ac) (w : World) (h : BsV w oa l) (hc : l.length ≤ ocap) (hr : I64 room) (ha : AcM w aa al) (hal : al.length ≤ maxLen) :
    Calls Try.prog 13 #[.slice oa l.length ocap, .int .i64 room, .slice aa al.length acap] w (BoolPost w true) := by
  unfold maxLen at hal
  have HB := Lib.hid h
  have HA := Lib.hid ha
  clear h ha
  obtain ⟨on, hon⟩ : ∃ n, n = l.length := ⟨_, rfl⟩
  obtain ⟨an, han⟩ : ∃ n, n = al.length := ⟨_, rfl⟩
  rw [← hon] at hc ⊢
  rw [← han] at hal ⊢
  have HN := Lib.hid hon
  have HAN := Lib.hid han
  clear hon han
  go_enter Try.func13, Try.ntmps13
  go_wp2_with fail
  (with_reducible refine (awake15_any _).mono ?_)
  rintro e w1 ⟨rfl, b1⟩
  have HB1 := Lib.hid b1
  clear b1
  by_cases hbk : 60 < an
  · have t2 : decide ((60 : Int) < (an : Int)) = true := decide_eq_true (by omega)
    go_wp2_with fail
    (with_reducible refine (awake15_any _).mono ?_)
    rintro e w2 ⟨rfl, b2⟩
    have HB2 := Lib.hid b2
    clear b2
    go_wp2_with fail
    go_ret
    exact ⟨rfl, below_then HB1.out HB2.out⟩
  have t2 : decide ((60 : Int) < (an : Int)) = false := decide_eq_false (by omega)
  by_cases hbig : 3000 < on
  · have t1 : decide ((3000 : Int) < (on : Int)) = true := decide_eq_true (by omega)
    go_wp2_with fail
    (with_reducible refine (awake15_any _).mono ?_)
    rintro e w2 ⟨rfl, b2⟩
    have HB2 := Lib.hid b2
    clear b2
    go_wp2_with fail
    go_ret
    exact ⟨rfl, below_then HB1.out HB2.out⟩
  have t1 : decide ((3000 : Int) < (on : Int)) = false := decide_eq_false (by omega)
  obtain ⟨n, hn, hn1, hn2⟩ := turnN 1000 (by omega) (by omega) on (by omega) room
  have HNE := Lib.hid hn
  obtain ⟨ra, rb9⟩ := hr
  clear hn
  go_upto_region 4 with fail
  rw [show wrap64 ((on : Int) + (wrap64 (room.tmod 1000 + 1000)).tmod 1000) = (n : Int) from HNE.out]
  go_wp2_with fail
  refine (dkNew_any n (by omega) w1).mono ?_
  rintro e w2 ⟨rfl, d2, b2⟩
  have HD2 := Lib.hid d2
  have HB2 := Lib.hid b2
  clear d2 b2 t1 t2
  obtain ⟨W3, hW3⟩ : ∃ W3, w2.alloc (.cells #[.slice oa on ocap] 22) = W3 := ⟨_, rfl⟩
  have b3 : Below w2.heap.size w2 W3 := by rw [← hW3]; exact below_box _ _
  have e3 : W3.heap[w2.heap.size]? = some (.cells #[.slice oa on ocap] 22) := by rw [← hW3]; exact heap_new _ _
  have HB3 := Lib.hid (below_then HB2.out b3)
  have HDA : Hid (Calls Try.prog 66 #[.pointer (some ⟨w1.heap.size, 0, none⟩), .slice (some ⟨w2.heap.size, 0, none⟩) 1 1] W3 (DkAppPost W3 w1.heap.size n 0 w1.heap.size [] l)) := Lib.hid (dkAppend_any (HD2.out.below b3) HB3.out.size w2.heap.size oa on ocap l e3 (fun e => by
    rw [dob_below HD2.out b3] at e
    have := (HD2.out.ob e).2.1
    omega) HN.out ((HB.out.below HB1.out).below (HB3.out)) (by have := HN.out; simp; omega))
  have HDO : Hid (∀ j, j = w1.heap.size ∨ dob W3 w1.heap.size = some j → w1.heap.size ≤ j) := Lib.hid (fun j hj => hj.elim (fun q => by rw [q]; exact Nat.le_refl _) (fun q => ((HD2.out.below b3).ob q).1))
  have HW3 := Lib.hid hW3
  clear hW3 b3 e3
  go_upto_region 5 with fail
  go_wp2_with fail
  rw [HW3.out]
  refine HDA.out.mono ?_
  rintro e w4 ⟨hy, _⟩
  obtain ⟨rfl, d4, g4, _⟩ := hy (by have := HN.out; simp; omega)
  have HD4 : Hid (DkS w4 w1.heap.size n 0 w1.heap.size l) := Lib.hid d4
  have HB4 : Hid (Below w1.heap.size w1 w4) := Lib.hid (HB3.out.trans (g4.below HB3.out.size HDO.out))
  have HBV4 : Hid (BsV w4 oa l) := Lib.hid ((HB.out.below HB1.out).below HB4.out)
  have HR4 : Hid (Calls Try.prog 17 #[.slice oa on ocap] w4 (RecvPost2 w4 l)) := Lib.hid (by
    rw [HN.out]
    exact r14recover_any oa ocap l w4 HBV4.out (by have := HN.out; omega) (by have := HN.out; omega))
  clear hy d4 g4 HW3 HDA HDO HB3 HD2
  go_wp2_with fail
  refine HR4.out.mono ?_
  rintro e w5 ⟨a5, c5, rs5, rfl, r5, m5, l5, b5⟩
  have HD5 := Lib.hid (HD4.out.below b5)
  have HB5 := Lib.hid (below_then HB4.out b5)
  obtain ⟨rn5, hrn5⟩ : ∃ x, x = rs5.length := ⟨_, rfl⟩
  rw [← hrn5]
  obtain ⟨la, hla⟩ : ∃ x, x = (lgN l).last := ⟨_, rfl⟩
  obtain ⟨cu, hcu⟩ : ∃ x, x = (lgN l).cut := ⟨_, rfl⟩
  have hcl := cut_le l
  rw [← hla, ← hcu]
  rw [← hcu] at hcl
  have HR5 := Lib.hid r5
  have HM5 := Lib.hid m5
  have HRN5 := Lib.hid hrn5
  have HCU := Lib.hid (And.intro hla (And.intro hcu hcl))
  clear r5 m5 l5 b5 hrn5 hla hcu hcl HR4 HB4 HD4
  go_wp2_with fail
  refine (jOpen_any HD5.out HB5.out.size).mono ?_
  rintro e w6 ⟨jb, a6, c6, rs6, rfl, r6, _, m6, l6, hjb, s6, g6⟩
  obtain ⟨T, hT⟩ : ∃ T, T = l.take cu := ⟨_, rfl⟩
  have hTl : T.length = cu := by rw [hT, List.length_take]; have := HCU.out.2.2; omega
  rw [← HCU.out.1, ← HCU.out.2.1, ← hT] at s6
  have HS6 : Hid (JS w6 jb w1.heap.size n cu 0 la w1.heap.size T [(la, (cu : Int))]) := Lib.hid s6
  have HB6 : Hid (Below w1.heap.size w1 w6) := Lib.hid (HB5.out.trans (g6.below HB5.out.size (fun i hi => by rw [hi]; exact Nat.le_refl _)))
  have HJB : Hid (w1.heap.size ≤ jb) := Lib.hid (Nat.le_trans HB5.out.size hjb)
  obtain ⟨rn6, hrn6⟩ : ∃ x, x = rs6.length := ⟨_, rfl⟩
  rw [← hrn6]
  have HALL : Hid (Calls Try.prog 18 #[.slice a6 rn6 c6, .slice a5 rn5 c5] w6 (BoolPost w6 true)) := Lib.hid (all14_at a6 a5 c6 c5 rn6 rn5 rs6 rs5 w6 hrn6 HRN5.out r6 (HR5.out.off HD5.out g6) (m6.trans HM5.out.symm) l6)
  have HT := Lib.hid (And.intro hT hTl)
  clear r6 m6 l6 hjb s6 g6 hrn6 hT hTl
  go_wp2_with fail
  refine (jOpen_nil _).mono ?_
  rintro e w7 ⟨rfl, rfl⟩
  go_wp2_with fail
  refine HALL.out.mono ?_
  rintro e w7 ⟨rfl, b7⟩
  have HS7 := Lib.hid (HS6.out.below b7)
  have HB7 := Lib.hid (below_then HB6.out b7)
  have hcuo : cu ≤ ocap := by have := HCU.out.2.2; have := HN.out; omega
  obtain ⟨rb, hrb⟩ : ∃ x, x = w7.heap.size := ⟨_, rfl⟩
  obtain ⟨W8, hW8⟩ : ∃ W8, w7.alloc (.cells #[.int .i64 n, .int .i64 0, .int .i64 la, .int .i64 la, .slice oa cu ocap, .slice none 0 0, .int .i64 0] 117) = W8 := ⟨_, rfl⟩
  have b8 : Below w7.heap.size w7 W8 := by rw [← hW8]; exact below_box _ _
  have e8 : W8.heap[rb]? = some (.cells #[.int .i64 n, .int .i64 0, .int .i64 la, .int .i64 la, .slice oa cu ocap, .slice none 0 0, .int .i64 0] 117) := by rw [← hW8, hrb]; exact heap_new _ _
  have HJ0 : Hid (JA w1 W8 jb w1.heap.size rb n la T 0 la [] 0 cu T [(la, (cu : Int))]) := Lib.hid (by
    have hbb := below_then HB7.out b8
    refine ⟨HS7.out.below b8, ?_, hbb, fun p hp => (by cases hp), ?_, HJB.out, Nat.le_refl _⟩
    · refine RJ.start (oa := oa) (cap := ocap) (by rw [HT.out.2]; exact e8) (fun hTn => ?_) (by rw [HT.out.2]; exact hcuo) (by rw [hrb]; exact HB7.out.size) (by omega) (by rw [HT.out.2]; have := HCU.out.2.2; have := HN.out; omega)
      have hln : l ≠ [] := fun e => by rw [HT.out.1, e] at hTn; simp at hTn
      obtain ⟨b, off, e, hat⟩ := (HB.out.below HB1.out) hln
      refine ⟨b, off, e, hat.lt, ?_⟩
      rw [HT.out.1]
      exact (hat.below hbb).take _
    · have := PJ.start (n := n) (T := T) (found := la) (by rw [HT.out.2]; have := HCU.out.2.2; have := HN.out; omega)
      rw [HT.out.2] at this
      exact this)
  have HW8 := Lib.hid hW8
  have HRB := Lib.hid hrb
  clear b7 HALL HS6 HB6 hW8 b8 e8 hrb HS7 HR5 HM5 HRN5 HD5 HB5 HB7
  go_upto_region 12 with fail
  go_wp2_with (refine wpList_sliceBP rfl _ _ rfl _ (.slice oa cu ocap) (cu : Int) rfl rfl (run_slicePB oa ocap on cu hcuo _) ?_)
  rw [HW8.out, ← HRB.out]
  clear HW8 HRB
  go_loopw [20] (fun vi wr => ∃ (i : Nat) (prom last : Int) (ps : List Pc) (sf safe : Nat) (l9 : List UInt8) (ms : List (Int × Int)), i ≤ an ∧ vi = .int .i64 i ∧ Hid (JA w1 wr jb w1.heap.size rb n la T prom last ps sf safe l9 ms ∧ ps.length ≤ i)) (fun vi _ => an - (intOf vi).toNat)
  case atStart => exact ⟨0, 0, la, [], 0, cu, T, _, by omega, rfl, Lib.hid ⟨HJ0.out, by simp⟩⟩
  case round =>
    obtain ⟨i, prom, last, ps, sf, safe, l9, ms, hi, rfl, HI⟩ := hrel
    clear HJ0
    by_cases hik : i < an
    · have hikz : (i : Int) < (an : Int) := by omega
      obtain ⟨x, hx⟩ : ∃ x, al[i]? = some x := ⟨_, List.getElem?_eq_getElem (by have := HAN.out; omega)⟩
      have HBA := Lib.hid (below_then HB1.out HI.out.1.b)
      obtain ⟨ab, aoff, haa, _, hat⟩ := (HA.out.below HB1.out) (fun e => by rw [e] at hx; simp at hx)
      obtain ⟨hxo, hx0, hx1, hx2, hx3⟩ := hat i x hx
      subst haa
      obtain ⟨o, ho⟩ : ∃ o, o = aoff + i * 4 := ⟨_, rfl⟩
      rw [← ho] at hx0 hx1 hx2 hx3
      have c0 := below_cell HI.out.1.b _ (World.block_lt_of_cell? w1 ⟨ab, o, none⟩ hx0) hx0
      have c1 := below_cell HI.out.1.b _ (World.block_lt_of_cell? w1 ⟨ab, o + 1, none⟩ hx1) hx1
      have c2 := below_cell HI.out.1.b _ (World.block_lt_of_cell? w1 ⟨ab, o + 2, none⟩ hx2) hx2
      have c3 := below_cell HI.out.1.b _ (World.block_lt_of_cell? w1 ⟨ab, o + 3, none⟩ hx3) hx3
      have HXO := Lib.hid hxo
      have HCC := Lib.hid (And.intro hx0 (And.intro hx1 (And.intro hx2 hx3)))
      have HO := Lib.hid ho
      clear hx hat hxo hx0 hx1 hx2 hx3
      rw [ho] at c0 c1 c2 c3
      go_wp2_with fail
      (with_reducible refine (jsmall_any x.kd x.k x.st x.a x.cap x.ws _ (HXO.out.2.1.below HI.out.1.b) HXO.out.2.2.1).mono ?_)
      rintro e w9 ⟨rfl, b9⟩
      obtain ⟨q, hq⟩ : ∃ q, q = smallW 10 200 x.ws := ⟨_, rfl⟩
      rw [← hq]
      have HQ := Lib.hid hq
      have HI9 := Lib.hid (And.intro (HI.out.1.below b9) HI.out.2)
      replace c0 := below_cell b9 _ (World.block_lt_of_cell? wr _ c0) c0
      replace c1 := below_cell b9 _ (World.block_lt_of_cell? wr _ c1) c1
      replace c2 := below_cell b9 _ (World.block_lt_of_cell? wr _ c2) c2
      replace c3 := below_cell b9 _ (World.block_lt_of_cell? wr _ c3) c3
      have HB9 := Lib.hid (below_then HBA.out b9)
      clear b9 hq
      cases q
      · clear c0 c1 c2 c3
        go_wp2_with fail
        go_ret
        exact ⟨rfl, HB9.out⟩
      · have HC9 : Hid (w9.cell? ⟨ab, aoff + i * 4, none⟩ = some (.int .i64 x.kd) ∧ w9.cell? ⟨ab, aoff + i * 4 + 1, none⟩ = some (.int .i64 x.k) ∧ w9.cell? ⟨ab, aoff + i * 4 + 2, none⟩ = some (.int .u64 x.st) ∧ w9.cell? ⟨ab, aoff + i * 4 + 3, none⟩ = some (.slice x.a x.ws.length x.cap)) := Lib.hid ⟨c0, c1, c2, c3⟩
        clear c0 c1 c2 c3
        go_upto_region 18 with fail
        have HCC' : Hid (w1.cell? ⟨ab, aoff + i * 4, none⟩ = some (.int .i64 x.kd) ∧ w1.cell? ⟨ab, aoff + i * 4 + 1, none⟩ = some (.int .i64 x.k) ∧ w1.cell? ⟨ab, aoff + i * 4 + 2, none⟩ = some (.int .u64 x.st) ∧ w1.cell? ⟨ab, aoff + i * 4 + 3, none⟩ = some (.slice x.a x.ws.length x.cap)) := Lib.hid (by rw [← HO.out]; exact HCC.out)
        clear HCC HI
        refine wp_region_held_drew (S := (fun w' : World => w'.cell? ⟨ab, aoff + i * 4, none⟩ = some (.int .i64 x.kd) ∧ w'.cell? ⟨ab, aoff + i * 4 + 1, none⟩ = some (.int .i64 x.k) ∧ w'.cell? ⟨ab, aoff + i * 4 + 2, none⟩ = some (.int .u64 x.st) ∧ w'.cell? ⟨ab, aoff + i * 4 + 3, none⟩ = some (.slice x.a x.ws.length x.cap))) (by kernel_rfl) (HC9.out) (fun hHeld => ?_)
        obtain ⟨X, hGen⟩ : ∃ u, u = World.drew w9 := ⟨_, rfl⟩
        rw [← hGen] at hHeld ⊢
        have HI0 : Hid (JA w1 X jb w1.heap.size rb n la T prom last ps sf safe l9 ms ∧ ps.length ≤ i) := Lib.hid ⟨by rw [hGen]; exact HI9.out.1.below (below_drewN (Below.refl _ _) 1), HI9.out.2⟩
        clear hGen
        refine wpAnyH_take (i := 0) (oi := ⟨some 121, _, _, _, _, _⟩) (v := ?vvpc1) rfl (by kernel_rfl) (by kernel_rfl) (by kernel_rfl) (fun _ _ _ h => h) (Or.inl ⟨by rfl, ?yypc1⟩) hHeld ?rrpc1
        case yypc1 => (intro wq hSw; (try dsimp only at hSw); go_simp; first | done | with_reducible rfl)
        simp only [Act.put, List.setIfInBounds_toArray, List.set_cons_zero, List.set_cons_succ]
        refine wpAnyH_take (i := 1) (oi := ⟨some 122, _, _, _, _, _⟩) (v := ?vvpc2) rfl (by kernel_rfl) (by kernel_rfl) (by kernel_rfl) (fun _ _ _ h => h) (Or.inl ⟨by rfl, ?yypc2⟩) hHeld ?rrpc2
        case yypc2 => (intro wq hSw; (try dsimp only at hSw); go_simp; first | done | with_reducible rfl)
        simp only [Act.put, List.setIfInBounds_toArray, List.set_cons_zero, List.set_cons_succ]
        refine wpAnyH_take (i := 2) (oi := ⟨some 123, _, _, _, _, _⟩) (v := ?vvpc3) rfl (by kernel_rfl) (by kernel_rfl) (by kernel_rfl) (fun _ _ _ h => h) (Or.inl ⟨by rfl, ?yypc3⟩) hHeld ?rrpc3
        case yypc3 => (intro wq hSw; (try dsimp only at hSw); go_simp; first | done | with_reducible rfl)
        simp only [Act.put, List.setIfInBounds_toArray, List.set_cons_zero, List.set_cons_succ]
        refine wpAnyH_take (i := 3) (oi := ⟨some 124, _, _, _, _, _⟩) (v := ?vvpc4) rfl (by kernel_rfl) (by kernel_rfl) (by kernel_rfl) (fun _ _ _ h => h) (Or.inl ⟨by rfl, ?yypc4⟩) hHeld ?rrpc4
        case yypc4 => (intro wq hSw; (try dsimp only at hSw); go_simp; first | done | with_reducible rfl)
        simp only [Act.put, List.setIfInBounds_toArray, List.set_cons_zero, List.set_cons_succ]
        refine wpAnyH_take (i := 4) (oi := ⟨some 125, _, _, _, _, _⟩) (v := ?vvpc5) rfl (by kernel_rfl) (by kernel_rfl) (by kernel_rfl) (fun _ _ _ h => h) (Or.inl ⟨by rfl, ?yypc5⟩) hHeld ?rrpc5
        case yypc5 => (intro wq hSw; (try dsimp only at hSw); go_simp; first | done | with_reducible rfl)
        simp only [Act.put, List.setIfInBounds_toArray, List.set_cons_zero, List.set_cons_succ]
        refine wpAnyH_take (i := 5) (oi := ⟨some 126, _, _, _, _, _⟩) (v := ?vvpc6) rfl (by kernel_rfl) (by kernel_rfl) (by kernel_rfl) (fun _ _ _ h => h) (Or.inl ⟨by rfl, ?yypc6⟩) hHeld ?rrpc6
        case yypc6 => (intro wq hSw; (try dsimp only at hSw); go_simp; first | done | with_reducible rfl)
        simp only [Act.put, List.setIfInBounds_toArray, List.set_cons_zero, List.set_cons_succ]
        refine wpAnyH_ready (rs := [6]) (by kernel_rfl) (by simp) ?_
        refine AllReadyH.cons (o := ⟨some 127, _, _, _, _, _⟩) rfl (fun K hK => ?_) AllReadyH.nil
        go_simp
        refine (jdoes_any HI0.out.1 (by omega) (by have := HI0.out.2; omega) x.kd x.k x.st x.a x.cap x.ws (HXO.out.2.1) HXO.out.1 HQ.out.symm).mono ?_
        rintro e w10 ⟨rfl, prom2, last2, ps2, sf2, safe2, l2, ms2, j2, hp2⟩
        have HJ2 := Lib.hid j2
        have HP2 : Hid (ps2.length ≤ i + 1) := Lib.hid (by have := HI0.out.2; omega)
        have HCJ : Hid (∀ u : World, Below w1.heap.size w1 u → u.cell? ⟨ab, aoff + i * 4, none⟩ = some (.int .i64 x.kd) ∧ u.cell? ⟨ab, aoff + i * 4 + 1, none⟩ = some (.int .i64 x.k) ∧ u.cell? ⟨ab, aoff + i * 4 + 2, none⟩ = some (.int .u64 x.st) ∧ u.cell? ⟨ab, aoff + i * 4 + 3, none⟩ = some (.slice x.a x.ws.length x.cap)) := Lib.hid (fun u hu => ⟨below_cell hu _ (World.block_lt_of_cell? w1 _ HCC'.out.1) HCC'.out.1, below_cell hu _ (World.block_lt_of_cell? w1 _ HCC'.out.2.1) HCC'.out.2.1, below_cell hu _ (World.block_lt_of_cell? w1 _ HCC'.out.2.2.1) HCC'.out.2.2.1, below_cell hu _ (World.block_lt_of_cell? w1 _ HCC'.out.2.2.2) HCC'.out.2.2.2⟩)
        have HK2 : Hid (∀ u : World, JA w1 u jb w1.heap.size rb n la T prom2 last2 ps2 sf2 safe2 l2 ms2 → u.cell? ⟨rb, 2, none⟩ = some (.int .i64 last2) ∧ u.cell? ⟨rb, 1, none⟩ = some (.int .i64 prom2)) := Lib.hid (fun u hu => by obtain ⟨_, _, _, _, e, _⟩ := hu.r.ex; exact ⟨by simpa using cell_of_blk e 2, by simpa using cell_of_blk e 1⟩)
        clear j2 hp2 HI0
        dsimp only
        refine hK.out _ _ ?sspc7 (fun hHeld => ?_)
        case sspc7 => (exact HCJ.out _ HJ2.out.b)
        clear hK K
        try simp only [Act.put, List.setIfInBounds_toArray, List.set_cons_zero, List.set_cons_succ]
        refine wpAnyH_narrow (S' := (fun w' : World => w'.cell? ⟨ab, aoff + i * 4, none⟩ = some (.int .i64 x.kd) ∧ w'.cell? ⟨ab, aoff + i * 4 + 1, none⟩ = some (.int .i64 x.k) ∧ w'.cell? ⟨ab, aoff + i * 4 + 2, none⟩ = some (.int .u64 x.st) ∧ w'.cell? ⟨ab, aoff + i * 4 + 3, none⟩ = some (.slice x.a x.ws.length x.cap) ∧ w'.cell? ⟨rb, 2, none⟩ = some (.int .i64 last2) ∧ w'.cell? ⟨rb, 1, none⟩ = some (.int .i64 prom2))) (fun _ h => ⟨h.1, h.2.1, h.2.2.1, h.2.2.2.1⟩) _ _ _ _ ?_
        replace hHeld : (fun w' : World => w'.cell? ⟨ab, aoff + i * 4, none⟩ = some (.int .i64 x.kd) ∧ w'.cell? ⟨ab, aoff + i * 4 + 1, none⟩ = some (.int .i64 x.k) ∧ w'.cell? ⟨ab, aoff + i * 4 + 2, none⟩ = some (.int .u64 x.st) ∧ w'.cell? ⟨ab, aoff + i * 4 + 3, none⟩ = some (.slice x.a x.ws.length x.cap) ∧ w'.cell? ⟨rb, 2, none⟩ = some (.int .i64 last2) ∧ w'.cell? ⟨rb, 1, none⟩ = some (.int .i64 prom2)) _ := ⟨hHeld.1, hHeld.2.1, hHeld.2.2.1, hHeld.2.2.2, (HK2.out _ HJ2.out).1, (HK2.out _ HJ2.out).2⟩
        dsimp only at hHeld
        refine wpAnyH_take (i := 7) (oi := ⟨some 128, _, _, _, _, _⟩) (v := ?vvpc8) rfl (by kernel_rfl) (by kernel_rfl) (by kernel_rfl) (fun _ _ _ h => h) (Or.inl ⟨by rfl, ?yypc8⟩) hHeld ?rrpc8
        case yypc8 => (intro wq hSw; (try dsimp only at hSw); go_simp; first | done | with_reducible rfl)
        simp only [Act.put, List.setIfInBounds_toArray, List.set_cons_zero, List.set_cons_succ]
        refine wpAnyH_take (i := 8) (oi := ⟨some 129, _, _, _, _, _⟩) (v := ?vvpc9) rfl (by kernel_rfl) (by kernel_rfl) (by kernel_rfl) (fun _ _ _ h => h) (Or.inl ⟨by rfl, ?yypc9⟩) hHeld ?rrpc9
        case yypc9 => (intro wq hSw; (try dsimp only at hSw); go_simp; first | done | with_reducible rfl)
        simp only [Act.put, List.setIfInBounds_toArray, List.set_cons_zero, List.set_cons_succ]
        refine wpAnyH_take (i := 9) (oi := ⟨some 130, _, _, _, _, _⟩) (v := ?vvpc10) rfl (by kernel_rfl) (by kernel_rfl) (by kernel_rfl) (fun _ _ _ h => h) (Or.inl ⟨by rfl, ?yypc10⟩) hHeld ?rrpc10
        case yypc10 => (intro wq hSw; (try dsimp only at hSw); go_simp; first | done | with_reducible rfl)
        simp only [Act.put, List.setIfInBounds_toArray, List.set_cons_zero, List.set_cons_succ]
        refine wpAnyH_take (i := 11) (oi := ⟨some 132, _, _, _, _, _⟩) (v := ?vvpc11) rfl (by kernel_rfl) (by kernel_rfl) (by kernel_rfl) (fun _ _ _ h => h) (Or.inl ⟨by rfl, ?yypc11⟩) hHeld ?rrpc11
        case yypc11 => (intro wq hSw; (try dsimp only at hSw); go_simp; first | done | with_reducible rfl)
        simp only [Act.put, List.setIfInBounds_toArray, List.set_cons_zero, List.set_cons_succ]
        refine wpAnyH_take (i := 12) (oi := ⟨some 133, _, _, _, _, _⟩) (v := ?vvpc12) rfl (by kernel_rfl) (by kernel_rfl) (by kernel_rfl) (fun _ _ _ h => h) (Or.inl ⟨by rfl, ?yypc12⟩) hHeld ?rrpc12
        case yypc12 => (intro wq hSw; (try dsimp only at hSw); go_simp; first | done | with_reducible rfl)
        simp only [Act.put, List.setIfInBounds_toArray, List.set_cons_zero, List.set_cons_succ]
        refine wpAnyH_take (i := 13) (oi := ⟨some 134, _, _, _, _, _⟩) (v := ?vvpc13) rfl (by kernel_rfl) (by kernel_rfl) (by kernel_rfl) (fun _ _ _ h => h) (Or.inl ⟨by rfl, ?yypc13⟩) hHeld ?rrpc13
        case yypc13 => (intro wq hSw; (try dsimp only at hSw); go_simp; first | done | with_reducible rfl)
        simp only [Act.put, List.setIfInBounds_toArray, List.set_cons_zero, List.set_cons_succ]
        refine wpAnyH_take (i := 14) (oi := ⟨some 135, _, _, _, _, _⟩) (v := ?vvpc14) rfl (by kernel_rfl) (by kernel_rfl) (by kernel_rfl) (fun _ _ _ h => h) (Or.inl ⟨by rfl, ?yypc14⟩) hHeld ?rrpc14
        case yypc14 => (intro wq hSw; (try dsimp only at hSw); go_simp; first | done | with_reducible rfl)
        simp only [Act.put, List.setIfInBounds_toArray, List.set_cons_zero, List.set_cons_succ]
        refine wpAnyH_ready (rs := [10]) (by kernel_rfl) (by simp) ?_
        refine AllReadyH.cons (o := ⟨some 131, _, _, _, _, _⟩) rfl (fun K hK => ?_) AllReadyH.nil
        go_simp
        refine (jLast_any HJ2.out.s.j).mono ?_
        rintro e w' ⟨rfl, rfl⟩
        dsimp only
        refine hK.out _ _ ?sspc15 (fun hHeld => ?_)
        case sspc15 => (exact ⟨(HCJ.out _ HJ2.out.b).1, (HCJ.out _ HJ2.out.b).2.1, (HCJ.out _ HJ2.out.b).2.2.1, (HCJ.out _ HJ2.out.b).2.2.2, (HK2.out _ HJ2.out).1, (HK2.out _ HJ2.out).2⟩)
        clear hK K
        try simp only [Act.put, List.setIfInBounds_toArray, List.set_cons_zero, List.set_cons_succ]
        refine wpAnyH_take (i := 15) (oi := ⟨some 136, _, _, _, _, _⟩) (v := ?vvpc16) rfl (by kernel_rfl) (by kernel_rfl) (by kernel_rfl) (fun _ _ _ h => h) (Or.inl ⟨by rfl, ?yypc16⟩) hHeld ?rrpc16
        case yypc16 => (intro wq hSw; (try dsimp only at hSw); go_simp; first | done | with_reducible rfl)
        simp only [Act.put, List.setIfInBounds_toArray, List.set_cons_zero, List.set_cons_succ]
        refine wpAnyH_take (i := 16) (oi := ⟨some 137, _, _, _, _, _⟩) (v := ?vvpc17) rfl (by kernel_rfl) (by kernel_rfl) (by kernel_rfl) (fun _ _ _ h => h) (Or.inl ⟨by rfl, ?yypc17⟩) hHeld ?rrpc17
        case yypc17 => (intro wq hSw; (try dsimp only at hSw); go_simp; first | done | with_reducible rfl)
        simp only [Act.put, List.setIfInBounds_toArray, List.set_cons_zero, List.set_cons_succ]
        refine wpAnyH_take (i := 17) (oi := ⟨some 138, _, _, _, _, _⟩) (v := ?vvpc18) rfl (by kernel_rfl) (by kernel_rfl) (by kernel_rfl) (fun _ _ _ h => h) (Or.inl ⟨by rfl, ?yypc18⟩) hHeld ?rrpc18
        case yypc18 => (intro wq hSw; (try dsimp only at hSw); go_simp; first | done | with_reducible rfl)
        simp only [Act.put, List.setIfInBounds_toArray, List.set_cons_zero, List.set_cons_succ]
        refine wpAnyH_take (i := 18) (oi := ⟨some 139, _, _, _, _, _⟩) (v := ?vvpc19) rfl (by kernel_rfl) (by kernel_rfl) (by kernel_rfl) (fun _ _ _ h => h) (Or.inl ⟨by rfl, ?yypc19⟩) hHeld ?rrpc19
        case yypc19 => (intro wq hSw; (try dsimp only at hSw); go_simp; first | done | with_reducible rfl)
        simp only [Act.put, List.setIfInBounds_toArray, List.set_cons_zero, List.set_cons_succ]
        refine wpAnyH_take (i := 20) (oi := ⟨some 141, _, _, _, _, _⟩) (v := ?vvpc20) rfl (by kernel_rfl) (by kernel_rfl) (by kernel_rfl) (fun _ _ _ h => h) (Or.inl ⟨by rfl, ?yypc20⟩) hHeld ?rrpc20
        case yypc20 => (intro wq hSw; (try dsimp only at hSw); go_simp; first | done | with_reducible rfl)
        simp only [Act.put, List.setIfInBounds_toArray, List.set_cons_zero, List.set_cons_succ]
        refine wpAnyH_ready (rs := [19]) (by kernel_rfl) (by simp) ?_
        refine AllReadyH.cons (o := ⟨some 140, _, _, _, _, _⟩) rfl (fun K hK => ?_) AllReadyH.nil
        go_simp
        refine (jSure_any HJ2.out.s.j HJ2.out.s.d (by have := HJ2.out.p.mlen; have := HP2.out; omega)).mono ?_
        rintro e w11 ⟨rfl, b11⟩
        have HJ3 := Lib.hid (HJ2.out.below b11)
        rw [HJ2.out.p.sure]
        clear b11
        dsimp only
        refine hK.out _ _ ?sspc21 (fun hHeld => ?_)
        case sspc21 => (exact ⟨(HCJ.out _ HJ3.out.b).1, (HCJ.out _ HJ3.out.b).2.1, (HCJ.out _ HJ3.out.b).2.2.1, (HCJ.out _ HJ3.out.b).2.2.2, (HK2.out _ HJ3.out).1, (HK2.out _ HJ3.out).2⟩)
        clear hK K
        try simp only [Act.put, List.setIfInBounds_toArray, List.set_cons_zero, List.set_cons_succ]
        refine wpAnyH_ready (rs := [21]) (by kernel_rfl) (by simp) ?_
        refine AllReadyH.cons (o := ⟨some 142, _, _, _, _, _⟩) rfl (fun K hK => ?_) AllReadyH.nil
        go_simp
        refine (j15Sure_any HJ3.out.r).mono ?_
        rintro e w' ⟨rfl, rfl⟩
        dsimp only
        refine hK.out _ _ ?sspc22 (fun hHeld => ?_)
        case sspc22 => (exact ⟨(HCJ.out _ HJ3.out.b).1, (HCJ.out _ HJ3.out.b).2.1, (HCJ.out _ HJ3.out.b).2.2.1, (HCJ.out _ HJ3.out.b).2.2.2, (HK2.out _ HJ3.out).1, (HK2.out _ HJ3.out).2⟩)
        clear hK K
        try simp only [Act.put, List.setIfInBounds_toArray, List.set_cons_zero, List.set_cons_succ]
        refine wpAnyH_take (i := 22) (oi := ⟨some 143, _, _, _, _, _⟩) (v := ?vvpc23) rfl (by kernel_rfl) (by kernel_rfl) (by kernel_rfl) (fun _ _ _ h => h) (Or.inl ⟨by rfl, ?yypc23⟩) hHeld ?rrpc23
        case yypc23 => (intro wq hSw; (try dsimp only at hSw); go_simp; first | done | with_reducible rfl)
        simp only [Act.put, List.setIfInBounds_toArray, List.set_cons_zero, List.set_cons_succ]
        refine wpAnyH_take (i := 23) (oi := ⟨some 144, _, _, _, _, _⟩) (v := ?vvpc24) rfl (by kernel_rfl) (by kernel_rfl) (by kernel_rfl) (fun _ _ _ h => h) (Or.inl ⟨by rfl, ?yypc24⟩) hHeld ?rrpc24
        case yypc24 => (intro wq hSw; (try dsimp only at hSw); go_simp; first | done | with_reducible rfl)
        simp only [Act.put, List.setIfInBounds_toArray, List.set_cons_zero, List.set_cons_succ]
        refine wpAnyH_take (i := 24) (oi := ⟨some 145, _, _, _, _, _⟩) (v := ?vvpc25) rfl (by kernel_rfl) (by kernel_rfl) (by kernel_rfl) (fun _ _ _ h => h) (Or.inl ⟨by rfl, ?yypc25⟩) hHeld ?rrpc25
        case yypc25 => (intro wq hSw; (try dsimp only at hSw); go_simp; first | done | with_reducible rfl)
        simp only [Act.put, List.setIfInBounds_toArray, List.set_cons_zero, List.set_cons_succ]
        refine wpAnyH_take (i := 25) (oi := ⟨some 146, _, _, _, _, _⟩) (v := ?vvpc26) rfl (by kernel_rfl) (by kernel_rfl) (by kernel_rfl) (fun _ _ _ h => h) (Or.inl ⟨by rfl, ?yypc26⟩) hHeld ?rrpc26
        case yypc26 => (intro wq hSw; (try dsimp only at hSw); go_simp; first | done | with_reducible rfl)
        simp only [Act.put, List.setIfInBounds_toArray, List.set_cons_zero, List.set_cons_succ]
        refine wpAnyH_take (i := 27) (oi := ⟨some 148, _, _, _, _, _⟩) (v := ?vvpc27) rfl (by kernel_rfl) (by kernel_rfl) (by kernel_rfl) (fun _ _ _ h => h) (Or.inl ⟨by rfl, ?yypc27⟩) hHeld ?rrpc27
        case yypc27 => (intro wq hSw; (try dsimp only at hSw); go_simp; first | done | with_reducible rfl)
        simp only [Act.put, List.setIfInBounds_toArray, List.set_cons_zero, List.set_cons_succ]
        refine wpAnyH_take (i := 28) (oi := ⟨some 149, _, _, _, _, _⟩) (v := ?vvpc28) rfl (by kernel_rfl) (by kernel_rfl) (by kernel_rfl) (fun _ _ _ h => h) (Or.inl ⟨by rfl, ?yypc28⟩) hHeld ?rrpc28
        case yypc28 => (intro wq hSw; (try dsimp only at hSw); go_simp; first | done | with_reducible rfl)
        simp only [Act.put, List.setIfInBounds_toArray, List.set_cons_zero, List.set_cons_succ]
        refine wpAnyH_take (i := 29) (oi := ⟨some 150, _, _, _, _, _⟩) (v := ?vvpc29) rfl (by kernel_rfl) (by kernel_rfl) (by kernel_rfl) (fun _ _ _ h => h) (Or.inl ⟨by rfl, ?yypc29⟩) hHeld ?rrpc29
        case yypc29 => (intro wq hSw; (try dsimp only at hSw); go_simp; first | done | with_reducible rfl)
        simp only [Act.put, List.setIfInBounds_toArray, List.set_cons_zero, List.set_cons_succ]
        refine wpAnyH_take (i := 30) (oi := ⟨some 151, _, _, _, _, _⟩) (v := ?vvpc30) rfl (by kernel_rfl) (by kernel_rfl) (by kernel_rfl) (fun _ _ _ h => h) (Or.inl ⟨by rfl, ?yypc30⟩) hHeld ?rrpc30
        case yypc30 => (intro wq hSw; (try dsimp only at hSw); go_simp; first | done | with_reducible rfl)
        simp only [Act.put, List.setIfInBounds_toArray, List.set_cons_zero, List.set_cons_succ]
        refine wpAnyH_ready (rs := [26]) (by kernel_rfl) (by simp) ?_
        refine AllReadyH.cons (o := ⟨some 147, _, _, _, _, _⟩) rfl (fun K hK => ?_) AllReadyH.nil
        go_simp
        refine (jPromised_any HJ3.out.s.j).mono ?_
        rintro e w' ⟨rfl, rfl⟩
        dsimp only
        refine hK.out _ _ ?sspc31 (fun hHeld => ?_)
        case sspc31 => (exact ⟨(HCJ.out _ HJ3.out.b).1, (HCJ.out _ HJ3.out.b).2.1, (HCJ.out _ HJ3.out.b).2.2.1, (HCJ.out _ HJ3.out.b).2.2.2, (HK2.out _ HJ3.out).1, (HK2.out _ HJ3.out).2⟩)
        clear hK K
        try simp only [Act.put, List.setIfInBounds_toArray, List.set_cons_zero, List.set_cons_succ]
        refine wpAnyH_take (i := 31) (oi := ⟨some 152, _, _, _, _, _⟩) (v := ?vvpc32) rfl (by kernel_rfl) (by kernel_rfl) (by kernel_rfl) (fun _ _ _ h => h) (Or.inl ⟨by rfl, ?yypc32⟩) hHeld ?rrpc32
        case yypc32 => (intro wq hSw; (try dsimp only at hSw); go_simp; first | done | with_reducible rfl)
        simp only [Act.put, List.setIfInBounds_toArray, List.set_cons_zero, List.set_cons_succ]
        refine wpAnyH_take (i := 32) (oi := ⟨some 153, _, _, _, _, _⟩) (v := ?vvpc33) rfl (by kernel_rfl) (by kernel_rfl) (by kernel_rfl) (fun _ _ _ h => h) (Or.inl ⟨by rfl, ?yypc33⟩) hHeld ?rrpc33
        case yypc33 => (intro wq hSw; (try dsimp only at hSw); go_simp; first | done | with_reducible rfl)
        simp only [Act.put, List.setIfInBounds_toArray, List.set_cons_zero, List.set_cons_succ]
        refine wpAnyH_take (i := 33) (oi := ⟨some 154, _, _, _, _, _⟩) (v := ?vvpc34) rfl (by kernel_rfl) (by kernel_rfl) (by kernel_rfl) (fun _ _ _ h => h) (Or.inl ⟨by rfl, ?yypc34⟩) hHeld ?rrpc34
        case yypc34 => (intro wq hSw; (try dsimp only at hSw); go_simp; first | done | with_reducible rfl)
        simp only [Act.put, List.setIfInBounds_toArray, List.set_cons_zero, List.set_cons_succ]
        refine wpAnyH_take (i := 34) (oi := ⟨some 155, _, _, _, _, _⟩) (v := ?vvpc35) rfl (by kernel_rfl) (by kernel_rfl) (by kernel_rfl) (fun _ _ _ h => h) (Or.inl ⟨by rfl, ?yypc35⟩) hHeld ?rrpc35
        case yypc35 => (intro wq hSw; (try dsimp only at hSw); go_simp; first | done | with_reducible rfl)
        simp only [Act.put, List.setIfInBounds_toArray, List.set_cons_zero, List.set_cons_succ]
        refine wpAnyH_take (i := 37) (oi := ⟨some 158, _, _, _, _, _⟩) (v := ?vvpc36) rfl (by kernel_rfl) (by kernel_rfl) (by kernel_rfl) (fun _ _ _ h => h) (Or.inl ⟨by rfl, ?yypc36⟩) hHeld ?rrpc36
        case yypc36 => (intro wq hSw; (try dsimp only at hSw); go_simp; first | done | with_reducible rfl)
        simp only [Act.put, List.setIfInBounds_toArray, List.set_cons_zero, List.set_cons_succ]
        refine wpAnyH_ready (rs := [35]) (by kernel_rfl) (by simp) ?_
        refine AllReadyH.cons (o := ⟨some 156, _, _, _, _, _⟩) rfl (fun K hK => ?_) AllReadyH.nil
        go_simp
        refine (dkBytes_any HJ3.out.s.d).mono ?_
        rintro e w12 ⟨v12, rfl, o12, b12⟩
        obtain ⟨a8, c8, rfl⟩ := o12.shape
        have hcv := convO o12
        obtain ⟨kt, hkt⟩ : ∃ s : ByteArray, s = ⟨l2.toArray⟩ := ⟨_, rfl⟩
        obtain ⟨bn, hbn⟩ : ∃ k, k = l2.length := ⟨_, rfl⟩
        rw [← hkt, ← hbn] at hcv
        rw [← hbn]
        have HKT := Lib.hid hkt
        have HBN := Lib.hid hbn
        have HO12 := Lib.hid o12
        have HCV := Lib.hid hcv
        have HJ4 := Lib.hid (HJ3.out.below b12)
        clear o12 b12 hkt hbn hcv
        dsimp only
        refine hK.out _ _ ?sspc37 (fun hHeld => ?_)
        case sspc37 => (exact ⟨(HCJ.out _ HJ4.out.b).1, (HCJ.out _ HJ4.out.b).2.1, (HCJ.out _ HJ4.out.b).2.2.1, (HCJ.out _ HJ4.out.b).2.2.2, (HK2.out _ HJ4.out).1, (HK2.out _ HJ4.out).2⟩)
        clear hK K
        try simp only [Act.put, List.setIfInBounds_toArray, List.set_cons_zero, List.set_cons_succ]
        refine wpAnyH_narrow (S' := (fun w' : World => w'.cell? ⟨ab, aoff + i * 4, none⟩ = some (.int .i64 x.kd) ∧ w'.cell? ⟨ab, aoff + i * 4 + 1, none⟩ = some (.int .i64 x.k) ∧ w'.cell? ⟨ab, aoff + i * 4 + 2, none⟩ = some (.int .u64 x.st) ∧ w'.cell? ⟨ab, aoff + i * 4 + 3, none⟩ = some (.slice x.a x.ws.length x.cap) ∧ w'.cell? ⟨rb, 2, none⟩ = some (.int .i64 last2) ∧ w'.cell? ⟨rb, 1, none⟩ = some (.int .i64 prom2) ∧ (convert 22 9 (.slice a8 bn c8)).run Try.prog w' = .ok (.string kt) w')) (fun _ h => ⟨h.1, h.2.1, h.2.2.1, h.2.2.2.1, h.2.2.2.2.1, h.2.2.2.2.2.1⟩) _ _ _ _ ?_
        replace hHeld : (fun w' : World => w'.cell? ⟨ab, aoff + i * 4, none⟩ = some (.int .i64 x.kd) ∧ w'.cell? ⟨ab, aoff + i * 4 + 1, none⟩ = some (.int .i64 x.k) ∧ w'.cell? ⟨ab, aoff + i * 4 + 2, none⟩ = some (.int .u64 x.st) ∧ w'.cell? ⟨ab, aoff + i * 4 + 3, none⟩ = some (.slice x.a x.ws.length x.cap) ∧ w'.cell? ⟨rb, 2, none⟩ = some (.int .i64 last2) ∧ w'.cell? ⟨rb, 1, none⟩ = some (.int .i64 prom2) ∧ (convert 22 9 (.slice a8 bn c8)).run Try.prog w' = .ok (.string kt) w') _ := ⟨hHeld.1, hHeld.2.1, hHeld.2.2.1, hHeld.2.2.2.1, hHeld.2.2.2.2.1, hHeld.2.2.2.2.2, HCV.out⟩
        dsimp only at hHeld
        refine wpAnyH_take (i := 36) (oi := ⟨some 157, _, _, _, _, _⟩) (v := ?vvpc38) rfl (by kernel_rfl) (by kernel_rfl) (by kernel_rfl) (fun _ _ _ h => h) (Or.inl ⟨by rfl, ?yypc38⟩) hHeld ?rrpc38
        case yypc38 => (intro wq hSw; (try dsimp only at hSw); go_simp; first | done | with_reducible rfl)
        simp only [Act.put, List.setIfInBounds_toArray, List.set_cons_zero, List.set_cons_succ]
        refine wpAnyH_ready (rs := [38]) (by kernel_rfl) (by simp) ?_
        refine AllReadyH.cons (o := ⟨some 159, _, _, _, _, _⟩) rfl (fun K hK => ?_) AllReadyH.nil
        go_simp
        refine (j15Bytes_any HJ4.out.r).mono ?_
        rintro e w13 ⟨v13, rfl, o13, b13⟩
        rw [← HJ4.out.p.lE] at o13
        obtain ⟨a9, c9, rfl⟩ := o13.shape
        have hcv := convO o13
        have hcw := convO (HO12.out.below b13)
        rw [← HKT.out, ← HBN.out] at hcv hcw
        rw [← HBN.out]
        have HCV2 := Lib.hid hcv
        have HCV3 := Lib.hid hcw
        have HJ5 := Lib.hid (HJ4.out.below b13)
        clear o13 b13 hcv hcw
        dsimp only
        refine hK.out _ _ ?sspc39 (fun hHeld => ?_)
        case sspc39 => (exact ⟨(HCJ.out _ HJ5.out.b).1, (HCJ.out _ HJ5.out.b).2.1, (HCJ.out _ HJ5.out.b).2.2.1, (HCJ.out _ HJ5.out.b).2.2.2, (HK2.out _ HJ5.out).1, (HK2.out _ HJ5.out).2, HCV3.out⟩)
        clear hK K
        try simp only [Act.put, List.setIfInBounds_toArray, List.set_cons_zero, List.set_cons_succ]
        refine wpAnyH_narrow (S' := (fun w' : World => w'.cell? ⟨ab, aoff + i * 4, none⟩ = some (.int .i64 x.kd) ∧ w'.cell? ⟨ab, aoff + i * 4 + 1, none⟩ = some (.int .i64 x.k) ∧ w'.cell? ⟨ab, aoff + i * 4 + 2, none⟩ = some (.int .u64 x.st) ∧ w'.cell? ⟨ab, aoff + i * 4 + 3, none⟩ = some (.slice x.a x.ws.length x.cap) ∧ w'.cell? ⟨rb, 2, none⟩ = some (.int .i64 last2) ∧ w'.cell? ⟨rb, 1, none⟩ = some (.int .i64 prom2) ∧ (convert 22 9 (.slice a8 bn c8)).run Try.prog w' = .ok (.string kt) w' ∧ (convert 22 9 (.slice a9 bn c9)).run Try.prog w' = .ok (.string kt) w')) (fun _ h => ⟨h.1, h.2.1, h.2.2.1, h.2.2.2.1, h.2.2.2.2.1, h.2.2.2.2.2.1, h.2.2.2.2.2.2.1⟩) _ _ _ _ ?_
        replace hHeld : (fun w' : World => w'.cell? ⟨ab, aoff + i * 4, none⟩ = some (.int .i64 x.kd) ∧ w'.cell? ⟨ab, aoff + i * 4 + 1, none⟩ = some (.int .i64 x.k) ∧ w'.cell? ⟨ab, aoff + i * 4 + 2, none⟩ = some (.int .u64 x.st) ∧ w'.cell? ⟨ab, aoff + i * 4 + 3, none⟩ = some (.slice x.a x.ws.length x.cap) ∧ w'.cell? ⟨rb, 2, none⟩ = some (.int .i64 last2) ∧ w'.cell? ⟨rb, 1, none⟩ = some (.int .i64 prom2) ∧ (convert 22 9 (.slice a8 bn c8)).run Try.prog w' = .ok (.string kt) w' ∧ (convert 22 9 (.slice a9 bn c9)).run Try.prog w' = .ok (.string kt) w') _ := ⟨hHeld.1, hHeld.2.1, hHeld.2.2.1, hHeld.2.2.2.1, hHeld.2.2.2.2.1, hHeld.2.2.2.2.2.1, HCV3.out, HCV2.out⟩
        dsimp only at hHeld
        refine wpAnyH_take (i := 39) (oi := ⟨some 160, _, _, _, _, _⟩) (v := ?vvpc40) rfl (by kernel_rfl) (by kernel_rfl) (by kernel_rfl) (fun _ _ _ h => h) (Or.inl ⟨by rfl, ?yypc40⟩) hHeld ?rrpc40
        case yypc40 => (intro wq hSw; (try dsimp only at hSw); go_simp; first | done | with_reducible rfl)
        simp only [Act.put, List.setIfInBounds_toArray, List.set_cons_zero, List.set_cons_succ]
        refine wpAnyH_take (i := 40) (oi := ⟨some 161, _, _, _, _, _⟩) (v := ?vvpc41) rfl (by kernel_rfl) (by kernel_rfl) (by kernel_rfl) (fun _ _ _ h => h) (Or.inl ⟨by rfl, ?yypc41⟩) hHeld ?rrpc41
        case yypc41 => (intro wq hSw; (try dsimp only at hSw); go_simp; first | done | with_reducible rfl)
        simp only [Act.put, List.setIfInBounds_toArray, List.set_cons_zero, List.set_cons_succ]
        refine wpAnyH_take (i := 41) (oi := ⟨some 162, _, _, _, _, _⟩) (v := ?vvpc42) rfl (by kernel_rfl) (by kernel_rfl) (by kernel_rfl) (fun _ _ _ h => h) (Or.inl ⟨by rfl, ?yypc42⟩) hHeld ?rrpc42
        case yypc42 => (intro wq hSw; (try dsimp only at hSw); go_simp; first | done | with_reducible rfl)
        simp only [Act.put, List.setIfInBounds_toArray, List.set_cons_zero, List.set_cons_succ]
        refine wpAnyH_done (by kernel_rfl) ?_ _
        clear hHeld
        go_wp2_with fail
        exact ⟨⟨i + 1, prom2, last2, ps2, sf2, safe2, l2, ms2, by omega, by go_num, Lib.hid ⟨HJ5.out, HP2.out⟩⟩, by simp [intOf]; omega⟩
    · obtain rfl : i = an := by omega
      have HBE := Lib.hid (below_then HB1.out HI.out.1.b)
      go_wp2_with fail
      go_ret
      exact ⟨rfl, HBE.out⟩
end Go.Proofs.Ytcghgnncmnoalaa
