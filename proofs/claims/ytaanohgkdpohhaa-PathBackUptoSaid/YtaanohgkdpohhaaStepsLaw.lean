/- Law PathSteps: the walk. Conditions: small bulk. -/
import Derived.Test.YtaanohgkdpohhaaPb6
import Derived.Test.YtaanohgkdpohhaaPb7
import Derived.Test.YtaanohgkdpohhaaPtRead
import Derived.BigQuiet
namespace Go.Proofs.Ytaanohgkdpohhaa
open Go.RowKit Go.Maps

theorem RgC.cells {w : World} {rb B : Nat} {V : List Vt} {E : List Eg} (h : RgC w rb B V E) : ∃ va vc ea ec, w.heap[rb]? = some (.cells #[.slice va V.length vc, .slice ea E.length ec] 103 (0, 0)) := by
  obtain ⟨VL, EL, ⟨⟨va, vc, ea, ec, h1, _, _⟩, _, _, _⟩, rfl, rfl⟩ := h
  exact ⟨va, vc, ea, ec, by rw [List.length_map, List.length_map]; exact h1⟩
theorem built_len {VL : List Vr} {EL : List Er} (hs : smallB VL EL = true) : (adV [] (VL.map Vr.v)).length ≤ 20 ∧ (adE (adV [] (VL.map Vr.v)) [] (EL.map Er.e)).length ≤ 60 := by
  unfold smallB at hs
  obtain ⟨s1, s2, _⟩ := of_decide_eq_true hs
  have g1 := adV_len (VL.map Vr.v) []
  have g2 := adE_len (adV [] (VL.map Vr.v)) (EL.map Er.e) []
  simp at g1 g2
  omega
theorem bound_quiet (a b : Int) (w : World) : Quiet Try.prog 56 #[.int .i64 a, .int .i64 b] w (.int .i64 (boundI a b)) := quiet_same' ((r19bound_any a b w).mono fun _ _ h => ⟨h.1, h.2.symm⟩)
theorem run19_v (gb vb eb : Nat) (V : List Vt) (E : List Eg) (a : PA) (n : Nat) (w : World) (hG : GrC w gb vb eb V E) (hl : V.length ≤ 20 ∧ E.length ≤ 61) (hf : I64 a.fr) (ht : I64 a.t) (hls : a.lab.size ≤ 1048576) (hn : n ≤ 1048576) :
    Calls Try.prog 55 #[.pointer (some ⟨gb, 0, none⟩), .int .i64 (n : Int), .agg #[.int .i64 a.fr, .int .i64 a.t, .string a.lab, .int .i64 a.most]] w (R19P w V E a n) :=
  run19_any gb vb eb V E a n w hG (by omega) (by omega) hf ht (Nat.le_trans hls (by decide)) (by omega)
set_option maxRecDepth 100000 in
set_option maxHeartbeats 8000000 in
theorem steps_any (va ea : Option Addr) (vc ec : Nat) (VL : List Vr) (EL : List Er) (a : PA) (n : Int) (w : World) (h1 : kVr.V w va VL) (h2 : kEr.V w ea EL) (h3 : ∀ x ∈ VL, VrOk w x) (h4 : ∀ x ∈ EL, ErOk w x) (hf : I64 a.fr) (ht : I64 a.t) (hl : a.lab.size ≤ 1048576) :
    Calls Try.prog 9 #[.agg #[.slice va VL.length vc, .slice ea EL.length ec], a.val, .int .i64 n] w fun e w' => e = .returned (.bool true) ∧ Below w.heap.size w w' := by
  obtain ⟨nv, hnv⟩ : ∃ n, n = VL.length := ⟨_, rfl⟩
  obtain ⟨ne, hne⟩ : ∃ n, n = EL.length := ⟨_, rfl⟩
  have HNV := Lib.hid hnv
  have HNE := Lib.hid hne
  have HSM : Hid (∀ u, Below w.heap.size w u → Calls Try.prog 53 #[.agg #[.slice va nv vc, .slice ea ne ec]] u (fun e w' => e = .returned (.bool (smallB VL EL)) ∧ Below u.heap.size u w')) := Lib.hid (fun u hu => by rw [hnv, hne]; exact small19_any va ea vc ec VL EL u (h1.below hu) (h2.below hu))
  have HPT : Hid (smallB VL EL = true → PtIn w va ea VL EL) := Lib.hid (fun hs => ptIn_of h1 h2 h3 h4 hs)
  rw [← hnv, ← hne]
  clear hnv hne h1 h2 h3 h4
  obtain ⟨pb, hpb⟩ : ∃ pb, pb = w.heap.size := ⟨_, rfl⟩
  obtain ⟨ab, hab⟩ : ∃ ab, ab = w.heap.size + 1 := ⟨_, rfl⟩
  obtain ⟨W, hW⟩ : ∃ W, W = ((w.alloc (.cells #[.slice va nv vc, .slice ea ne ec] 105)).alloc (.cells #[.int .i64 a.fr, .int .i64 a.t, .string a.lab, .int .i64 a.most] 107)) := ⟨_, rfl⟩
  have HWW : Hid (Below w.heap.size w W) := Lib.hid (by rw [hW]; exact (((Below.refl w.heap.size w).alloc (Nat.le_refl _) _).alloc (by simp) _))
  have HP0 : Hid (W.heap[pb]? = some (.cells #[.slice va nv vc, .slice ea ne ec] 105 (0, 0)) ∧ W.heap[ab]? = some (.cells #[.int .i64 a.fr, .int .i64 a.t, .string a.lab, .int .i64 a.most] 107 (0, 0))) := Lib.hid (by
    rw [hW, hpb, hab]
    exact ⟨(Below.heap_alloc _ _ _ (by simp)).trans (heap_new w _), heap_new2 w _ _⟩)
  have HBX : Hid (∀ u, Below W.heap.size W u → u.heap[pb]? = some (.cells #[.slice va nv vc, .slice ea ne ec] 105 (0, 0)) ∧ u.heap[ab]? = some (.cells #[.int .i64 a.fr, .int .i64 a.t, .string a.lab, .int .i64 a.most] 107 (0, 0))) := Lib.hid (fun u hu => ⟨(hu.block _ (Array.getElem?_eq_some_iff.1 HP0.out.1).1).trans HP0.out.1, (hu.block _ (Array.getElem?_eq_some_iff.1 HP0.out.2).1).trans HP0.out.2⟩)
  have HW := Lib.hid hW.symm
  have HQB := Lib.hid (And.intro hpb.symm hab.symm)
  have HF := Lib.hid hf
  have HT := Lib.hid ht
  have HL := Lib.hid hl
  clear hW hf ht hl
  unfold PA.val
  go_enter Try.func9, Try.ntmps9
  go_wp2_with fail
  rw [HW.out, HQB.out.2, HQB.out.1]
  clear hpb hab
  refine (awake19_any W).mono ?_
  rintro e w1 ⟨rfl, b1⟩
  have HB1 := Lib.hid b1
  obtain ⟨p1, p2⟩ := HBX.out w1 b1
  have p0 := cell_of_blk p1 0
  have p1 := cell_of_blk p1 1
  have zp : pb < w1.heap.size := by have := (Array.getElem?_eq_some_iff.1 (HBX.out w1 b1).1).1; exact this
  simp at p0 p1
  clear b1 p2
  go_wp2_with fail
  refine (HSM.out w1 (HWW.out.trans (HB1.out.mono HWW.out.size))).mono ?_
  rintro e w2 ⟨rfl, b2⟩
  have HB2 : Hid (Below W.heap.size W w2) := Lib.hid (HB1.out.trans (b2.mono HB1.out.size))
  clear b2 p0 p1 zp
  cases hs : smallB VL EL
  case false =>
    clear hs
    go_wp2_with fail
    refine (awake19_any _).mono ?_
    rintro e w9 ⟨rfl, b9⟩
    have HB9 : Hid (Below W.heap.size W w9) := Lib.hid (HB2.out.trans (b9.mono HB2.out.size))
    clear b9
    go_wp2_with fail
    go_ret
    exact ⟨rfl, HWW.out.trans (HB9.out.mono HWW.out.size)⟩

  have HS := Lib.hid hs
  clear hs
  obtain ⟨p1, p2⟩ := HBX.out w2 HB2.out
  have a2 := cell_of_blk p2 2
  have za : ab < w2.heap.size := (Array.getElem?_eq_some_iff.1 p2).1
  simp at a2
  clear p1 p2
  by_cases hll : 200 < a.lab.size
  · have tl : decide ((200 : Int) < (a.lab.size : Int)) = true := decide_eq_true (by omega)
    go_wp2_with fail
    refine (awake19_any _).mono ?_
    rintro e w9 ⟨rfl, b9⟩
    have HB9 : Hid (Below W.heap.size W w9) := Lib.hid (HB2.out.trans (b9.mono HB2.out.size))
    clear b9
    go_wp2_with fail
    go_ret
    exact ⟨rfl, HWW.out.trans (HB9.out.mono HWW.out.size)⟩

  have tl : decide ((200 : Int) < (a.lab.size : Int)) = false := decide_eq_false (by omega)
  have HLL : Hid (a.lab.size ≤ 200) := Lib.hid (by omega)
  obtain ⟨p1, p2⟩ := HBX.out w2 HB2.out
  have p0 := cell_of_blk p1 0
  have p1 := cell_of_blk p1 1
  simp at p0 p1
  clear p2

  go_wp2_with fail
  have HBT := built19_any va ea vc ec VL EL w2 ((HPT.out HS.out).below (HWW.out.trans (HB2.out.mono HWW.out.size)))
  rw [← HNV.out, ← HNE.out] at HBT
  refine HBT.mono ?_
  rintro e w3 ⟨gb, vb, eb, rb, B, rfl, hg, hr, b3⟩
  have hlen := built_len HS.out
  obtain ⟨V, hV⟩ : ∃ V, V = adV [] (VL.map Vr.v) := ⟨_, rfl⟩
  rw [← hV] at hg hr hlen
  obtain ⟨E, hE⟩ : ∃ E, E = adE V [] (EL.map Er.e) := ⟨_, rfl⟩
  rw [← hE] at hg hr hlen
  have HVD := Lib.hid hV
  have HED := Lib.hid hE
  have HG := Lib.hid hg
  have HR := Lib.hid hr
  have HLN := Lib.hid hlen
  have HB3 : Hid (Below W.heap.size W w3) := Lib.hid (HB2.out.trans (b3.mono HB2.out.size))
  clear hV hE hg hr hlen b3 HBT p0 p1 a2 za tl hll

  obtain ⟨p1, p2⟩ := HBX.out w3 HB3.out
  have a0 := cell_of_blk p2 0
  have a1 := cell_of_blk p2 1
  have a2 := cell_of_blk p2 2
  have a3 := cell_of_blk p2 3
  have za : ab < w3.heap.size := (Array.getElem?_eq_some_iff.1 p2).1
  simp at a0 a1 a2 a3
  clear p1 p2

  have m1 := Int.lt_tmod_of_pos n (show (0 : Int) < 200 by omega)
  have m2 := Int.tmod_lt_of_pos n (show (0 : Int) < 200 by omega)
  obtain ⟨K, hK⟩ : ∃ K : Nat, (n.tmod 200 + 200) % 200 = (K : Int) := ⟨((n.tmod 200 + 200) % 200).toNat, by omega⟩
  have hK2 : n.tmod 200 % 200 = (K : Int) := by omega
  have hK3 : (n.tmod 200 + 200).tmod 200 = (K : Int) := by rw [Int.tmod_eq_emod_of_nonneg (by omega)]; exact hK
  have HK : Hid (K < 200) := Lib.hid (by omega)
  go_upto_region 5 with fail
  clear m1 m2 hK hK2 hK3
  go_wp2_with fail
  refine (run19_v gb vb eb V E a K w3 HG.out ⟨HLN.out.1, by have := HLN.out.2; omega⟩ HF.out HT.out HL.out (by have := HK.out; omega)).mono ?_
  rintro e w4 ⟨v1, l, ce, rfl, o1, b4, r1⟩
  obtain ⟨s1, c1, rfl⟩ := o1.shape
  have HO1 := Lib.hid o1
  have HR1 := Lib.hid r1
  have HG4 := Lib.hid (HG.out.below b4)
  have HRG4 := Lib.hid (HR.out.below b4)
  have HB4 : Hid (Below W.heap.size W w4) := Lib.hid (HB3.out.trans (b4.mono HB3.out.size))
  clear o1 r1 b4 a0 a1 a2 a3 za

  obtain ⟨p1, p2⟩ := HBX.out w4 HB4.out
  have a0 := cell_of_blk p2 0
  have a1 := cell_of_blk p2 1
  have a2 := cell_of_blk p2 2
  have a3 := cell_of_blk p2 3
  have za : ab < w4.heap.size := (Array.getElem?_eq_some_iff.1 p2).1
  simp at a0 a1 a2 a3
  clear p1 p2

  go_wp2_with fail
  refine (run19_v gb vb eb V E a 1048576 w4 HG4.out ⟨HLN.out.1, by have := HLN.out.2; omega⟩ HF.out HT.out HL.out (by omega)).mono ?_
  rintro e w5 ⟨v2, m, cf, rfl, o2, b5, r2⟩
  obtain ⟨s2, c2, rfl⟩ := o2.shape
  have HO2 := Lib.hid o2
  have HO1b := Lib.hid (HO1.out.below b5)
  have HRG5 := Lib.hid (HRG4.out.below b5)
  have HB5 : Hid (Below W.heap.size W w5) := Lib.hid (HB4.out.trans (b5.mono HB4.out.size))
  have HLAW := Lib.hid (steps_law HLN.out.1 HLN.out.2 HR1.out r2)
  clear o2 r2 b5 a0 a1 a2 a3 za
  by_cases h41 : ce = 41
  · subst h41
    obtain ⟨rfl, q1, q2, q3⟩ := HLAW.out.1 rfl
    have t1 : (cf != 41) = true := by simpa using q1
    have t2 : (cf != 2) = true := by simpa using q2
    obtain ⟨va5, vc5, ea5, ec5, hbk⟩ := HRG5.out.cells
    have g0 := cell_of_blk hbk 0
    have g1 := cell_of_blk hbk 1
    have zg : rb < w5.heap.size := (Array.getElem?_eq_some_iff.1 hbk).1
    simp at g0 g1
    obtain ⟨nV, hnV⟩ : ∃ x, x = V.length := ⟨_, rfl⟩
    obtain ⟨nE, hnE⟩ : ∃ x, x = E.length := ⟨_, rfl⟩
    rw [← hnV] at g0 q3
    rw [← hnE] at g1 q3
    obtain ⟨bd, hbd⟩ : ∃ x, x = boundI (nV : Int) (nE : Int) := ⟨_, rfl⟩
    rw [← hbd] at q3
    have HQ : Hid (∀ u, Quiet Try.prog 56 #[.int .i64 (nV : Int), .int .i64 (nE : Int)] u (.int .i64 bd)) := Lib.hid (fun u => by rw [hbd]; exact bound_quiet _ _ u)
    have t3 : decide ((K : Int) < bd) = true := decide_eq_true q3
    clear hbk q1 q2 q3 hnV hnE hbd
    go_wp2_with fail
    go_quiet ((go_at_call 56; first | exact quiet_at (HQ.out _) | exact quiet_at2 (HQ.out _)))
    go_wp2_with fail
    go_ret
    exact ⟨rfl, HWW.out.trans ((below_drewN HB5.out _).mono HWW.out.size)⟩
  · obtain ⟨rfl, rfl⟩ := HLAW.out.2 h41
    have t1 : (ce == 41) = false := by simpa using h41
    have HI : Hid (Calls Try.prog 57 #[.slice s1 l.length c1, .slice s2 l.length c2] w5 fun e w' => e = .returned (.bool true) ∧ Below w5.heap.size w5 w') := Lib.hid (by
      have := ints10_any s1 s2 c1 c2 l l w5 HO1b.out.toV HO2.out.toV (by have := HR1.out.len; omega)
      rw [decide_eq_true (rfl : l = l)] at this
      exact this)
    clear h41
    go_wp2_with fail
    refine HI.out.mono ?_
    rintro e w6 ⟨rfl, b6⟩
    have HB6 : Hid (Below W.heap.size W w6) := Lib.hid (HB5.out.trans (b6.mono HB5.out.size))
    clear b6
    go_wp2_with fail
    go_ret
    exact ⟨rfl, HWW.out.trans (HB6.out.mono HWW.out.size)⟩
end Go.Proofs.Ytaanohgkdpohhaa
