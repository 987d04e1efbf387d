/- Law PathRuns: the walk. Conditions: small bulk. -/
import Derived.Test.YtaanohgkdpohhaaStepsLaw
import Derived.Test.YtaanohgkdpohhaaLawPlain
import Derived.Test.YtaanohgkdpohhaaRw3
import Derived.BigQuiet
namespace Go.Proofs.Ytaanohgkdpohhaa
open Go.RowKit Go.Maps

theorem pquiet_v (a b : Int) (w : World) : Quiet Try.prog 59 #[.int .i64 a, .int .i64 b] w (.int .i64 (boundI a b)) := quiet_same' ((pbound_any a b w).mono fun _ _ h => ⟨h.1, h.2.symm⟩)
theorem bound_nat {v e : Nat} (hv : v ≤ 1000) (he : e ≤ 1000) : boundI v e = ((4 + 4 * v + 2 * e : Nat) : Int) := by
  unfold boundI
  rw [if_neg (by omega)]
  omega
theorem run_nil_v (a : PA) (w : World) : Calls Try.prog 60 #[.pointer none, .agg #[.int .i64 a.fr, .int .i64 a.t, .string a.lab, .int .i64 a.most]] w fun e w' => e = .returned (.tuple #[.slice none 0 0, .int .i64 1]) ∧ Below w.heap.size w w' := run_nil a w
def NoV (V : List Vt) (n r : Int) : Prop := (r = -1 ∧ ¬ HasV V n) ∨ ((∃ i : Nat, r = (i : Int)) ∧ HasV V n)
theorem RgC.v {w : World} {rb B : Nat} {V : List Vt} {E : List Eg} (h : RgC w rb B V E) (hl : V.length ≤ 1000) (n : Int) :
    Calls Try.prog 62 #[.pointer (some ⟨rb, 0, none⟩), .int .i64 n] w fun e w' => w = w' ∧ ∃ r, e = .returned (.int .i64 r) ∧ NoV V n r := by
  obtain ⟨VL, EL, h1, rfl, rfl⟩ := h
  refine (r16V_any h1 (by simp at hl; omega) n).mono ?_
  rintro e w' ⟨rfl, r, rfl, hr⟩
  refine ⟨rfl, r, rfl, ?_⟩
  rcases hr with ⟨rfl, h⟩ | ⟨i, x, rfl, hx, hk⟩
  · refine .inl ⟨rfl, ?_⟩
    rintro ⟨u, hu, e⟩
    obtain ⟨y, hy, rfl⟩ := List.mem_map.1 hu
    exact h y hy e
  · exact .inr ⟨⟨i, rfl⟩, x.v, List.mem_map.2 ⟨x, List.mem_of_getElem? hx, rfl⟩, hk⟩
theorem RgC.way {w : World} {rb B : Nat} {V : List Vt} {E : List Eg} (h : RgC w rb B V E) (ok : PGo V E) (hl : V.length ≤ 1000) (hel : E.length ≤ 1000) (fr t : Int) (lab : ByteArray) (most : Int) (hm : most ≤ 64) (ht : HasV V t) :
    Calls Try.prog 58 #[.pointer (some ⟨rb, 0, none⟩), .int .i64 fr, .int .i64 t, .string lab, .int .i64 most] w (WayPost w E lab fr t most.toNat) := by
  obtain ⟨VL, EL, h1, rfl, rfl⟩ := h
  exact r19way_any h1 ok (by simpa using hl) (by simpa using hel) fr t lab most hm ht
set_option maxRecDepth 100000 in
set_option maxHeartbeats 16000000 in
theorem runs_any (va ea : Option Addr) (vc ec : Nat) (VL : List Vr) (EL : List Er) (a : PA) (w : World) (h1 : kVr.V w va VL) (h2 : kEr.V w ea EL) (h3 : ∀ x ∈ VL, VrOk w x) (h4 : ∀ x ∈ EL, ErOk w x) (hf : I64 a.fr) (ht : I64 a.t) (hl : a.lab.size ≤ 1048576) :
    Calls Try.prog 12 #[.agg #[.slice va VL.length vc, .slice ea EL.length ec], a.val] w fun e w' => e = .returned (.bool true) ∧ Below w.heap.size w w' := by
  obtain ⟨nv, hnv⟩ : ∃ n, n = VL.length := ⟨_, rfl⟩
  obtain ⟨ne, hne⟩ : ∃ n, n = EL.length := ⟨_, rfl⟩
  have HNV := Lib.hid hnv
  have HNE := Lib.hid hne
  have HSM : Hid (∀ u, Below w.heap.size w u → Calls Try.prog 53 #[.agg #[.slice va nv vc, .slice ea ne ec]] u (fun e w' => e = .returned (.bool (smallB VL EL)) ∧ Below u.heap.size u w')) := Lib.hid (fun u hu => by rw [hnv, hne]; exact small19_any va ea vc ec VL EL u (h1.below hu) (h2.below hu))
  have HPT : Hid (smallB VL EL = true → PtIn w va ea VL EL) := Lib.hid (fun hs => ptIn_of h1 h2 h3 h4 hs)
  rw [← hnv, ← hne]
  clear hnv hne h1 h2 h3 h4
  obtain ⟨pb, hpb⟩ : ∃ pb, pb = w.heap.size := ⟨_, rfl⟩
  obtain ⟨ab, hab⟩ : ∃ ab, ab = w.heap.size + 1 := ⟨_, rfl⟩
  obtain ⟨W, hW⟩ : ∃ W, W = ((w.alloc (.cells #[.slice va nv vc, .slice ea ne ec] 105)).alloc (.cells #[.int .i64 a.fr, .int .i64 a.t, .string a.lab, .int .i64 a.most] 107)) := ⟨_, rfl⟩
  have HWW : Hid (Below w.heap.size w W) := Lib.hid (by rw [hW]; exact (((Below.refl w.heap.size w).alloc (Nat.le_refl _) _).alloc (by simp) _))
  have HP0 : Hid (W.heap[pb]? = some (.cells #[.slice va nv vc, .slice ea ne ec] 105 (0, 0)) ∧ W.heap[ab]? = some (.cells #[.int .i64 a.fr, .int .i64 a.t, .string a.lab, .int .i64 a.most] 107 (0, 0))) := Lib.hid (by
    rw [hW, hpb, hab]
    exact ⟨(Below.heap_alloc _ _ _ (by simp)).trans (heap_new w _), heap_new2 w _ _⟩)
  have HBX : Hid (∀ u, Below W.heap.size W u → u.heap[pb]? = some (.cells #[.slice va nv vc, .slice ea ne ec] 105 (0, 0)) ∧ u.heap[ab]? = some (.cells #[.int .i64 a.fr, .int .i64 a.t, .string a.lab, .int .i64 a.most] 107 (0, 0))) := Lib.hid (fun u hu => ⟨(hu.block _ (Array.getElem?_eq_some_iff.1 HP0.out.1).1).trans HP0.out.1, (hu.block _ (Array.getElem?_eq_some_iff.1 HP0.out.2).1).trans HP0.out.2⟩)
  have HW := Lib.hid hW.symm
  have HQB := Lib.hid (And.intro hpb.symm hab.symm)
  have HF := Lib.hid hf
  have HT := Lib.hid ht
  have HL := Lib.hid hl
  clear hW hf ht hl
  unfold PA.val
  go_enter Try.func12, Try.ntmps12
  go_wp2_with fail
  rw [HW.out, HQB.out.2, HQB.out.1]
  clear hpb hab
  refine (awake19_any W).mono ?_
  rintro e w1 ⟨rfl, b1⟩
  have HB1 := Lib.hid b1
  obtain ⟨p1, p2⟩ := HBX.out w1 b1
  have p0 := cell_of_blk p1 0
  have p1 := cell_of_blk p1 1
  have zp : pb < w1.heap.size := by have := (Array.getElem?_eq_some_iff.1 (HBX.out w1 b1).1).1; exact this
  simp at p0 p1
  clear b1 p2
  go_wp2_with fail
  refine (HSM.out w1 (HWW.out.trans (HB1.out.mono HWW.out.size))).mono ?_
  rintro e w2 ⟨rfl, b2⟩
  have HB2 : Hid (Below W.heap.size W w2) := Lib.hid (HB1.out.trans (b2.mono HB1.out.size))
  clear b2 p0 p1 zp
  cases hs : smallB VL EL
  case false =>
    clear hs
    go_wp2_with fail
    refine (awake19_any _).mono ?_
    rintro e w9 ⟨rfl, b9⟩
    have HB9 : Hid (Below W.heap.size W w9) := Lib.hid (HB2.out.trans (b9.mono HB2.out.size))
    clear b9
    go_wp2_with fail
    go_ret
    exact ⟨rfl, HWW.out.trans (HB9.out.mono HWW.out.size)⟩

  have HS := Lib.hid hs
  clear hs
  obtain ⟨p1, p2⟩ := HBX.out w2 HB2.out
  have a2 := cell_of_blk p2 2
  have za : ab < w2.heap.size := (Array.getElem?_eq_some_iff.1 p2).1
  simp at a2
  clear p1 p2
  by_cases hll : 200 < a.lab.size
  · have tl : decide ((200 : Int) < (a.lab.size : Int)) = true := decide_eq_true (by omega)
    go_wp2_with fail
    refine (awake19_any _).mono ?_
    rintro e w9 ⟨rfl, b9⟩
    have HB9 : Hid (Below W.heap.size W w9) := Lib.hid (HB2.out.trans (b9.mono HB2.out.size))
    clear b9
    go_wp2_with fail
    go_ret
    exact ⟨rfl, HWW.out.trans (HB9.out.mono HWW.out.size)⟩

  have tl : decide ((200 : Int) < (a.lab.size : Int)) = false := decide_eq_false (by omega)
  have HLL : Hid (a.lab.size ≤ 200) := Lib.hid (by omega)
  obtain ⟨p1, p2⟩ := HBX.out w2 HB2.out
  have p0 := cell_of_blk p1 0
  have p1 := cell_of_blk p1 1
  simp at p0 p1
  clear p2

  go_wp2_with fail
  have HBT := built19_any va ea vc ec VL EL w2 ((HPT.out HS.out).below (HWW.out.trans (HB2.out.mono HWW.out.size)))
  rw [← HNV.out, ← HNE.out] at HBT
  refine HBT.mono ?_
  rintro e w3 ⟨gb, vb, eb, rb, B, rfl, hg, hr, b3⟩
  have hlen := built_len HS.out
  obtain ⟨V, hV⟩ : ∃ V, V = adV [] (VL.map Vr.v) := ⟨_, rfl⟩
  rw [← hV] at hg hr hlen
  obtain ⟨E, hE⟩ : ∃ E, E = adE V [] (EL.map Er.e) := ⟨_, rfl⟩
  rw [← hE] at hg hr hlen
  have HVD := Lib.hid hV
  have HED := Lib.hid hE
  have HG := Lib.hid hg
  have HR := Lib.hid hr
  have HLN := Lib.hid hlen
  have HB3 : Hid (Below W.heap.size W w3) := Lib.hid (HB2.out.trans (b3.mono HB2.out.size))
  clear hV hE hg hr hlen b3 HBT p0 p1 a2 za tl hll

  have HCL : Hid (∀ u, Below w3.heap.size w3 u → ∃ va5 vc5 ea5 ec5, u.cell? ⟨rb, 0, none⟩ = some (.slice va5 V.length vc5) ∧ u.cell? ⟨rb, 1, none⟩ = some (.slice ea5 E.length ec5) ∧ rb < u.heap.size) := Lib.hid (fun u hu => by
    obtain ⟨va5, vc5, ea5, ec5, hbk⟩ := (HR.out.below hu).cells
    exact ⟨va5, vc5, ea5, ec5, by rw [cell_of_blk hbk]; rfl, by rw [cell_of_blk hbk]; rfl, (Array.getElem?_eq_some_iff.1 hbk).1⟩)
  have HOK := Lib.hid HG.out.ok
  obtain ⟨nV, hnV⟩ : ∃ x, x = V.length := ⟨_, rfl⟩
  obtain ⟨nE, hnE⟩ : ∃ x, x = E.length := ⟨_, rfl⟩
  rw [← hnV, ← hnE] at HCL
  obtain ⟨N, hN⟩ : ∃ N, N = 4 + 4 * nV + 2 * nE := ⟨_, rfl⟩
  have HN : Hid (2 + 2 * (V.length + E.length) ≤ N ∧ N ≤ 1000) := Lib.hid (by have := HLN.out; rw [hN, hnV, hnE]; omega)
  have hbd : boundI (nV : Int) (nE : Int) = (N : Int) := by rw [hN]; exact bound_nat (by have := HLN.out; omega) (by have := HLN.out; omega)
  have HQ : Hid (∀ u, Quiet Try.prog 59 #[.int .i64 (nV : Int), .int .i64 (nE : Int)] u (.int .i64 (N : Int))) := Lib.hid (fun u => by rw [← hbd]; exact pquiet_v _ _ u)
  have HQR : Hid (∀ u, Quiet Try.prog 56 #[.int .i64 (nV : Int), .int .i64 (nE : Int)] u (.int .i64 (N : Int))) := Lib.hid (fun u => by rw [← hbd]; exact bound_quiet _ _ u)
  clear hnV hnE hN hbd
  obtain ⟨va5, vc5, ea5, ec5, g0, g1, zg⟩ := HCL.out w3 (Below.refl _ _)
  go_wp2_with fail
  go_quiet ((go_at_call 59; first | exact quiet_at (HQ.out _) | exact quiet_at2 (HQ.out _)))
  clear g0 g1 zg
  obtain ⟨w3d, hw3d⟩ : ∃ u, u = w3.drewN nq := ⟨_, rfl⟩
  rw [← hw3d]
  have hd3 : Below w3.heap.size w3 w3d := by rw [hw3d]; exact below_drewN (Below.refl _ _) _
  have HG3 := Lib.hid (HG.out.below hd3)
  have HRX : Hid (∀ u, Below w3d.heap.size w3d u → RgC u rb B V E) := Lib.hid (fun u hu => HR.out.below (below_then hd3 hu))
  have HCX : Hid (∀ u, Below w3d.heap.size w3d u → ∃ va5 vc5 ea5 ec5, u.cell? ⟨rb, 0, none⟩ = some (.slice va5 nV vc5) ∧ u.cell? ⟨rb, 1, none⟩ = some (.slice ea5 nE ec5) ∧ rb < u.heap.size) := Lib.hid (fun u hu => HCL.out u (below_then hd3 hu))
  have HD3 : Hid (Below W.heap.size W w3d) := Lib.hid (HB3.out.trans (hd3.mono HB3.out.size))
  clear hw3d hd3
  obtain ⟨p1, p2⟩ := HBX.out w3d HD3.out
  have a0 := cell_of_blk p2 0
  have a1 := cell_of_blk p2 1
  have a2 := cell_of_blk p2 2
  have a3 := cell_of_blk p2 3
  have za : ab < w3d.heap.size := (Array.getElem?_eq_some_iff.1 p2).1
  simp at a0 a1 a2 a3
  clear p1 p2

  go_wp2_with fail
  refine (run19_v gb vb eb V E a N w3d HG3.out ⟨HLN.out.1, by have := HLN.out.2; omega⟩ HF.out HT.out HL.out (by have := HN.out.2; omega)).mono ?_
  rintro e w4 ⟨v1, l, ce, rfl, o1, b4, r1⟩
  obtain ⟨s1, c1, rfl⟩ := o1.shape
  have HO1 := Lib.hid o1
  have HBAD : Hid (badA a → ce = 2 ∧ l = []) := Lib.hid (runs_law (w := []) HN.out.1 r1).1
  have HNONE : Hid (¬ badA a → ¬ (HasV V a.fr ∧ HasV V a.t) → ce = 101 ∧ l = []) := Lib.hid (fun h => ((runs_law (w := []) HN.out.1 r1).2 h).1)
  have HGO : Hid (¬ badA a → HasV V a.fr ∧ HasV V a.t → ∀ w, RowOk (edB E a.lab) a.most.toNat a.fr a.t w → (w = [] → ce = 190 ∧ l = []) ∧ (w ≠ [] → ce = 0 ∧ l = w)) := Lib.hid (fun h1 h2 w hw => ((runs_law HN.out.1 r1).2 h1).2 h2 hw)
  have HLEN : Hid (l.length ≤ 65) := Lib.hid r1.len
  have HX4 := Lib.hid b4
  have HB4 : Hid (Below W.heap.size W w4) := Lib.hid (HD3.out.trans (b4.mono HD3.out.size))
  clear o1 r1 b4 a0 a1 a2 a3 za
  obtain ⟨p1, p2⟩ := HBX.out w4 HB4.out
  have a0 := cell_of_blk p2 0
  have a1 := cell_of_blk p2 1
  have a2 := cell_of_blk p2 2
  have a3 := cell_of_blk p2 3
  have za : ab < w4.heap.size := (Array.getElem?_eq_some_iff.1 p2).1
  simp at a0 a1 a2 a3
  clear p1 p2

  go_wp2_with fail
  refine (run_nil_v a w4).mono ?_
  rintro e w5 ⟨rfl, b5⟩
  have HX5 : Hid (Below w3d.heap.size w3d w5) := Lib.hid (below_then HX4.out b5)
  have HO5 := Lib.hid (HO1.out.below b5)
  have HB5 : Hid (Below W.heap.size W w5) := Lib.hid (HB4.out.trans (b5.mono HB4.out.size))
  clear b5 a0 a1 a2 a3 za
  obtain ⟨va6, vc6, ea6, ec6, g0, g1, zg⟩ := HCX.out w5 HX5.out
  have tn : ((N : Int) != (N : Int)) = false := by simp
  go_wp2_with fail
  go_quiet ((go_at_call 56; first | exact quiet_at (HQR.out _) | exact quiet_at2 (HQR.out _)))
  clear g0 g1 zg tn
  obtain ⟨w5d, hw5d⟩ : ∃ u, u = w5.drewN nq := ⟨_, rfl⟩
  rw [← hw5d]
  have hd5 : Below w5.heap.size w5 w5d := by rw [hw5d]; exact below_drewN (Below.refl _ _) _
  have HX5d : Hid (Below w3d.heap.size w3d w5d) := Lib.hid (below_then HX5.out hd5)
  have HO5d := Lib.hid (HO5.out.below hd5)
  have HD5 : Hid (Below W.heap.size W w5d) := Lib.hid (HB5.out.trans (hd5.mono HB5.out.size))
  clear hw5d hd5
  obtain ⟨p1, p2⟩ := HBX.out w5d HD5.out
  have a0 := cell_of_blk p2 0
  have a1 := cell_of_blk p2 1
  have a2 := cell_of_blk p2 2
  have a3 := cell_of_blk p2 3
  have za : ab < w5d.heap.size := (Array.getElem?_eq_some_iff.1 p2).1
  simp at a0 a1 a2 a3
  clear p1 p2

  by_cases hl0 : a.lab.toList = []
  · have t3 : a.lab.toList.isEmpty = true := by simp [hl0]
    have HL0 := Lib.hid hl0
    clear hl0
    by_cases m1 : a.most < 0
    · have t5 : decide (a.most < 0) = true := decide_eq_true m1
      have HBB : Hid (badA a) := Lib.hid (.inr (.inl m1))
      clear m1
      obtain ⟨rfl, rfl⟩ := HBAD.out HBB.out
      go_wp2_with fail
      go_ret
      exact ⟨rfl, HWW.out.trans (HD5.out.mono HWW.out.size)⟩

    by_cases m2 : 64 < a.most
    · have t5 : decide (a.most < 0) = false := decide_eq_false m1
      have t6 : decide (64 < a.most) = true := decide_eq_true m2
      have HBB : Hid (badA a) := Lib.hid (.inr (.inr m2))
      clear m1 m2
      obtain ⟨rfl, rfl⟩ := HBAD.out HBB.out
      go_wp2_with fail
      go_ret
      exact ⟨rfl, HWW.out.trans (HD5.out.mono HWW.out.size)⟩

    have t5 : decide (a.most < 0) = false := decide_eq_false m1
    have t6 : decide (64 < a.most) = false := decide_eq_false m2
    have HNB : Hid (¬ badA a) := Lib.hid (fun h => by
      rcases h with h | h | h
      · exact h.1 HL0.out
      · exact m1 h
      · exact m2 h)
    clear m1 m2
    have HV1 := (HRX.out w5d HX5d.out).v (by have := HLN.out.1; omega) a.fr
    go_wp2_with fail
    refine HV1.mono ?_
    rintro e w7 ⟨rfl, r1, rfl, hr1⟩
    rcases hr1 with ⟨rfl, hno⟩ | ⟨⟨i1, rfl⟩, hf⟩
    · obtain ⟨rfl, rfl⟩ := HNONE.out HNB.out (fun h => hno h.1)
      have q1 : decide ((-1 : Int) < 0) = true := rfl
      clear hno
      go_wp2_with fail
      go_ret
      exact ⟨rfl, HWW.out.trans (HD5.out.mono HWW.out.size)⟩

    have q1 : decide ((i1 : Int) < 0) = false := decide_eq_false (by omega)
    have HV2 := (HRX.out w5d HX5d.out).v (by have := HLN.out.1; omega) a.t
    go_wp2_with fail
    refine HV2.mono ?_
    rintro e w7 ⟨rfl, r2, rfl, hr2⟩
    rcases hr2 with ⟨rfl, hno⟩ | ⟨⟨i2, rfl⟩, htv⟩
    · obtain ⟨rfl, rfl⟩ := HNONE.out HNB.out (fun h => hno h.2)
      have q2 : decide ((-1 : Int) < 0) = true := rfl
      clear hno
      go_wp2_with fail
      go_ret
      exact ⟨rfl, HWW.out.trans (HD5.out.mono HWW.out.size)⟩

    have q2 : decide ((i2 : Int) < 0) = false := decide_eq_false (by omega)
    have HFT := Lib.hid (And.intro hf htv)
    have HWY := (HRX.out w5d HX5d.out).way HOK.out (by have := HLN.out.1; omega) (by have := HLN.out.2; omega) a.fr a.t a.lab a.most (by have := HNB.out; unfold badA at this; omega) htv
    clear hf htv
    go_wp2_with fail
    refine HWY.mono ?_
    rintro e w8 ⟨ya, yc, wl, rfl, yo, yb, yr⟩
    have HB8 : Hid (Below W.heap.size W w8) := Lib.hid (HD5.out.trans (yb.mono HD5.out.size))
    have HYO := Lib.hid yo
    have HO8 := Lib.hid (HO5d.out.below yb)
    obtain ⟨g1, g2⟩ := HGO.out HNB.out HFT.out wl yr
    clear yo yb yr a0 a1 a2 a3 za
    by_cases hw : wl = []
    · obtain ⟨rfl, rfl⟩ := g1 hw
      have q3 : decide (0 < wl.length) = false := by rw [hw]; rfl
      clear hw g1 g2
      go_wp2_with fail
      go_ret
      exact ⟨rfl, HWW.out.trans (HB8.out.mono HWW.out.size)⟩

    obtain ⟨rfl, rfl⟩ := g2 hw
    have q3 : decide (0 < l.length) = true := decide_eq_true (List.length_pos_iff.2 hw)
    have HI : Hid (Calls Try.prog 57 #[.slice s1 l.length c1, .slice ya l.length yc] w8 fun e w' => e = .returned (.bool true) ∧ Below w8.heap.size w8 w') := Lib.hid (by
      have := ints10_any s1 ya c1 yc l l w8 HO8.out.toV HYO.out.toV (by have := HLEN.out; omega)
      rw [decide_eq_true (rfl : l = l)] at this
      exact this)
    clear hw g1 g2
    go_wp2_with fail
    refine HI.out.mono ?_
    rintro e w9 ⟨rfl, b9⟩
    have HB9 : Hid (Below W.heap.size W w9) := Lib.hid (HB8.out.trans (b9.mono HB8.out.size))
    clear b9
    go_wp2_with fail
    go_ret
    exact ⟨rfl, HWW.out.trans (HB9.out.mono HWW.out.size)⟩

  · have t3 : a.lab.toList.isEmpty = false := by simpa using hl0
    have HL0 := Lib.hid hl0
    obtain ⟨bs, hbs⟩ : ∃ b, b = badS a.lab := ⟨_, rfl⟩
    have HBS := Lib.hid hbs
    have HRR : Hid (Calls Try.prog 61 #[.string a.lab] w5d fun e w' => e = .returned (.bool (!bs)) ∧ Below w5d.heap.size w5d w') := Lib.hid (by rw [hbs]; exact r1right_any a.lab w5d (by have := HL.out; omega))
    clear hl0 hbs
    go_wp2_with fail
    refine HRR.out.mono ?_
    rintro e w6 ⟨rfl, b6⟩
    have HX6 : Hid (Below w3d.heap.size w3d w6) := Lib.hid (below_then HX5d.out b6)
    have HO6 := Lib.hid (HO5d.out.below b6)
    have HD6 : Hid (Below W.heap.size W w6) := Lib.hid (HD5.out.trans (b6.mono HD5.out.size))
    clear b6 a0 a1 a2 a3 za
    obtain ⟨p1, p2⟩ := HBX.out w6 HD6.out
    have a0 := cell_of_blk p2 0
    have a1 := cell_of_blk p2 1
    have a2 := cell_of_blk p2 2
    have a3 := cell_of_blk p2 3
    have za : ab < w6.heap.size := (Array.getElem?_eq_some_iff.1 p2).1
    simp at a0 a1 a2 a3
    clear p1 p2

    cases bs
    case true =>
      have HBB : Hid (badA a) := Lib.hid (.inl ⟨HL0.out, HBS.out.symm⟩)
      obtain ⟨rfl, rfl⟩ := HBAD.out HBB.out
      go_wp2_with fail
      go_ret
      exact ⟨rfl, HWW.out.trans (HD6.out.mono HWW.out.size)⟩

    case false =>
      by_cases m1 : a.most < 0
      · have t5 : decide (a.most < 0) = true := decide_eq_true m1
        have HBB : Hid (badA a) := Lib.hid (.inr (.inl m1))
        clear m1
        obtain ⟨rfl, rfl⟩ := HBAD.out HBB.out
        go_wp2_with fail
        go_ret
        exact ⟨rfl, HWW.out.trans (HD6.out.mono HWW.out.size)⟩

      by_cases m2 : 64 < a.most
      · have t5 : decide (a.most < 0) = false := decide_eq_false m1
        have t6 : decide (64 < a.most) = true := decide_eq_true m2
        have HBB : Hid (badA a) := Lib.hid (.inr (.inr m2))
        clear m1 m2
        obtain ⟨rfl, rfl⟩ := HBAD.out HBB.out
        go_wp2_with fail
        go_ret
        exact ⟨rfl, HWW.out.trans (HD6.out.mono HWW.out.size)⟩

      have t5 : decide (a.most < 0) = false := decide_eq_false m1
      have t6 : decide (64 < a.most) = false := decide_eq_false m2
      have HNB : Hid (¬ badA a) := Lib.hid (fun h => by
        rcases h with h | h | h
        · rw [← HBS.out] at h; exact absurd h.2 (by decide)
        · exact m1 h
        · exact m2 h)
      clear m1 m2
      have HV1 := (HRX.out w6 HX6.out).v (by have := HLN.out.1; omega) a.fr
      go_wp2_with fail
      refine HV1.mono ?_
      rintro e w7 ⟨rfl, r1, rfl, hr1⟩
      rcases hr1 with ⟨rfl, hno⟩ | ⟨⟨i1, rfl⟩, hf⟩
      · obtain ⟨rfl, rfl⟩ := HNONE.out HNB.out (fun h => hno h.1)
        have q1 : decide ((-1 : Int) < 0) = true := rfl
        clear hno
        go_wp2_with fail
        go_ret
        exact ⟨rfl, HWW.out.trans (HD6.out.mono HWW.out.size)⟩

      have q1 : decide ((i1 : Int) < 0) = false := decide_eq_false (by omega)
      have HV2 := (HRX.out w6 HX6.out).v (by have := HLN.out.1; omega) a.t
      go_wp2_with fail
      refine HV2.mono ?_
      rintro e w7 ⟨rfl, r2, rfl, hr2⟩
      rcases hr2 with ⟨rfl, hno⟩ | ⟨⟨i2, rfl⟩, htv⟩
      · obtain ⟨rfl, rfl⟩ := HNONE.out HNB.out (fun h => hno h.2)
        have q2 : decide ((-1 : Int) < 0) = true := rfl
        clear hno
        go_wp2_with fail
        go_ret
        exact ⟨rfl, HWW.out.trans (HD6.out.mono HWW.out.size)⟩

      have q2 : decide ((i2 : Int) < 0) = false := decide_eq_false (by omega)
      have HFT := Lib.hid (And.intro hf htv)
      have HWY := (HRX.out w6 HX6.out).way HOK.out (by have := HLN.out.1; omega) (by have := HLN.out.2; omega) a.fr a.t a.lab a.most (by have := HNB.out; unfold badA at this; omega) htv
      clear hf htv
      go_wp2_with fail
      refine HWY.mono ?_
      rintro e w8 ⟨ya, yc, wl, rfl, yo, yb, yr⟩
      have HB8 : Hid (Below W.heap.size W w8) := Lib.hid (HD6.out.trans (yb.mono HD6.out.size))
      have HYO := Lib.hid yo
      have HO8 := Lib.hid (HO6.out.below yb)
      obtain ⟨g1, g2⟩ := HGO.out HNB.out HFT.out wl yr
      clear yo yb yr a0 a1 a2 a3 za
      by_cases hw : wl = []
      · obtain ⟨rfl, rfl⟩ := g1 hw
        have q3 : decide (0 < wl.length) = false := by rw [hw]; rfl
        clear hw g1 g2
        go_wp2_with fail
        go_ret
        exact ⟨rfl, HWW.out.trans (HB8.out.mono HWW.out.size)⟩

      obtain ⟨rfl, rfl⟩ := g2 hw
      have q3 : decide (0 < l.length) = true := decide_eq_true (List.length_pos_iff.2 hw)
      have HI : Hid (Calls Try.prog 57 #[.slice s1 l.length c1, .slice ya l.length yc] w8 fun e w' => e = .returned (.bool true) ∧ Below w8.heap.size w8 w') := Lib.hid (by
        have := ints10_any s1 ya c1 yc l l w8 HO8.out.toV HYO.out.toV (by have := HLEN.out; omega)
        rw [decide_eq_true (rfl : l = l)] at this
        exact this)
      clear hw g1 g2
      go_wp2_with fail
      refine HI.out.mono ?_
      rintro e w9 ⟨rfl, b9⟩
      have HB9 : Hid (Below W.heap.size W w9) := Lib.hid (HB8.out.trans (b9.mono HB8.out.size))
      clear b9
      go_wp2_with fail
      go_ret
      exact ⟨rfl, HWW.out.trans (HB9.out.mono HWW.out.size)⟩

end Go.Proofs.Ytaanohgkdpohhaa
