/- Law PathParts: the walk. Conditions: small bulk. -/
import Derived.Test.YtaanohgkdpohhaaRunsLaw
import Derived.BigQuiet
import Derived.StillTailTactics
namespace Go.Proofs.Ytaanohgkdpohhaa
open Go.RowKit Go.Maps

theorem hasV_i64 {V : List Vt} {E : List Eg} (ok : PGo V E) {n : Int} (h : HasV V n) : I64 n := by
  obtain ⟨u, hu, rfl⟩ := h
  exact checkR_ids (ok.v u hu) (by simp)
theorem RnM.none {V : List Vt} {E : List Eg} {a : PA} {st : Option Nat} {f : Int} {m : List Int} (h : RnM V E a st f m) (hf : f ≠ 0) : m = [] := by
  rcases h with ⟨_, _, rfl⟩ | ⟨_, h⟩
  · rfl
  · rcases h with ⟨_, rfl, _⟩ | ⟨_, rfl, _⟩ | ⟨_, rfl, _⟩ | ⟨h, _⟩
    · rfl
    · rfl
    · rfl
    · exact absurd h hf
theorem run19_w (gb vb eb : Nat) (V : List Vt) (E : List Eg) (fr t : Int) (lab : ByteArray) (most : Int) (n : Nat) (w : World) (hG : GrC w gb vb eb V E) (hl : V.length ≤ 20 ∧ E.length ≤ 61) (hf : I64 fr) (ht : I64 t) (hls : lab.size ≤ 1048576) (hn : n ≤ 1048576) :
    Calls Try.prog 55 #[.pointer (some ⟨gb, 0, none⟩), .int .i64 (n : Int), .agg #[.int .i64 fr, .int .i64 t, .string lab, .int .i64 most]] w (R19P w V E ⟨fr, t, lab, most⟩ n) :=
  run19_v gb vb eb V E ⟨fr, t, lab, most⟩ n w hG hl hf ht hls hn
set_option maxRecDepth 100000 in
set_option maxHeartbeats 16000000 in
theorem parts_any (va ea : Option Addr) (vc ec : Nat) (VL : List Vr) (EL : List Er) (a : PA) (w : World) (h1 : kVr.V w va VL) (h2 : kEr.V w ea EL) (h3 : ∀ x ∈ VL, VrOk w x) (h4 : ∀ x ∈ EL, ErOk w x) (hf : I64 a.fr) (ht : I64 a.t) (hl : a.lab.size ≤ 1048576) :
    Calls Try.prog 10 #[.agg #[.slice va VL.length vc, .slice ea EL.length ec], a.val] w fun e w' => e = .returned (.bool true) ∧ Below w.heap.size w w' := by
  obtain ⟨nv, hnv⟩ : ∃ n, n = VL.length := ⟨_, rfl⟩
  obtain ⟨ne, hne⟩ : ∃ n, n = EL.length := ⟨_, rfl⟩
  have HNV := Lib.hid hnv
  have HNE := Lib.hid hne
  have HSM : Hid (∀ u, Below w.heap.size w u → Calls Try.prog 53 #[.agg #[.slice va nv vc, .slice ea ne ec]] u (fun e w' => e = .returned (.bool (smallB VL EL)) ∧ Below u.heap.size u w')) := Lib.hid (fun u hu => by rw [hnv, hne]; exact small19_any va ea vc ec VL EL u (h1.below hu) (h2.below hu))
  have HPT : Hid (smallB VL EL = true → PtIn w va ea VL EL) := Lib.hid (fun hs => ptIn_of h1 h2 h3 h4 hs)
  rw [← hnv, ← hne]
  clear hnv hne h1 h2 h3 h4
  obtain ⟨pb, hpb⟩ : ∃ pb, pb = w.heap.size := ⟨_, rfl⟩
  obtain ⟨ab, hab⟩ : ∃ ab, ab = w.heap.size + 1 := ⟨_, rfl⟩
  obtain ⟨W, hW⟩ : ∃ W, W = ((w.alloc (.cells #[.slice va nv vc, .slice ea ne ec] 105)).alloc (.cells #[.int .i64 a.fr, .int .i64 a.t, .string a.lab, .int .i64 a.most] 107)) := ⟨_, rfl⟩
  have HWW : Hid (Below w.heap.size w W) := Lib.hid (by rw [hW]; exact (((Below.refl w.heap.size w).alloc (Nat.le_refl _) _).alloc (by simp) _))
  have HP0 : Hid (W.heap[pb]? = some (.cells #[.slice va nv vc, .slice ea ne ec] 105 (0, 0)) ∧ W.heap[ab]? = some (.cells #[.int .i64 a.fr, .int .i64 a.t, .string a.lab, .int .i64 a.most] 107 (0, 0))) := Lib.hid (by
    rw [hW, hpb, hab]
    exact ⟨(Below.heap_alloc _ _ _ (by simp)).trans (heap_new w _), heap_new2 w _ _⟩)
  have HBX : Hid (∀ u, Below W.heap.size W u → u.heap[pb]? = some (.cells #[.slice va nv vc, .slice ea ne ec] 105 (0, 0)) ∧ u.heap[ab]? = some (.cells #[.int .i64 a.fr, .int .i64 a.t, .string a.lab, .int .i64 a.most] 107 (0, 0))) := Lib.hid (fun u hu => ⟨(hu.block _ (Array.getElem?_eq_some_iff.1 HP0.out.1).1).trans HP0.out.1, (hu.block _ (Array.getElem?_eq_some_iff.1 HP0.out.2).1).trans HP0.out.2⟩)
  have HW := Lib.hid hW.symm
  have HQB := Lib.hid (And.intro hpb.symm hab.symm)
  have HF := Lib.hid hf
  have HT := Lib.hid ht
  have HL := Lib.hid hl
  clear hW hf ht hl
  unfold PA.val
  go_enter Try.func10, Try.ntmps10
  go_wp2_with fail
  rw [HW.out, HQB.out.2, HQB.out.1]
  clear hpb hab
  refine (awake19_any W).mono ?_
  rintro e w1 ⟨rfl, b1⟩
  have HB1 := Lib.hid b1
  obtain ⟨p1, p2⟩ := HBX.out w1 b1
  have p0 := cell_of_blk p1 0
  have p1 := cell_of_blk p1 1
  have zp : pb < w1.heap.size := by have := (Array.getElem?_eq_some_iff.1 (HBX.out w1 b1).1).1; exact this
  simp at p0 p1
  clear b1 p2
  go_wp2_with fail
  refine (HSM.out w1 (HWW.out.trans (HB1.out.mono HWW.out.size))).mono ?_
  rintro e w2 ⟨rfl, b2⟩
  have HB2 : Hid (Below W.heap.size W w2) := Lib.hid (HB1.out.trans (b2.mono HB1.out.size))
  clear b2 p0 p1 zp
  cases hs : smallB VL EL
  case false =>
    clear hs
    go_wp2_with fail
    refine (awake19_any _).mono ?_
    rintro e w9 ⟨rfl, b9⟩
    have HB9 : Hid (Below W.heap.size W w9) := Lib.hid (HB2.out.trans (b9.mono HB2.out.size))
    clear b9
    go_wp2_with fail
    go_ret
    exact ⟨rfl, HWW.out.trans (HB9.out.mono HWW.out.size)⟩

  have HS := Lib.hid hs
  clear hs
  obtain ⟨p1, p2⟩ := HBX.out w2 HB2.out
  have a2 := cell_of_blk p2 2
  have za : ab < w2.heap.size := (Array.getElem?_eq_some_iff.1 p2).1
  simp at a2
  clear p1 p2
  by_cases hll : 200 < a.lab.size
  · have tl : decide ((200 : Int) < (a.lab.size : Int)) = true := decide_eq_true (by omega)
    go_wp2_with fail
    refine (awake19_any _).mono ?_
    rintro e w9 ⟨rfl, b9⟩
    have HB9 : Hid (Below W.heap.size W w9) := Lib.hid (HB2.out.trans (b9.mono HB2.out.size))
    clear b9
    go_wp2_with fail
    go_ret
    exact ⟨rfl, HWW.out.trans (HB9.out.mono HWW.out.size)⟩

  have tl : decide ((200 : Int) < (a.lab.size : Int)) = false := decide_eq_false (by omega)
  have HLL : Hid (a.lab.size ≤ 200) := Lib.hid (by omega)
  obtain ⟨p1, p2⟩ := HBX.out w2 HB2.out
  have p0 := cell_of_blk p1 0
  have p1 := cell_of_blk p1 1
  simp at p0 p1
  clear p2

  go_wp2_with fail
  have HBT := built19_any va ea vc ec VL EL w2 ((HPT.out HS.out).below (HWW.out.trans (HB2.out.mono HWW.out.size)))
  rw [← HNV.out, ← HNE.out] at HBT
  refine HBT.mono ?_
  rintro e w3 ⟨gb, vb, eb, rb, B, rfl, hg, hr, b3⟩
  have hlen := built_len HS.out
  obtain ⟨V, hV⟩ : ∃ V, V = adV [] (VL.map Vr.v) := ⟨_, rfl⟩
  rw [← hV] at hg hr hlen
  obtain ⟨E, hE⟩ : ∃ E, E = adE V [] (EL.map Er.e) := ⟨_, rfl⟩
  rw [← hE] at hg hr hlen
  have HVD := Lib.hid hV
  have HED := Lib.hid hE
  have HG := Lib.hid hg
  have HR := Lib.hid hr
  have HLN := Lib.hid hlen
  have HB3 : Hid (Below W.heap.size W w3) := Lib.hid (HB2.out.trans (b3.mono HB2.out.size))
  clear hV hE hg hr hlen b3 HBT p0 p1 a2 za tl hll

  obtain ⟨p1, p2⟩ := HBX.out w3 HB3.out
  have a0 := cell_of_blk p2 0
  have a1 := cell_of_blk p2 1
  have a2 := cell_of_blk p2 2
  have a3 := cell_of_blk p2 3
  have za : ab < w3.heap.size := (Array.getElem?_eq_some_iff.1 p2).1
  simp at a0 a1 a2 a3
  clear p1 p2

  have HOK := Lib.hid HG.out.ok
  go_wp2_with fail
  refine (run19_w gb vb eb V E a.fr a.t a.lab a.most 1048576 w3 HG.out ⟨HLN.out.1, by have := HLN.out.2; omega⟩ HF.out HT.out HL.out (Nat.le_refl _)).mono ?_
  rintro e w4 ⟨v1, l, ce, rfl, o1, b4, r1⟩
  obtain ⟨s1, c1, rfl⟩ := o1.shape
  have HGX : Hid (∀ u, Below w4.heap.size w4 u → GrC u gb vb eb V E) := Lib.hid (fun u hu => HG.out.below (below_then b4 hu))
  have HRX : Hid (∀ u, Below w4.heap.size w4 u → RgC u rb B V E) := Lib.hid (fun u hu => HR.out.below (below_then b4 hu))
  have HB4 : Hid (Below W.heap.size W w4) := Lib.hid (HB3.out.trans (b4.mono HB3.out.size))
  clear b4 a0 a1 a2 a3 za
  by_cases hce : ce = 0
  case neg =>
    have hnl := r1.none hce
    subst hnl
    have t1 : (ce != 0) = true := by simpa using hce
    clear hce r1 o1
    go_wp2_with fail
    go_ret
    exact ⟨rfl, HWW.out.trans (HB4.out.mono HWW.out.size)⟩
  subst hce
  obtain ⟨hl0, hl65, hlm, hfr, hto, hap, hpr, hed, hls⟩ := parts_law HLN.out.1 HLN.out.2 HOK.out r1
  have hm64 : a.most ≤ 64 ∧ 0 ≤ a.most := by
    rcases r1 with ⟨_, h, _⟩ | ⟨nb, _⟩
    · cases h
    · have nb2 : ¬ badA a := nb
      unfold badA at nb2; omega
  have HLM := Lib.hid (And.intro hlm hm64)
  have HEND := Lib.hid (And.intro hfr hto)
  have HAP := Lib.hid hap
  have HPR := Lib.hid hpr
  have HED2 := Lib.hid hed
  have HLS := Lib.hid hls
  obtain ⟨lb, lcap, hsl, _, _, hat⟩ := o1.at' (fun e => by rw [e] at hl0; simp at hl0)
  injection hsl with e1 e2 e3
  subst e1
  have HAT : Hid (∀ u, Below w4.heap.size w4 u → kI.At u lb 0 l) := Lib.hid (fun u hu => hat.below hu)
  clear hat e2 e3 o1 r1 hlm hm64 hfr hto hap hpr hed hls
  go_wp2_with fail
  go_loopw [9] (fun iv wr => ∃ i : Nat, iv = .int .i64 (i : Int) ∧ i ≤ l.length ∧ Hid (Below w4.heap.size w4 wr)) (fun iv _ => l.length - (intOf iv).toNat)
  case atStart => exact ⟨0, rfl, Nat.zero_le _, Lib.hid (Below.refl _ _)⟩
  case round =>
    obtain ⟨i, rfl, hi, HBI⟩ := hrel
    by_cases hlt : i < l.length
    · obtain ⟨xi, hxi⟩ : ∃ x, l[i]? = some x := ⟨_, List.getElem?_eq_getElem hlt⟩
      have HXI := Lib.hid hxi
      clear hxi
      go_wp2_with fail
      obtain ⟨wo, hwo⟩ : ∃ wo : World, wo = wr := ⟨_, rfl⟩
      have HB0 : Hid (Below wo.heap.size wo wr) := Lib.hid (by rw [hwo]; exact Below.refl _ _)
      rw [← hwo] at HBI
      clear hwo
      go_loopw [10] (fun kv wk => ∃ k : Nat, kv = .int .i64 (k : Int) ∧ k ≤ i ∧ Hid (Below wo.heap.size wo wk)) (fun kv _ => i - (intOf kv).toNat)
      case atStart => exact ⟨0, rfl, Nat.zero_le _, HB0⟩
      case round =>
        obtain ⟨k, rfl, hk, HBK⟩ := hrel
        have HB5 : Hid (Below w4.heap.size w4 wr) := Lib.hid (below_then HBI.out HBK.out)
        have hat := HAT.out wr HB5.out
        have x0 := hat.cells i xi HXI.out 0 _ rfl
        simp [kI] at x0
        have zl := hat.lt
        by_cases hlk : k < i
        · obtain ⟨xk, hxk⟩ : ∃ x, l[k]? = some x := ⟨_, List.getElem?_eq_getElem (by omega)⟩
          have x1 := hat.cells k xk hxk 0 _ rfl
          simp [kI] at x1
          have hne : xk ≠ xi := fun e => HAP.out i k hlk hlt (by rw [hxk, HXI.out, e])
          have t2 : (xk == xi) = false := by simpa using hne
          have hkl : k < l.length := by omega
          clear hat hxk hne
          go_wp2_with fail
          go_quiet (fail)
          go_wp2_with fail
          exact ⟨⟨k + 1, by simp, hlk, Lib.hid (below_drewN HBK.out _)⟩, by simp [intOf]; omega⟩
        · have hki : k = i := by omega
          have tk : decide ((k : Int) < (i : Int)) = false := decide_eq_false (by omega)
          clear hat hki
          obtain ⟨p1, p2⟩ := HBX.out wr (HB4.out.trans (HB5.out.mono HB4.out.size))
          have a0 := cell_of_blk p2 0
          have a1 := cell_of_blk p2 1
          have a2 := cell_of_blk p2 2
          have a3 := cell_of_blk p2 3
          have za : ab < wr.heap.size := (Array.getElem?_eq_some_iff.1 p2).1
          simp at a0 a1 a2 a3
          clear p1 p2

          go_upto_region 15 with fail
          clear tk hk hlk
          go_cut [11, 12] from 67 to 80 (fun s11 s12 wc => ∃ s2 c2 u, s11 = .slice s2 (i + 1) c2 ∧ s12 = .int .i64 0 ∧ u = wc ∧ Hid (Below w4.heap.size w4 u))
          case first =>
            have hbd : Below wr.heap.size wr wr.drew := below_drewN (Below.refl _ _) 1
            have HBD : Hid (Below w4.heap.size w4 wr.drew) := Lib.hid (below_then HB5.out hbd)
            have HRUN : Hid (Calls Try.prog 55 #[.pointer (some ⟨gb, 0, none⟩), .int .i64 1048576, .agg #[.int .i64 a.fr, .int .i64 xi, .string a.lab, .int .i64 64]] wr.drew fun e w' => ∃ s2 c2, e = .returned (.tuple #[.slice s2 (i + 1) c2, .int .i64 0]) ∧ Below wr.drew.heap.size wr.drew w') := Lib.hid (by
              have hv := HPR.out i xi HXI.out
              refine (run19_w gb vb eb V E a.fr xi a.lab 64 1048576 wr.drew (HGX.out _ HBD.out) ⟨HLN.out.1, by have := HLN.out.2; omega⟩ HF.out (hasV_i64 HOK.out hv.1) HL.out (Nat.le_refl _)).mono ?_
              rintro e w6 ⟨v2, m2, f2, rfl, o2, b6, r2⟩
              obtain ⟨hf2, hm2⟩ := hv.2 f2 m2 r2
              obtain ⟨s2, c2, rfl⟩ := o2.shape
              exact ⟨s2, c2, by rw [hm2, hf2], b6⟩)
            have KS : Hid (∀ u, Below wr.drew.heap.size wr.drew u → u.cell? ⟨ab, 0, none⟩ = some (.int .i64 a.fr) ∧ u.cell? ⟨ab, 2, none⟩ = some (.string a.lab) ∧ u.cell? ⟨lb, i, none⟩ = some (.int .i64 xi)) := Lib.hid (fun u hu => ⟨below_cell (below_then hbd hu) 0 za a0, below_cell (below_then hbd hu) 2 za a2, below_cell (below_then hbd hu) i zl x0⟩)
            clear hbd
            go_region_held3 (fun w' => w'.cell? ⟨ab, 0, none⟩ = some (.int .i64 a.fr) ∧ w'.cell? ⟨ab, 2, none⟩ = some (.string a.lab) ∧ w'.cell? ⟨lb, i, none⟩ = some (.int .i64 xi))
              (first | exact KS.out _ (Below.refl _ _) | exact KS.out _ HB6.out)
              (first | (go_at_call 55; (with_reducible refine HRUN.out.mono ?_); rintro e w6 ⟨s2, c2, rfl, b6⟩; have HB6 := Lib.hid b6; clear b6) | fail)
            all_goals (
              go_wp2_with fail
              go_meet
              exact ⟨_, _, _, rfl, rfl, rfl, Lib.hid (below_then HBD.out HB6.out)⟩)
          case rest =>
          obtain ⟨s2, c2, w6, rfl, rfl, rfl, HB7⟩ := hcut
          clear a0 a1 a2 a3 za x0 zl
          have t3 : (((i + 1 : Nat) : Int) != (i : Int) + 1) = false := by simp
          by_cases hlast : i + 1 < l.length
          · have t4 : decide ((i : Int) + 1 < (l.length : Int)) = true := decide_eq_true (by omega)
            obtain ⟨i1, hi1⟩ : ∃ i1, i1 = i + 1 := ⟨_, rfl⟩
            obtain ⟨xj, hxj⟩ : ∃ x, l[i1]? = some x := ⟨_, List.getElem?_eq_getElem (by omega)⟩
            have hat := HAT.out w6 HB7.out
            have x0 := hat.cells i xi HXI.out 0 _ rfl
            have x1 := hat.cells i1 xj hxj 0 _ rfl
            simp [kI] at x0 x1
            have zl := hat.lt
            have HXJ := Lib.hid hxj
            clear hat hxj
            obtain ⟨p1, p2⟩ := HBX.out w6 (HB4.out.trans (HB7.out.mono HB4.out.size))
            have a0 := cell_of_blk p2 0
            have a1 := cell_of_blk p2 1
            have a2 := cell_of_blk p2 2
            have a3 := cell_of_blk p2 3
            have za : ab < w6.heap.size := (Array.getElem?_eq_some_iff.1 p2).1
            simp at a0 a1 a2 a3
            clear p1 p2

            have HI1 := Lib.hid hi1
            have hw1 : IntKind.i64.wrap ((i : Int) + 1) = (i1 : Int) := by rw [IntKind.wrap_i64]; omega
            have hi1a : (0 : Int) ≤ (i1 : Int) := by omega
            have hi1b : (i1 : Int) < (l.length : Int) := by omega
            have hia : (0 : Int) ≤ (i : Int) := by omega
            have hib : (i : Int) < (l.length : Int) := by omega
            go_upto_region 19 with fail
            clear t4 hi1
            go_cut [13, 14] from 95 to 110 (fun s13 s14 wc => ∃ s2 c2 u, s13 = .slice s2 2 c2 ∧ s14 = .bool true ∧ u = wc ∧ Hid (Below w4.heap.size w4 u))
            case first =>
              have hbd : Below w6.heap.size w6 w6.drew := below_drewN (Below.refl _ _) 1
              have HBD : Hid (Below w4.heap.size w4 w6.drew) := Lib.hid (below_then HB7.out hbd)
              have HWY : Hid (Calls Try.prog 58 #[.pointer (some ⟨rb, 0, none⟩), .int .i64 xi, .int .i64 xj, .string a.lab, .int .i64 1] w6.drew fun e w' => ∃ s2 c2, e = .returned (.tuple #[.slice s2 2 c2, .bool true]) ∧ Below w6.drew.heap.size w6.drew w') := Lib.hid (by
                have hxj := HXJ.out
                rw [HI1.out] at hxj
                have hv := HPR.out (i + 1) xj hxj
                refine ((HRX.out _ HBD.out).way HOK.out (by have := HLN.out.1; omega) (by have := HLN.out.2; omega) xi xj a.lab 1 (by decide) hv.1).mono ?_
                rintro e w8 ⟨ya, yc, wl, rfl, yo, yb, yr⟩
                have h2 := HED2.out i xi xj HXI.out hxj wl yr
                exact ⟨ya, yc, by rw [h2]; rfl, yb⟩)
              have KS : Hid (∀ u, Below w6.drew.heap.size w6.drew u → u.cell? ⟨lb, i1, none⟩ = some (.int .i64 xj) ∧ u.cell? ⟨ab, 2, none⟩ = some (.string a.lab) ∧ u.cell? ⟨lb, i, none⟩ = some (.int .i64 xi)) := Lib.hid (fun u hu => ⟨below_cell (below_then hbd hu) i1 zl x1, below_cell (below_then hbd hu) 2 za a2, below_cell (below_then hbd hu) i zl x0⟩)
              clear hbd
              go_region_held3 (fun w' => w'.cell? ⟨lb, i1, none⟩ = some (.int .i64 xj) ∧ w'.cell? ⟨ab, 2, none⟩ = some (.string a.lab) ∧ w'.cell? ⟨lb, i, none⟩ = some (.int .i64 xi))
                (first | exact KS.out _ (Below.refl _ _) | exact KS.out _ HB6.out)
                (first | (go_at_call 58; (with_reducible refine HWY.out.mono ?_); rintro e w7 ⟨s2, c2, rfl, b6⟩; have HB6 := Lib.hid b6; clear b6) | fail)
              all_goals (
                go_wp2_with fail
                go_meet
                exact ⟨_, _, _, rfl, rfl, rfl, Lib.hid (below_then HBD.out HB6.out)⟩)
            case rest =>
            obtain ⟨s3, c3, w7, rfl, rfl, rfl, HB8⟩ := hcut
            clear a0 a1 a2 a3 za x0 x1 zl hw1 hi1a hi1b hia hib
            go_wp2_with fail
            exact ⟨⟨i + 1, by simp, hlt, HB8⟩, by simp [intOf]; omega⟩
          · have t4 : decide ((i : Int) + 1 < (l.length : Int)) = false := decide_eq_false (by omega)
            go_wp2_with fail
            exact ⟨⟨i + 1, by simp, hlt, HB7⟩, by simp [intOf]; omega⟩
    · have hil : i = l.length := by omega
      have ti : decide ((i : Int) < (l.length : Int)) = false := decide_eq_false (by omega)
      clear hil
      obtain ⟨p1, p2⟩ := HBX.out wr (HB4.out.trans (HBI.out.mono HB4.out.size))
      have a0 := cell_of_blk p2 0
      have a1 := cell_of_blk p2 1
      have a2 := cell_of_blk p2 2
      have a3 := cell_of_blk p2 3
      have za : ab < wr.heap.size := (Array.getElem?_eq_some_iff.1 p2).1
      simp at a0 a1 a2 a3
      clear p1 p2

      have hw2 : IntKind.i64.wrap ((l.length : Int) - 2) = (l.length : Int) - 2 := IntWalk.i64_in _ (by omega)
      have HRUN := run19_w gb vb eb V E a.fr a.t a.lab ((l.length : Int) - 2) 1048576 wr (HGX.out wr HBI.out) ⟨HLN.out.1, by have := HLN.out.2; omega⟩ HF.out HT.out HL.out (Nat.le_refl _)
      go_wp2_with fail
      refine HRUN.mono ?_
      rintro e w6 ⟨v2, m2, f2, rfl, o2, b6, r2⟩
      obtain ⟨s2, c2, rfl⟩ := o2.shape
      obtain ⟨q1, q2⟩ := HLS.out f2 m2 r2
      have HB7 : Hid (Below w4.heap.size w4 w6) := Lib.hid (below_then HBI.out b6)
      obtain ⟨n, hn⟩ : ∃ n, l.length = n + 1 := ⟨l.length - 1, by omega⟩
      have hat := HAT.out w6 HB7.out
      have hend := HEND.out.2
      rw [show l.length - 1 = n by omega] at hend
      have x0 := hat.cells 0 a.fr HEND.out.1 0 _ rfl
      have x1 := hat.cells n a.t hend 0 _ rfl
      simp [kI] at x0 x1
      have zl := hat.lt
      have hw1 : IntKind.i64.wrap ((l.length : Int) - 1) = (n : Int) := by rw [IntKind.wrap_i64]; omega
      have hw3 : IntKind.i64.wrap (a.most + 1) = a.most + 1 := IntWalk.i64_in _ (by have := HLM.out; omega)
      have hnl : n < l.length := by omega
      clear o2 b6 r2 HRUN hat hend hw2 a0 a1 a2 a3 za
      obtain ⟨p1, p2⟩ := HBX.out w6 (HB4.out.trans (HB7.out.mono HB4.out.size))
      have a0 := cell_of_blk p2 0
      have a1 := cell_of_blk p2 1
      have a2 := cell_of_blk p2 2
      have a3 := cell_of_blk p2 3
      have za : ab < w6.heap.size := (Array.getElem?_eq_some_iff.1 p2).1
      simp at a0 a1 a2 a3
      clear p1 p2

      have t5 : (a.fr == a.fr) = true := by simp
      have t6 : (a.t == a.t) = true := by simp
      have t7 : decide ((l.length : Int) ≤ a.most + 1) = true := decide_eq_true HLM.out.1
      by_cases h1 : l.length = 1
      · have hf2 := q1 h1
        subst hf2
        have t8 : ((l.length : Int) == 1) = true := by rw [h1]; rfl
        clear q1 q2 hn h1
        go_wp2_with fail
        go_quiet (fail)
        go_wp2_with fail
        go_ret
        exact ⟨rfl, HWW.out.trans ((below_drewN (HB4.out.trans (HB7.out.mono HB4.out.size)) _).mono HWW.out.size)⟩
      · have hf2 := q2 h1
        subst hf2
        have t8 : ((l.length : Int) == 1) = false := by simp; omega
        have t9 : decide ((1 : Int) < (l.length : Int)) = true := decide_eq_true (by omega)
        clear q1 q2 hn h1
        go_wp2_with fail
        go_quiet (fail)
        go_wp2_with fail
        go_ret
        exact ⟨rfl, HWW.out.trans ((below_drewN (HB4.out.trans (HB7.out.mono HB4.out.size)) _).mono HWW.out.size)⟩
end Go.Proofs.Ytaanohgkdpohhaa
