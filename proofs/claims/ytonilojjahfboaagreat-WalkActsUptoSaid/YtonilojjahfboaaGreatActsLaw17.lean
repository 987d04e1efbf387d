/- Law WalkActs: the walk. Conditions: small bulk. (Printed by gen_al.py.) -/
import Derived.Test.YtonilojjahfboaaGreatDsA
import Derived.Test.YtonilojjahfboaaGreatDs3
import Derived.Test.YtonilojjahfboaaGreatDs4
import Derived.Test.YtonilojjahfboaaGreatQbA
import Derived.Test.YtonilojjahfboaaGreatSideRead
import Derived.BigRegion
import Derived.Deep.Cut
import Derived.Deep.RegionHeld3
import Derived.Deep.CutRange
namespace Go.Proofs.YtonilojjahfboaaGreat
open Go.RowKit Go.Maps

theorem wpAnyH_nar {P : Program} {md : Region.Mode} {ops : Array Oper} {Q : Exit → Act → World → Prop} {S S' : World → Prop} (hs : ∀ w, S' w → S w) :
    ∀ (fuel : Nat) (listed : Array Bool) (a : Act) (w : World), wpAnyH P md ops Q S' fuel listed a w → wpAnyH P md ops Q S fuel listed a w
  | 0, _, _, _, h => h
  | fuel + 1, _, _, _, h => ⟨h.1, fun i hi => wpOp_mono (fun a' w' h' => ⟨hs _ h'.1, wpAnyH_nar hs fuel _ a' w' h'.2⟩) (h.2 i hi)⟩
theorem does17_any (w0 w : World) (wb gb vb eb rb qb B : Nat) (VL : List Vr) (EL : List Er) (st : Option Nat) (x : A7) (hG : GrC w0 gb vb eb (VL.map Vr.v) (EL.map Er.e)) (hR : RgL w0 qb B VL EL) (h : DI w0 w wb rb gb qb st) (hx : x.Ok) (hV : VL.length ≤ 1000) (hE : EL.length ≤ 1000) :
    Calls Tryz.prog 45 #[.pointer (some ⟨wb, 0, none⟩), .pointer (some ⟨rb, 0, none⟩), .agg #[.int .i64 x.kind, .int .i64 x.id, .bool x.out, .string x.lab, .string x.nl, .string x.nk, .int .i64 x.low.kind, .int .i64 x.low.n, .string x.low.s, .int .i64 x.high.kind, .int .i64 x.high.n, .string x.high.s]] w (D17 w0 wb rb gb qb) := by
  by_cases h0 : x.kind = 0
  · exact d17_0 w0 w wb gb vb eb rb qb B VL EL st x hG hR h hx hV hE h0
  by_cases h1 : x.kind = 1
  · exact d17_1 w0 w wb gb vb eb rb qb B VL EL st x hG hR h hx hV hE h1
  by_cases h2 : x.kind = 2
  · exact d17_2 w0 w wb gb vb eb rb qb B VL EL st x hG hR h hx hV hE h2
  by_cases h3 : x.kind = 3
  · exact d17_3 w0 w wb gb vb eb rb qb B VL EL st x hG hR h hx hV hE h3
  by_cases h4 : x.kind = 4
  · exact d17_4 w0 w wb gb vb eb rb qb B VL EL st x hG hR h hx hV hE h4
  by_cases h5 : x.kind = 5
  · exact d17_5 w0 w wb gb vb eb rb qb B VL EL st x hG hR h hx hV hE h5
  by_cases h6 : x.kind = 6
  · exact d17_6 w0 w wb gb vb eb rb qb B VL EL st x hG hR h hx hV hE h6
  exact d17_no w0 w wb gb vb eb rb qb B VL EL st x hG hR h hx hV hE (by omega)
set_option maxRecDepth 100000 in
theorem wnewNil_any (w : World) : Calls Tryz.prog 39 #[Value.nilIface, .int .i64 5] w fun e w' => e = .returned (.tuple #[.pointer none, .int .i64 1]) ∧ w = w' := by
  go_enter Tryz.func39, Tryz.ntmps39
  go_wp2
  go_ret2
  exact ⟨rfl, rfl⟩
set_option maxRecDepth 100000 in
set_option maxHeartbeats 8000000 in
theorem acts17_any (va ea aa : Option Addr) (vc ec ac : Nat) (VL : List Vr) (EL : List Er) (AL : List A7) (n : Int) (w : World) (h1 : kVr.V w va VL) (h2 : kEr.V w ea EL) (h3 : ∀ x ∈ VL, VrOk w x) (h4 : ∀ x ∈ EL, ErOk w x) (h5 : kA7.V w aa AL) (h6 : AL.length ≤ maxLen) (h7 : ∀ x ∈ AL, x.Ok) :
    Calls Tryz.prog 6 #[.agg #[.slice va VL.length vc, .slice ea EL.length ec], .int .i64 n, .slice aa AL.length ac] w fun e w' => e = .returned (.bool true) ∧ Below w.heap.size w w' := by
  obtain ⟨nv, hnv⟩ : ∃ n, n = VL.length := ⟨_, rfl⟩
  obtain ⟨ne, hne⟩ : ∃ n, n = EL.length := ⟨_, rfl⟩
  obtain ⟨na, hna⟩ : ∃ n, n = AL.length := ⟨_, rfl⟩
  unfold maxLen at h6
  have HNV := Lib.hid hnv
  have HNE := Lib.hid hne
  have HNA := Lib.hid hna
  have HNB : Hid (na ≤ 9223372036854775807) := Lib.hid (by omega)
  have HAV := Lib.hid h5
  have HOK := Lib.hid h7
  have HSM : Hid (∀ u, Below w.heap.size w u → Calls Tryz.prog 37 #[.agg #[.slice va nv vc, .slice ea ne ec]] u (fun e w' => e = .returned (.bool (small7B VL EL)) ∧ Below u.heap.size u w')) := Lib.hid (fun u hu => by rw [hnv, hne]; exact small17_any va ea vc ec VL EL u (h1.below hu) (h2.below hu))
  have HPT : Hid (small7B VL EL = true → PtIn w va ea VL EL) := Lib.hid (fun hs => ptIn7_of h1 h2 h3 h4 hs)
  rw [← hnv, ← hne, ← hna]
  clear hnv hne hna h1 h2 h3 h4 h5 h6 h7
  obtain ⟨pb, hpb⟩ : ∃ pb, pb = w.heap.size := ⟨_, rfl⟩
  obtain ⟨W, hW⟩ : ∃ W, W = w.alloc (.cells #[.slice va nv vc, .slice ea ne ec] 90) := ⟨_, rfl⟩
  have HWW : Hid (Below w.heap.size w W) := Lib.hid (by rw [hW]; exact below_box _ _)
  have HP0 : Hid (W.heap[pb]? = some (.cells #[.slice va nv vc, .slice ea ne ec] 90 (0, 0))) := Lib.hid (by rw [hW, hpb]; exact heap_new w _)
  have HBX : Hid (∀ u, Below W.heap.size W u → u.heap[pb]? = some (.cells #[.slice va nv vc, .slice ea ne ec] 90 (0, 0))) := Lib.hid (fun u hu => (hu.block _ (Array.getElem?_eq_some_iff.1 HP0.out).1).trans HP0.out)
  have HW := Lib.hid hW.symm
  have HQB := Lib.hid hpb.symm
  clear hW
  go_enter Tryz.func6, Tryz.ntmps6
  go_wp2_with fail
  rw [HW.out, HQB.out]
  clear hpb
  refine (awake17_any W).mono ?_
  rintro e w1 ⟨rfl, b1⟩
  have HB1 := Lib.hid b1
  have q1 := HBX.out w1 b1
  have p0 := cell_of_blk q1 0
  have p1 := cell_of_blk q1 1
  have zp : pb < w1.heap.size := (Array.getElem?_eq_some_iff.1 q1).1
  simp at p0 p1
  clear b1 q1
  go_wp2_with fail
  refine (HSM.out w1 (HWW.out.trans (HB1.out.mono HWW.out.size))).mono ?_
  rintro e w2 ⟨rfl, b2⟩
  have HB2 : Hid (Below W.heap.size W w2) := Lib.hid (HB1.out.trans (b2.mono HB1.out.size))
  clear b2 p0 p1 zp
  cases hs : small7B VL EL
  case false =>
    clear hs
    go_wp2_with fail
    refine (awake17_any _).mono ?_
    rintro e w9 ⟨rfl, b9⟩
    have HB9 : Hid (Below W.heap.size W w9) := Lib.hid (HB2.out.trans (b9.mono HB2.out.size))
    clear b9
    go_wp2_with fail
    go_ret
    exact ⟨rfl, HWW.out.trans (HB9.out.mono HWW.out.size)⟩
  have HS := Lib.hid hs
  clear hs
  by_cases hll : 60 < na
  · have tl : decide ((60 : Int) < (na : Int)) = true := decide_eq_true (by omega)
    go_wp2_with fail
    refine (awake17_any _).mono ?_
    rintro e w9 ⟨rfl, b9⟩
    have HB9 : Hid (Below W.heap.size W w9) := Lib.hid (HB2.out.trans (b9.mono HB2.out.size))
    clear b9
    go_wp2_with fail
    go_ret
    exact ⟨rfl, HWW.out.trans (HB9.out.mono HWW.out.size)⟩
  have tl : decide ((60 : Int) < (na : Int)) = false := decide_eq_false (by omega)
  have HN60 : Hid (na ≤ 60) := Lib.hid (by omega)
  have q1 := HBX.out w2 HB2.out
  have p0 := cell_of_blk q1 0
  have p1 := cell_of_blk q1 1
  have zp : pb < w2.heap.size := (Array.getElem?_eq_some_iff.1 q1).1
  simp at p0 p1
  clear q1
  go_upto_region 3 with fail
  clear tl hll
  go_wp2_with fail
  have HBT := built17_any va ea vc ec VL EL w2 ((HPT.out HS.out).below (HWW.out.trans (HB2.out.mono HWW.out.size)))
  rw [← HNV.out, ← HNE.out] at HBT
  refine HBT.mono ?_
  rintro e w3 ⟨gb, vb, eb, qb, B, rfl, hg, hr, b3⟩
  have hlen : (adV [] (VL.map Vr.v)).length ≤ 40 ∧ (adE (adV [] (VL.map Vr.v)) [] (EL.map Er.e)).length ≤ 60 := by
    have h := HS.out
    unfold small7B at h
    obtain ⟨s1, s2, _⟩ := of_decide_eq_true h
    have g1 := adV_len (VL.map Vr.v) []
    have g2 := adE_len (adV [] (VL.map Vr.v)) (EL.map Er.e) []
    simp at g1 g2
    omega
  obtain ⟨V, hV⟩ : ∃ V, V = adV [] (VL.map Vr.v) := ⟨_, rfl⟩
  rw [← hV] at hg hr hlen
  obtain ⟨E, hE⟩ : ∃ E, E = adE V [] (EL.map Er.e) := ⟨_, rfl⟩
  rw [← hE] at hg hr hlen
  obtain ⟨VR, ER, hrl, hmv, hme⟩ := hr
  rw [← hmv, ← hme] at hg hlen
  rw [List.length_map, List.length_map] at hlen
  have HG := Lib.hid hg
  have HR := Lib.hid hrl
  have HLN := Lib.hid hlen
  have HB3 : Hid (Below w.heap.size w w3) := Lib.hid (HWW.out.trans ((HB2.out.trans (b3.mono HB2.out.size)).mono HWW.out.size))
  clear hV hE hg hrl hmv hme hlen b3 HBT p0 p1 zp
  go_wp2_with fail
  refine (wnew_any gb n w3).mono ?_
  rintro e w4 hp
  unfold WnPost at hp
  by_cases hst : n < 0 ∨ 1073741824 < n
  · rw [if_pos hst] at hp
    obtain ⟨rfl, rfl⟩ := hp
    have hcase : n < 0 ∨ (¬ n < 0 ∧ 1073741824 < n) := by omega
    clear hst
    go_wp2_with fail
    refine (wnewNil_any _).mono ?_
    rintro e w5 ⟨rfl, rfl⟩
    rcases hcase with h | ⟨h, h'⟩
    · have t1 : decide (n < 0) = true := decide_eq_true h
      clear h
      go_wp2_with fail
      go_ret
      exact ⟨rfl, HB3.out⟩
    · have t1 : decide (n < 0) = false := decide_eq_false (by omega)
      have t2 : decide ((1073741824 : Int) < n) = true := decide_eq_true h'
      clear h h'
      go_wp2_with fail
      go_ret
      exact ⟨rfl, HB3.out⟩
  rw [if_neg hst] at hp
  obtain ⟨rfl, hw⟩ := hp
  have t1 : decide (n < 0) = false := decide_eq_false (by omega)
  have t2 : decide ((1073741824 : Int) < n) = false := decide_eq_false (by omega)
  have HNN : Hid (0 ≤ n ∧ n ≤ 1073741824) := Lib.hid ⟨by omega, by omega⟩
  obtain ⟨wa, hwa⟩ : ∃ wa, wa = w3.heap.size := ⟨_, rfl⟩
  rw [← hwa] at hw ⊢
  have HW4 := Lib.hid hw
  have HWA : Hid (w3.heap.size ≤ wa) := Lib.hid (by omega)
  clear hw hwa hst
  go_wp2_with fail
  refine (wnewNil_any _).mono ?_
  rintro e w5 ⟨rfl, rfl⟩
  obtain ⟨U, hU⟩ : ∃ U, U = w4.alloc (.cells #[.pointer (some ⟨qb, 0, none⟩), .int .i64 n, .bool false] 109) := ⟨_, rfl⟩
  obtain ⟨rb, hrb⟩ : ∃ b, b = w4.heap.size := ⟨_, rfl⟩
  have hBU : Below w4.heap.size w4 U := by rw [hU]; exact below_box w4 _
  have hI0 : DI w3 U wa rb gb qb (some n.toNat) := ⟨HW4.out.below hBU, ⟨HW4.out.bel.trans (hBU.mono HW4.out.bel.size), by have := HW4.out.bel.size; omega, by
    rw [hU, hrb]
    have e1 : ((n.toNat : Nat) : Int) = n := by have := HNN.out; omega
    have := heap_new w4 (.cells #[.pointer (some ⟨qb, 0, none⟩), .int .i64 n, .bool false] 109)
    simpa [e1] using this, by have := HNN.out; simp; omega⟩, by have := HW4.out.lt; omega⟩
  have HI0 := Lib.hid hI0
  have HUE := Lib.hid hU
  have HRBE := Lib.hid hrb
  clear hU hrb hBU hI0
  go_upto_region 13 with fail
  rw [← HUE.out, ← HRBE.out]
  clear t1 t2
  go_wp2_with fail
  go_loopw [14] (fun iv wr => ∃ (i : Nat) (s : Option Nat), iv = .int .i64 (i : Int) ∧ i ≤ na ∧ Hid (DI w3 wr wa rb gb qb s)) (fun iv _ => na - (intOf iv).toNat)
  case atStart => exact ⟨0, _, rfl, Nat.zero_le _, HI0⟩
  case round =>
    clear HI0
    obtain ⟨i, s, rfl, hi, HI⟩ := hrel
    have hn60 := HN60.out
    by_cases hlt : i < na
    · obtain ⟨x, hx⟩ : ∃ x, AL[i]? = some x := ⟨_, List.getElem?_eq_getElem (by have := HNA.out; omega)⟩
      obtain ⟨b, off, rfl, hat3⟩ := (HAV.out.below HB3.out) (fun e => by rw [e] at hx; simp at hx)
      have HFE : Hid (∀ u, Below w3.heap.size w3 u → (u.cell? ⟨b, off + i * 12, none⟩ = some (.int .i64 x.kind) ∧ u.cell? ⟨b, off + i * 12 + 1, none⟩ = some (.int .i64 x.id) ∧ u.cell? ⟨b, off + i * 12 + 2, none⟩ = some (.bool x.out) ∧ u.cell? ⟨b, off + i * 12 + 3, none⟩ = some (.string x.lab) ∧ u.cell? ⟨b, off + i * 12 + 4, none⟩ = some (.string x.nl) ∧ u.cell? ⟨b, off + i * 12 + 5, none⟩ = some (.string x.nk) ∧ u.cell? ⟨b, off + i * 12 + 6, none⟩ = some (.int .i64 x.low.kind) ∧ u.cell? ⟨b, off + i * 12 + 7, none⟩ = some (.int .i64 x.low.n) ∧ u.cell? ⟨b, off + i * 12 + 8, none⟩ = some (.string x.low.s) ∧ u.cell? ⟨b, off + i * 12 + 9, none⟩ = some (.int .i64 x.high.kind) ∧ u.cell? ⟨b, off + i * 12 + 10, none⟩ = some (.int .i64 x.high.n) ∧ u.cell? ⟨b, off + i * 12 + 11, none⟩ = some (.string x.high.s)) ∧ b < u.heap.size) := Lib.hid (fun u hu => by
        have hv : kA7.At u b off AL := ⟨fun j y hy q v hv => (hu.cell (p := ⟨b, _, none⟩) hat3.lt).trans (hat3.cells j y hy q v hv), Nat.lt_of_lt_of_le hat3.lt hu.size⟩
        exact ⟨kA7_cells hv hx, hv.lt⟩)
      have HXO := Lib.hid (HOK.out x (List.mem_of_getElem? hx))
      obtain ⟨⟨c0, c1, c2, c3, c4, c5, c6, c7, c8, c9, c10, c11⟩, hbl⟩ := HFE.out wr HI.out.a.bel
      have tk : decide ((i : Int) < (na : Int)) = true := decide_eq_true (by omega)
      have hzi : (i : Int) < (na : Int) := by omega
      clear hx hat3
      obtain ⟨q1, hq1⟩ : ∃ q, decide ((200 : Int) < (x.lab.size : Int)) = q := ⟨_, rfl⟩
      obtain ⟨q2, hq2⟩ : ∃ q, decide ((200 : Int) < (x.nl.size : Int)) = q := ⟨_, rfl⟩
      obtain ⟨q3, hq3⟩ : ∃ q, decide ((300 : Int) < (x.low.s.size : Int)) = q := ⟨_, rfl⟩
      obtain ⟨q4, hq4⟩ : ∃ q, decide ((300 : Int) < (x.high.s.size : Int)) = q := ⟨_, rfl⟩
      by_cases hor : q1 = true ∨ q2 = true ∨ q3 = true ∨ q4 = true
      · have hall : q1 = true ∨ (q1 = false ∧ q2 = true) ∨ (q1 = false ∧ q2 = false ∧ q3 = true) ∨ (q1 = false ∧ q2 = false ∧ q3 = false ∧ q4 = true) := by
          cases q1 <;> cases q2 <;> cases q3 <;> cases q4 <;> simp_all
        clear hor
        rcases hall with rfl | ⟨rfl, rfl⟩ | ⟨rfl, rfl, rfl⟩ | ⟨rfl, rfl, rfl, rfl⟩
        all_goals
          go_wp2_with fail
          go_ret
          exact ⟨rfl, HB3.out.trans (HI.out.a.bel.mono HB3.out.size)⟩
      obtain ⟨rfl, rfl, rfl, rfl⟩ : q1 = false ∧ q2 = false ∧ q3 = false ∧ q4 = false := by
        cases q1 <;> cases q2 <;> cases q3 <;> cases q4 <;> simp_all
      clear hor
      go_upto_region 18 with fail
      clear hq1 hq2 hq3 hq4 tk c0 c1 c2 c3 c4 c5 c6 c7 c8 c9 c10 c11 hbl
      have hD : Below wr.heap.size wr wr.drew := below_drewN (Below.refl _ _) 1
      have HDB : Hid (Below w3.heap.size w3 wr.drew) := Lib.hid (HI.out.a.bel.trans (hD.mono HI.out.a.bel.size))
      have hdo := does17_any w3 wr.drew wa gb vb eb rb qb B VR ER s x HG.out HR.out (HI.out.below hD) HXO.out (by have := HLN.out; omega) (by have := HLN.out; omega)
      unfold D17 at hdo
      have HDO := Lib.hid hdo
      clear hD hdo
      refine wp_region_held_drew (S := fun u => (u.cell? ⟨b, off + i * 12, none⟩ = some (.int .i64 x.kind) ∧ u.cell? ⟨b, off + i * 12 + 1, none⟩ = some (.int .i64 x.id) ∧ u.cell? ⟨b, off + i * 12 + 2, none⟩ = some (.bool x.out) ∧ u.cell? ⟨b, off + i * 12 + 3, none⟩ = some (.string x.lab) ∧ u.cell? ⟨b, off + i * 12 + 4, none⟩ = some (.string x.nl) ∧ u.cell? ⟨b, off + i * 12 + 5, none⟩ = some (.string x.nk) ∧ u.cell? ⟨b, off + i * 12 + 6, none⟩ = some (.int .i64 x.low.kind) ∧ u.cell? ⟨b, off + i * 12 + 7, none⟩ = some (.int .i64 x.low.n) ∧ u.cell? ⟨b, off + i * 12 + 8, none⟩ = some (.string x.low.s) ∧ u.cell? ⟨b, off + i * 12 + 9, none⟩ = some (.int .i64 x.high.kind) ∧ u.cell? ⟨b, off + i * 12 + 10, none⟩ = some (.int .i64 x.high.n) ∧ u.cell? ⟨b, off + i * 12 + 11, none⟩ = some (.string x.high.s)) ∧ b < u.heap.size) (by kernel_rfl) (HFE.out _ HDB.out) (fun hHeld => ?_)
      refine wpAnyH_take (i := 0) (v := ?_) rfl (by kernel_rfl) (by kernel_rfl) (by kernel_rfl) (fun _ _ _ h => h) (Or.inl ⟨by kernel_rfl, ?_⟩) (by assumption) ?_
      rotate_left
      · intro w hSw; (try dsimp only at hSw); go_simp; first | done | with_reducible rfl
      simp only [List.getElem_toArray, List.getElem_cons_zero, Act.put, List.setIfInBounds_toArray, List.set_cons_zero, List.set_cons_succ]
      refine wpAnyH_take (i := 1) (v := ?_) rfl (by kernel_rfl) (by kernel_rfl) (by kernel_rfl) (fun _ _ _ h => h) (Or.inl ⟨by kernel_rfl, ?_⟩) (by assumption) ?_
      rotate_left
      · intro w hSw; (try dsimp only at hSw); go_simp; first | done | with_reducible rfl
      simp only [List.getElem_toArray, List.getElem_cons_succ, List.getElem_cons_zero, Act.put, List.setIfInBounds_toArray, List.set_cons_zero, List.set_cons_succ]
      refine wpAnyH_take (i := 2) (v := ?_) rfl (by kernel_rfl) (by kernel_rfl) (by kernel_rfl) (fun _ _ _ h => h) (Or.inl ⟨by kernel_rfl, ?_⟩) (by assumption) ?_
      rotate_left
      · intro w hSw; (try dsimp only at hSw); go_simp; first | done | with_reducible rfl
      simp only [List.getElem_toArray, List.getElem_cons_succ, List.getElem_cons_zero, Act.put, List.setIfInBounds_toArray, List.set_cons_zero, List.set_cons_succ]
      refine wpAnyH_take (i := 3) (v := ?_) rfl (by kernel_rfl) (by kernel_rfl) (by kernel_rfl) (fun _ _ _ h => h) (Or.inl ⟨by kernel_rfl, ?_⟩) (by assumption) ?_
      rotate_left
      · intro w hSw; (try dsimp only at hSw); go_simp; first | done | with_reducible rfl
      simp only [List.getElem_toArray, List.getElem_cons_succ, List.getElem_cons_zero, Act.put, List.setIfInBounds_toArray, List.set_cons_zero, List.set_cons_succ]
      refine wpAnyH_take (i := 4) (v := ?_) rfl (by kernel_rfl) (by kernel_rfl) (by kernel_rfl) (fun _ _ _ h => h) (Or.inl ⟨by kernel_rfl, ?_⟩) (by assumption) ?_
      rotate_left
      · intro w hSw; (try dsimp only at hSw); go_simp; first | done | with_reducible rfl
      simp only [List.getElem_toArray, List.getElem_cons_succ, List.getElem_cons_zero, Act.put, List.setIfInBounds_toArray, List.set_cons_zero, List.set_cons_succ]
      refine wpAnyH_take (i := 5) (v := ?_) rfl (by kernel_rfl) (by kernel_rfl) (by kernel_rfl) (fun _ _ _ h => h) (Or.inl ⟨by kernel_rfl, ?_⟩) (by assumption) ?_
      rotate_left
      · intro w hSw; (try dsimp only at hSw); go_simp; first | done | with_reducible rfl
      simp only [List.getElem_toArray, List.getElem_cons_succ, List.getElem_cons_zero, Act.put, List.setIfInBounds_toArray, List.set_cons_zero, List.set_cons_succ]
      refine wpAnyH_ready (rs := [6]) (by kernel_rfl) (by simp) ?_
      refine AllReadyH.cons rfl (fun K hK => ?_) AllReadyH.nil
      go_simp
      (with_reducible refine HDO.out.mono ?_)
      rintro e w6 ⟨rfl, s2, d6⟩
      have HD6 := Lib.hid d6
      clear d6
      dsimp only
      refine hK.out _ _ (HFE.out w6 HD6.out.a.bel) (fun hHeld2 => ?_)
      clear hK K
      try simp only [List.getElem_toArray, List.getElem_cons_succ, List.getElem_cons_zero, Act.put, List.setIfInBounds_toArray, List.set_cons_zero, List.set_cons_succ]
      have HFR : Hid (w6.cell? ⟨rb, 1, none⟩ = some (.int .i64 ((s2.getD 0 : Nat) : Int)) ∧ w6.cell? ⟨rb, 2, none⟩ = some (.bool s2.isNone) ∧ rb < w6.heap.size) := Lib.hid ⟨HD6.out.r.cells.2.1, HD6.out.r.cells.2.2.1, HD6.out.r.lt⟩
      refine wpAnyH_nar (S' := fun u => ((u.cell? ⟨b, off + i * 12, none⟩ = some (.int .i64 x.kind) ∧ u.cell? ⟨b, off + i * 12 + 1, none⟩ = some (.int .i64 x.id) ∧ u.cell? ⟨b, off + i * 12 + 2, none⟩ = some (.bool x.out) ∧ u.cell? ⟨b, off + i * 12 + 3, none⟩ = some (.string x.lab) ∧ u.cell? ⟨b, off + i * 12 + 4, none⟩ = some (.string x.nl) ∧ u.cell? ⟨b, off + i * 12 + 5, none⟩ = some (.string x.nk) ∧ u.cell? ⟨b, off + i * 12 + 6, none⟩ = some (.int .i64 x.low.kind) ∧ u.cell? ⟨b, off + i * 12 + 7, none⟩ = some (.int .i64 x.low.n) ∧ u.cell? ⟨b, off + i * 12 + 8, none⟩ = some (.string x.low.s) ∧ u.cell? ⟨b, off + i * 12 + 9, none⟩ = some (.int .i64 x.high.kind) ∧ u.cell? ⟨b, off + i * 12 + 10, none⟩ = some (.int .i64 x.high.n) ∧ u.cell? ⟨b, off + i * 12 + 11, none⟩ = some (.string x.high.s)) ∧ b < u.heap.size) ∧ u.cell? ⟨rb, 1, none⟩ = some (.int .i64 ((s2.getD 0 : Nat) : Int)) ∧ u.cell? ⟨rb, 2, none⟩ = some (.bool s2.isNone) ∧ rb < u.heap.size) (fun _ h => h.1) _ _ _ _ ?_
      replace hHeld2 : (fun u : World => ((u.cell? ⟨b, off + i * 12, none⟩ = some (.int .i64 x.kind) ∧ u.cell? ⟨b, off + i * 12 + 1, none⟩ = some (.int .i64 x.id) ∧ u.cell? ⟨b, off + i * 12 + 2, none⟩ = some (.bool x.out) ∧ u.cell? ⟨b, off + i * 12 + 3, none⟩ = some (.string x.lab) ∧ u.cell? ⟨b, off + i * 12 + 4, none⟩ = some (.string x.nl) ∧ u.cell? ⟨b, off + i * 12 + 5, none⟩ = some (.string x.nk) ∧ u.cell? ⟨b, off + i * 12 + 6, none⟩ = some (.int .i64 x.low.kind) ∧ u.cell? ⟨b, off + i * 12 + 7, none⟩ = some (.int .i64 x.low.n) ∧ u.cell? ⟨b, off + i * 12 + 8, none⟩ = some (.string x.low.s) ∧ u.cell? ⟨b, off + i * 12 + 9, none⟩ = some (.int .i64 x.high.kind) ∧ u.cell? ⟨b, off + i * 12 + 10, none⟩ = some (.int .i64 x.high.n) ∧ u.cell? ⟨b, off + i * 12 + 11, none⟩ = some (.string x.high.s)) ∧ b < u.heap.size) ∧ u.cell? ⟨rb, 1, none⟩ = some (.int .i64 ((s2.getD 0 : Nat) : Int)) ∧ u.cell? ⟨rb, 2, none⟩ = some (.bool s2.isNone) ∧ rb < u.heap.size) w6 := ⟨hHeld2, HFR.out⟩
      refine wpAnyH_take (i := 7) (v := ?_) rfl (by kernel_rfl) (by kernel_rfl) (by kernel_rfl) (fun _ _ _ h => h) (Or.inl ⟨by kernel_rfl, ?_⟩) (by assumption) ?_
      rotate_left
      · intro w hSw; (try dsimp only at hSw); go_simp; first | done | with_reducible rfl
      simp only [List.getElem_toArray, List.getElem_cons_succ, List.getElem_cons_zero, Act.put, List.setIfInBounds_toArray, List.set_cons_zero, List.set_cons_succ]
      refine wpAnyH_take (i := 8) (v := ?_) rfl (by kernel_rfl) (by kernel_rfl) (by kernel_rfl) (fun _ _ _ h => h) (Or.inl ⟨by kernel_rfl, ?_⟩) (by assumption) ?_
      rotate_left
      · intro w hSw; (try dsimp only at hSw); go_simp; first | done | with_reducible rfl
      simp only [List.getElem_toArray, List.getElem_cons_succ, List.getElem_cons_zero, Act.put, List.setIfInBounds_toArray, List.set_cons_zero, List.set_cons_succ]
      refine wpAnyH_take (i := 9) (v := ?_) rfl (by kernel_rfl) (by kernel_rfl) (by kernel_rfl) (fun _ _ _ h => h) (Or.inl ⟨by kernel_rfl, ?_⟩) (by assumption) ?_
      rotate_left
      · intro w hSw; (try dsimp only at hSw); go_simp; first | done | with_reducible rfl
      simp only [List.getElem_toArray, List.getElem_cons_succ, List.getElem_cons_zero, Act.put, List.setIfInBounds_toArray, List.set_cons_zero, List.set_cons_succ]
      refine wpAnyH_take (i := 11) (v := ?_) rfl (by kernel_rfl) (by kernel_rfl) (by kernel_rfl) (fun _ _ _ h => h) (Or.inl ⟨by kernel_rfl, ?_⟩) (by assumption) ?_
      rotate_left
      · intro w hSw; (try dsimp only at hSw); go_simp; first | done | with_reducible rfl
      simp only [List.getElem_toArray, List.getElem_cons_succ, List.getElem_cons_zero, Act.put, List.setIfInBounds_toArray, List.set_cons_zero, List.set_cons_succ]
      refine wpAnyH_take (i := 12) (v := ?_) rfl (by kernel_rfl) (by kernel_rfl) (by kernel_rfl) (fun _ _ _ h => h) (Or.inl ⟨by kernel_rfl, ?_⟩) (by assumption) ?_
      rotate_left
      · intro w hSw; (try dsimp only at hSw); go_simp; first | done | with_reducible rfl
      simp only [List.getElem_toArray, List.getElem_cons_succ, List.getElem_cons_zero, Act.put, List.setIfInBounds_toArray, List.set_cons_zero, List.set_cons_succ]
      refine wpAnyH_take (i := 13) (v := ?_) rfl (by kernel_rfl) (by kernel_rfl) (by kernel_rfl) (fun _ _ _ h => h) (Or.inl ⟨by kernel_rfl, ?_⟩) (by assumption) ?_
      rotate_left
      · intro w hSw; (try dsimp only at hSw); go_simp; first | done | with_reducible rfl
      simp only [List.getElem_toArray, List.getElem_cons_succ, List.getElem_cons_zero, Act.put, List.setIfInBounds_toArray, List.set_cons_zero, List.set_cons_succ]
      refine wpAnyH_take (i := 14) (v := ?_) rfl (by kernel_rfl) (by kernel_rfl) (by kernel_rfl) (fun _ _ _ h => h) (Or.inl ⟨by kernel_rfl, ?_⟩) (by assumption) ?_
      rotate_left
      · intro w hSw; (try dsimp only at hSw); go_simp; first | done | with_reducible rfl
      simp only [List.getElem_toArray, List.getElem_cons_succ, List.getElem_cons_zero, Act.put, List.setIfInBounds_toArray, List.set_cons_zero, List.set_cons_succ]
      refine wpAnyH_ready (rs := [10]) (by kernel_rfl) (by simp) ?_
      refine AllReadyH.cons rfl (fun K hK => ?_) AllReadyH.nil
      go_simp
      (refine (left_any w3 w6 wa gb s2 HD6.out.a).mono ?_)
      rintro e w7 ⟨rfl, rfl⟩
      dsimp only
      refine hK.out _ _ ⟨HFE.out w6 HD6.out.a.bel, HFR.out⟩ (fun hHeld3 => ?_)
      clear hK K
      try simp only [List.getElem_toArray, List.getElem_cons_succ, List.getElem_cons_zero, Act.put, List.setIfInBounds_toArray, List.set_cons_zero, List.set_cons_succ]
      refine wpAnyH_take (i := 15) (v := ?_) rfl (by kernel_rfl) (by kernel_rfl) (by kernel_rfl) (fun _ _ _ h => h) (Or.inl ⟨by kernel_rfl, ?_⟩) (by assumption) ?_
      rotate_left
      · intro w hSw; (try dsimp only at hSw); go_simp; first | done | with_reducible rfl
      simp only [List.getElem_toArray, List.getElem_cons_succ, List.getElem_cons_zero, Act.put, List.setIfInBounds_toArray, List.set_cons_zero, List.set_cons_succ]
      refine wpAnyH_take (i := 16) (v := ?_) rfl (by kernel_rfl) (by kernel_rfl) (by kernel_rfl) (fun _ _ _ h => h) (Or.inl ⟨by kernel_rfl, ?_⟩) (by assumption) ?_
      rotate_left
      · intro w hSw; (try dsimp only at hSw); go_simp; first | done | with_reducible rfl
      simp only [List.getElem_toArray, List.getElem_cons_succ, List.getElem_cons_zero, Act.put, List.setIfInBounds_toArray, List.set_cons_zero, List.set_cons_succ]
      refine wpAnyH_take (i := 17) (v := ?_) rfl (by kernel_rfl) (by kernel_rfl) (by kernel_rfl) (fun _ _ _ h => h) (Or.inl ⟨by kernel_rfl, ?_⟩) (by assumption) ?_
      rotate_left
      · intro w hSw; (try dsimp only at hSw); go_simp; first | done | with_reducible rfl
      simp only [List.getElem_toArray, List.getElem_cons_succ, List.getElem_cons_zero, Act.put, List.setIfInBounds_toArray, List.set_cons_zero, List.set_cons_succ]
      refine wpAnyH_take (i := 18) (v := ?_) rfl (by kernel_rfl) (by kernel_rfl) (by kernel_rfl) (fun _ _ _ h => h) (Or.inl ⟨by kernel_rfl, ?_⟩) (by assumption) ?_
      rotate_left
      · intro w hSw; (try dsimp only at hSw); go_simp; first | done | with_reducible rfl
      simp only [List.getElem_toArray, List.getElem_cons_succ, List.getElem_cons_zero, Act.put, List.setIfInBounds_toArray, List.set_cons_zero, List.set_cons_succ]
      refine wpAnyH_take (i := 20) (v := ?_) rfl (by kernel_rfl) (by kernel_rfl) (by kernel_rfl) (fun _ _ _ h => h) (Or.inl ⟨by kernel_rfl, ?_⟩) (by assumption) ?_
      rotate_left
      · intro w hSw; (try dsimp only at hSw); go_simp; first | done | with_reducible rfl
      simp only [List.getElem_toArray, List.getElem_cons_succ, List.getElem_cons_zero, Act.put, List.setIfInBounds_toArray, List.set_cons_zero, List.set_cons_succ]
      refine wpAnyH_take (i := 21) (v := ?_) rfl (by kernel_rfl) (by kernel_rfl) (by kernel_rfl) (fun _ _ _ h => h) (Or.inl ⟨by kernel_rfl, ?_⟩) (by assumption) ?_
      rotate_left
      · intro w hSw; (try dsimp only at hSw); go_simp; first | done | with_reducible rfl
      simp only [List.getElem_toArray, List.getElem_cons_succ, List.getElem_cons_zero, Act.put, List.setIfInBounds_toArray, List.set_cons_zero, List.set_cons_succ]
      refine wpAnyH_take (i := 22) (v := ?_) rfl (by kernel_rfl) (by kernel_rfl) (by kernel_rfl) (fun _ _ _ h => h) (Or.inl ⟨by kernel_rfl, ?_⟩) (by assumption) ?_
      rotate_left
      · intro w hSw; (try dsimp only at hSw); go_simp; first | done | with_reducible rfl
      simp only [List.getElem_toArray, List.getElem_cons_succ, List.getElem_cons_zero, Act.put, List.setIfInBounds_toArray, List.set_cons_zero, List.set_cons_succ]
      refine wpAnyH_take (i := 23) (v := ?_) rfl (by kernel_rfl) (by kernel_rfl) (by kernel_rfl) (fun _ _ _ h => h) (Or.inl ⟨by kernel_rfl, ?_⟩) (by assumption) ?_
      rotate_left
      · intro w hSw; (try dsimp only at hSw); go_simp; first | done | with_reducible rfl
      simp only [List.getElem_toArray, List.getElem_cons_succ, List.getElem_cons_zero, Act.put, List.setIfInBounds_toArray, List.set_cons_zero, List.set_cons_succ]
      refine wpAnyH_ready (rs := [19]) (by kernel_rfl) (by simp) ?_
      refine AllReadyH.cons rfl (fun K hK => ?_) AllReadyH.nil
      go_simp
      (refine (spent_any w3 w6 wa gb s2 HD6.out.a).mono ?_)
      rintro e w7 ⟨rfl, rfl⟩
      dsimp only
      refine hK.out _ _ ⟨HFE.out w6 HD6.out.a.bel, HFR.out⟩ (fun hHeld4 => ?_)
      clear hK K
      try simp only [List.getElem_toArray, List.getElem_cons_succ, List.getElem_cons_zero, Act.put, List.setIfInBounds_toArray, List.set_cons_zero, List.set_cons_succ]
      refine wpAnyH_take (i := 24) (v := ?_) rfl (by kernel_rfl) (by kernel_rfl) (by kernel_rfl) (fun _ _ _ h => h) (Or.inl ⟨by kernel_rfl, ?_⟩) (by assumption) ?_
      rotate_left
      · intro w hSw; (try dsimp only at hSw); go_simp; first | done | with_reducible rfl
      simp only [List.getElem_toArray, List.getElem_cons_succ, List.getElem_cons_zero, Act.put, List.setIfInBounds_toArray, List.set_cons_zero, List.set_cons_succ]
      refine wpAnyH_take (i := 25) (v := ?_) rfl (by kernel_rfl) (by kernel_rfl) (by kernel_rfl) (fun _ _ _ h => h) (Or.inl ⟨by kernel_rfl, ?_⟩) (by assumption) ?_
      rotate_left
      · intro w hSw; (try dsimp only at hSw); go_simp; first | done | with_reducible rfl
      simp only [List.getElem_toArray, List.getElem_cons_succ, List.getElem_cons_zero, Act.put, List.setIfInBounds_toArray, List.set_cons_zero, List.set_cons_succ]
      refine wpAnyH_done (by kernel_rfl) ?_ _
      go_wp2_with fail
      exact ⟨⟨i + 1, s2, by simp, hlt, HD6⟩, by simp [intOf]; omega⟩
    · have tj : decide ((i : Int) < (na : Int)) = false := decide_eq_false (by omega)
      go_wp2_with fail
      go_ret
      exact ⟨rfl, HB3.out.trans (HI.out.a.bel.mono HB3.out.size)⟩
end Go.Proofs.YtonilojjahfboaaGreat
