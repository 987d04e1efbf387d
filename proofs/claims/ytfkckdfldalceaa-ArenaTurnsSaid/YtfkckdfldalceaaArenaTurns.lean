/- ArenaTurns: the walk of the law. Conditions: the theorems' own premises. -/
import Derived.Test.YtfkckdfldalceaaArenaTurnsPlain
import Derived.Test.YtfkckdfldalceaaArenaAwake
import Derived.Deep.RegionHeld3
namespace Go.Proofs.Ytfkckdfldalceaa
open Go.RowKit Go.Maps

theorem mod20 (r : Int) : 0 ≤ r.tmod 20 % 20 ∧ r.tmod 20 % 20 ≤ 19 ∧ -20 < r.tmod 20 ∧ r.tmod 20 < 20 := by
  have h1 := Int.lt_tmod_of_pos r (show (0 : Int) < 20 by omega)
  have h2 := Int.tmod_lt_of_pos r (show (0 : Int) < 20 by omega)
  omega

set_option maxRecDepth 100000 in
set_option maxHeartbeats 1000000 in
theorem turns_long (a : Option Addr) (pn pc : Nat) (r : Int) (w : World) (hlen : 40 < pn) (hm : pn ≤ maxLen) :
    Calls Try.prog 5 #[.int .i64 r, .slice a pn pc] w fun e w' => e = .returned (.bool true) ∧ Below w.heap.size w w' := by
  unfold maxLen at hm
  go_enter Try.func5, Try.ntmps5
  go_wp2_with fail
  refine (awake5_any _).mono ?_
  rintro e w1 ⟨rfl, hb1⟩
  go_wp2_with fail
  refine (awake5_any _).mono ?_
  rintro e w2 ⟨rfl, hb2⟩
  go_wp2_with fail
  go_ret
  exact ⟨rfl, below_then hb1 hb2⟩

set_option maxRecDepth 100000 in
set_option maxHeartbeats 1000000 in
theorem turns_some (a : Option Addr) (pn pc : Nat) (r : Int) (w : World) (hlen : pn ≤ 40) (hp : ∀ i, i < pn → ∃ z pb po, I64 z ∧ a = some ⟨pb, po, none⟩ ∧ pb < w.heap.size ∧ w.cell? ⟨pb, po + i, none⟩ = some (.int .i64 z)) :
    Calls Try.prog 5 #[.int .i64 r, .slice a pn pc] w fun e w' => e = .returned (.bool true) ∧ Below w.heap.size w w' := by
  obtain ⟨m1, m2, m3, m4⟩ := mod20 r
  have HP := Lib.hid hp
  clear hp
  have hd : decide ((40 : Int) < (pn : Int)) = false := by simp; omega
  go_enter Try.func5, Try.ntmps5
  go_wp2_with fail
  refine (awake5_any _).mono ?_
  rintro e w1 ⟨rfl, hb1⟩
  go_wp2_with fail
  obtain ⟨N, hN⟩ : ∃ N : Nat, 1 + r.tmod 20 % 20 = (N : Int) := ⟨(1 + r.tmod 20 % 20).toNat, by omega⟩
  have hN1 : 1 ≤ N := by omega
  have hN9 : N ≤ 20 := by omega
  rw [hN]
  clear hN m1 m2 m3 m4
  refine (new_any N _ (by omega)).mono ?_
  rintro e w2 ⟨rfl, hA, hb2⟩
  have hS := (ArS.made hA hb2).from hb1
  clear hA hb2 hb1
  obtain ⟨ab, bg, bt, e1, e2, e3⟩ : ∃ ab bg bt, ab = w1.heap.size + 2 ∧ bg = w1.heap.size ∧ bt = w1.heap.size + 1 := ⟨_, _, _, rfl, rfl, rfl⟩
  rw [← e1, ← e3, ← e2] at hS
  rw [← e1]
  clear e1 e2 e3
  go_wp2_with fail
  refine (many_ok _ _ _ _ _ _ N _ hS.ar (by simp [Ar.avail, Ar.made])).mono ?_
  rintro e w3 ⟨rv, v3, rfl, hM⟩
  have H0 := TurnsAt.start hS hM
  obtain ⟨g, cap, hrv⟩ := hM.row.shape_pos (by rw [Ar.got_length]; omega)
  rw [Ar.got_length] at hrv
  rw [hrv] at H0 ⊢
  clear hrv hM hS
  go_wp2_with fail
  go_loopw [10, 11] (fun fv i wr => TurnsRel w N ab bg bt pn (.slice (some ⟨g, 0, none⟩) N cap) fv i wr) (fun _ i _ => pn - (intOf i).toNat)
  case atStart => exact ⟨0, Nat.zero_le _, rfl, H0⟩
  case round =>
    obtain ⟨k, hk, rfl, v, s, F, hS, hinv, hR, hFc⟩ := hrel
    clear H0
    by_cases hlt : k < pn
    · obtain ⟨z, pb, po, hz, rfl, hpb, hcz⟩ := HP.out k hlt
      have hcz' := (hS.bel.cell (p := ⟨pb, po + k, none⟩) hpb).trans hcz
      clear hcz
      have hm1 := Int.lt_tmod_of_pos z (show (0 : Int) < (N : Int) by omega)
      have hm2 := Int.tmod_lt_of_pos z (show (0 : Int) < (N : Int) by omega)
      obtain ⟨q, hq, hql⟩ : ∃ q : Nat, (z.tmod ↑N + ↑N) % (N : Int) = (q : Int) ∧ q < N := by
        have h1 := Int.emod_nonneg (z.tmod ↑N + ↑N) (show (N : Int) ≠ 0 by omega)
        have h2 := Int.emod_lt_of_pos (z.tmod ↑N + ↑N) (show (0 : Int) < (N : Int) by omega)
        exact ⟨((z.tmod ↑N + ↑N) % (N : Int)).toNat, by omega, by omega⟩
      obtain ⟨hq0, hq1⟩ := hR.hL.at.cells q q 0 (firsts_get hql)
      simp only [Nat.zero_add] at hq0 hq1
      go_wp2_with fail
      clear hq hm1 hm2
      have hxi : I64 (q : Int) := by constructor <;> omega
      have h0i : I64 0 := by constructor <;> omega
      have S1 := (hS.alloc (.cells #[.int .i64 q, .int .i64 0] 30)).alloc (.cells #[.int .i64 q, .int .i64 0] 30)
      have B1 := Boxed.new (hS.alloc (.cells #[.int .i64 q, .int .i64 0] 30)).ar (.cells #[.int .i64 q, .int .i64 0] 30)
      have B0 := (Boxed.new hS.ar (.cells #[.int .i64 q, .int .i64 0] 30)).alloc (.cells #[.int .i64 q, .int .i64 0] 30)
      rw [size_alloc] at B1
      by_cases hx : (q : Int) ∈ F.map (·.1)
      · obtain ⟨r1, r2⟩ := hinv.no hx
        refine (free_one _ _ _ _ 1 _ s _ q 0 _ _ _ S1.ar B1.at' hxi h0i B1.out (by omega)).mono ?_
        rintro e w4 ⟨rfl, v4, hA4, hc4, ho4⟩
        rw [r2]
        rw [r1] at hA4
        have H1 := TurnsAt.no hS hinv hR hFc hA4 hc4 ho4
        clear hA4 hc4 ho4 S1 B1 B0 r1 r2 hinv hR hS hx
        go_wp2_with fail
        exact ⟨⟨k + 1, by omega, by simp, H1⟩, by simp [intOf]; omega⟩
      · obtain ⟨hi2, r2⟩ := hinv.yes hx (by omega) (by omega)
        obtain ⟨i0, hi, hz0, hz1, hz2⟩ := info_parts infoHandle
        refine (free_one _ _ _ _ 1 _ s _ q 0 _ _ _ S1.ar B1.at' hxi h0i B1.out (by omega)).mono ?_
        rintro e w4 ⟨rfl, v4, hA4, hc4, ho4⟩
        rw [r2]
        have R4 := ((hR.alloc (.cells #[.int .i64 q, .int .i64 0] 30)).alloc (.cells #[.int .i64 q, .int .i64 0] 30)).step hc4 ho4
        have B4 := B0.step hc4 ho4
        have cb0 := B4.cell 0
        have cb1 := B4.cell 1
        simp at cb0 cb1
        have hrow := R4.hG.row
        have z4 : w.heap.size ≤ w4.heap.size := Nat.le_trans S1.bel.size hc4.size
        go_wp2_with (at_builtin; go_must (refine wpList_append_own_at _ rfl _ _ 28 rfl w.heap.size 30 i0 (.agg #[.int .i64 0, .int .i64 0]) 2 16 Try.underlying28 hi hz0 hz1 hz2 rfl (by decide) _ F.length (hcells F) rfl (hrow.alloc _) ⟨w4.heap.size, 0, none⟩ 1 1 [.int .i64 q, .int .i64 0] rfl rfl (World.news_of_block (cs := #[.int .i64 q, .int .i64 0]) (t := 30) (fr := (0, 0)) (heap_alloc_new w4 _)) (by simp [Value.oneCell']) (by unfold maxLen; omega) (by omega) (by simp; omega) ?_; intro fv5 w5 hown5 hgrow5 hnil5 hat5))
        have H1 := TurnsAt.yes hS hi2 hR hFc hxi hA4 hc4 ho4 hown5 hgrow5 hat5
        exact ⟨⟨k + 1, by omega, by simp, H1⟩, by simp [intOf]; omega⟩
    · obtain ⟨fa, fcap, rfl⟩ := hR.hG.shape
      have hFb : F.length ≤ 40 := by omega
      go_wp2_with fail
      obtain ⟨wo, rfl⟩ : ∃ wo : World, wo = wr := ⟨_, rfl⟩
      go_loopw [13] (fun i wx => BackRel w N ab bg bt k (.slice (some ⟨g, 0, none⟩) N cap) (.slice fa F.length fcap) F i wx) (fun i _ => (intOf i + 1).toNat)
      case atStart => exact ⟨F.length, v, s, Nat.le_refl _, rfl, hS, hinv.back, hR⟩
      case round =>
        clear hS hinv hR
        obtain ⟨m, v', s', hm, rfl, hS, hinv, hR⟩ := hrel
        rcases Nat.eq_zero_or_pos m with rfl | hmp
        · obtain ⟨r1, r2, r3⟩ := hinv.done
          have R1 := Lib.hid r1
          have R2 := Lib.hid r2
          have R3 := Lib.hid r3
          clear r1 r2 r3
          go_wp2_with fail
          refine (take_to _ _ _ _ _ _ _ _ _ _ hS.ar R1.out).mono ?_
          rintro e w4 ⟨rfl, v4, hA4, hc4, ho4⟩
          rw [R2.out] at hA4
          have S4 := (hS.step hA4 hc4 ho4).alloc (.cells #[.int .i64 0, .int .i64 0] 30)
          go_wp2_with fail
          refine (len_any _ _ _ _ _ _ _ S4.ar).mono ?_
          rintro e w5 ⟨rfl, rfl⟩
          rw [R3.out]
          go_wp2_with fail
          go_ret
          exact ⟨by simp, S4.bel⟩
        · obtain ⟨m', rfl⟩ : ∃ m', m = m' + 1 := ⟨m - 1, by omega⟩
          rw [show (((m' + 1 : Nat) : Int) - 1) = (m' : Int) by omega]
          obtain ⟨fg, fcap', hfe⟩ := hR.hG.shape_pos (by omega)
          obtain rfl : fa = some ⟨fg, 0, none⟩ := by cases hfe; rfl
          obtain ⟨x, gx, he⟩ : ∃ x gx, F[m']? = some (x, gx) := ⟨_, _, List.getElem?_eq_getElem (by omega)⟩
          obtain ⟨hres, hinv2⟩ := hinv.take he
          have hgb := hS.ar.ok.gens x
          have hcn := hS.ar.ok.cnt
          have hge := hinv.gens _ (List.mem_of_getElem? he)
          simp only at hge
          rw [hge] at hgb
          have hg1 : -1 ≤ gx := by omega
          have hg2 : gx ≤ 1099511627776 := by omega
          have HRES := Lib.hid hres
          have HE := Lib.hid he
          clear hres he hge hgb hfe
          go_wp2_with fail
          refine (take_to _ _ _ _ _ _ _ _ _ _ hS.ar HRES.out).mono ?_
          rintro e w4 ⟨rfl, v4, hA4, hc4, ho4⟩
          have S4 := (hS.step hA4 hc4 ho4).alloc (.cells #[.int .i64 x, .int .i64 (gx + 1)] 30)
          have R4 := (hR.step hc4 ho4).alloc (.cells #[.int .i64 x, .int .i64 (gx + 1)] 30)
          have B4 := Boxed.new hA4 (.cells #[.int .i64 x, .int .i64 (gx + 1)] 30)
          clear hA4 hc4 ho4 hS hR hinv
          go_wp2_with fail
          obtain ⟨W, hW⟩ : ∃ W, W = w4.alloc (.cells #[.int .i64 x, .int .i64 (gx + 1)] 30) := ⟨_, rfl⟩
          rw [← hW] at S4 R4 B4 ⊢
          obtain ⟨cq0, cq1⟩ := R4.hG.at.cells m' x gx HE.out
          simp only [Nat.zero_add] at cq0 cq1
          have lb := B4.lt
          have lf : fg < W.heap.size := (R4.hG.lt rfl).2
          have cb0 := B4.cell 0
          have cb1 := B4.cell 1
          simp at cb0 cb1
          have ks : ∀ w', Below W.heap.size W w' → Below W.heap.size W w' ∧ w'.cell? ⟨w4.heap.size, 0, none⟩ = some (.int .i64 x) ∧ w'.cell? ⟨w4.heap.size, 1, none⟩ = some (.int .i64 (gx + 1)) ∧ w'.cell? ⟨fg, m' * 2, none⟩ = some (.int .i64 x) ∧ w'.cell? ⟨fg, m' * 2 + 1, none⟩ = some (.int .i64 gx) :=
            fun w' hb => ⟨hb, below_cell hb 0 lb cb0, below_cell hb 1 lb cb1, below_cell hb _ lf cq0, below_cell hb _ lf cq1⟩
          have KS := Lib.hid ks
          have hwr : IntKind.i64.wrap (gx + 1) = gx + 1 := IntWalk.i64_in _ (by omega)
          have hj0 : (0 : Int) ≤ (m' : Int) := by omega
          have hj1 : (m' : Int) < (F.length : Int) := by omega
          clear ks hW
          go_region_held3 (fun w' => Below W.heap.size W w' ∧ w'.cell? ⟨w4.heap.size, 0, none⟩ = some (.int .i64 x) ∧ w'.cell? ⟨w4.heap.size, 1, none⟩ = some (.int .i64 (gx + 1)) ∧ w'.cell? ⟨fg, m' * 2, none⟩ = some (.int .i64 x) ∧ w'.cell? ⟨fg, m' * 2 + 1, none⟩ = some (.int .i64 gx))
            (first | exact KS.out _ (Below.refl _ _).drew | (go_split_ands; refine KS.out _ (below_then ?_ hbc); assumption))
            (first | (go_at_call 23; refine (handle_any _ _ _).mono ?_; rintro e wc ⟨rfl, hbc⟩))
          go_split_ands
          clear hwr
          go_wp2_with fail
          have hbW : Below W.heap.size W wc := by assumption
          exact ⟨⟨m', v4, _, by omega, rfl, S4.below hbW, hinv2, R4.below hbW⟩, by simp [intOf]⟩
end Go.Proofs.Ytfkckdfldalceaa
