/- ArenaMany: the walk of the law. Conditions: the theorems' own premises. -/
import Derived.Test.YtfkckdfldalceaaManyLawPlain
import Derived.Test.YtfkckdfldalceaaArenaAwake
namespace Go.Proofs.Ytfkckdfldalceaa
open Go.RowKit Go.Maps

theorem mod30 (r : Int) : 0 ≤ r.tmod 30 % 30 ∧ r.tmod 30 % 30 ≤ 29 ∧ -30 < r.tmod 30 ∧ r.tmod 30 < 30 := by
  have h1 := Int.lt_tmod_of_pos r (show (0 : Int) < 30 by omega)
  have h2 := Int.tmod_lt_of_pos r (show (0 : Int) < 30 by omega)
  omega
theorem mod40 (r : Int) : 0 ≤ r.tmod 40 % 40 ∧ r.tmod 40 % 40 ≤ 39 ∧ -40 < r.tmod 40 ∧ r.tmod 40 < 40 := by
  have h1 := Int.lt_tmod_of_pos r (show (0 : Int) < 40 by omega)
  have h2 := Int.tmod_lt_of_pos r (show (0 : Int) < 40 by omega)
  omega

set_option maxRecDepth 100000 in
set_option maxHeartbeats 1000000 in
theorem many_long (a : Option Addr) (pn pc : Nat) (r n : Int) (w : World) (hlen : 40 < pn) (hm : pn ≤ maxLen) :
    Calls Try.prog 4 #[.int .i64 r, .slice a pn pc, .int .i64 n] w fun e w' => e = .returned (.bool true) ∧ Below w.heap.size w w' := by
  unfold maxLen at hm
  go_enter Try.func4, Try.ntmps4
  go_wp2_with fail
  refine (awake5_any _).mono ?_
  rintro e w1 ⟨rfl, hb1⟩
  go_wp2_with fail
  refine (awake5_any _).mono ?_
  rintro e w2 ⟨rfl, hb2⟩
  go_wp2_with fail
  go_ret
  exact ⟨rfl, below_then hb1 hb2⟩

set_option maxRecDepth 100000 in
set_option maxHeartbeats 1000000 in
theorem many_some (a : Option Addr) (pn pc : Nat) (r n : Int) (w : World) (hlen : pn ≤ 40) (hp : ∀ i, i < pn → ∃ z pb po, I64 z ∧ a = some ⟨pb, po, none⟩ ∧ pb < w.heap.size ∧ w.cell? ⟨pb, po + i, none⟩ = some (.int .i64 z)) :
    Calls Try.prog 4 #[.int .i64 r, .slice a pn pc, .int .i64 n] w fun e w' => e = .returned (.bool true) ∧ Below w.heap.size w w' := by
  obtain ⟨m1, m2, m3, m4⟩ := mod30 r
  obtain ⟨n1, n2, n3, n4⟩ := mod40 n
  have HP := Lib.hid hp
  clear hp
  have hmm := @run_makeMap Try.prog
  have hd : decide ((40 : Int) < (pn : Int)) = false := by simp; omega
  obtain ⟨N, hN, hN'⟩ : ∃ N : Nat, r.tmod 30 % 30 = (N : Int) ∧ (r.tmod 30 + 30) % 30 = (N : Int) := ⟨(r.tmod 30 % 30).toNat, by omega, by omega⟩
  have hN9 : N ≤ 29 := by omega
  go_enter Try.func4, Try.ntmps4
  go_wp2_with fail
  refine (awake5_any _).mono ?_
  rintro e w1 ⟨rfl, hb1⟩
  go_wp2_with fail
  rw [hN']
  clear hN hN' m1 m2
  refine (new_any N _ (by omega)).mono ?_
  rintro e w2 ⟨rfl, hA, hb2⟩
  have hSA := (ArS.made hA hb2).from hb1
  clear hA hb2 hb1
  obtain ⟨ab, bg, bt, e1, e2, e3⟩ : ∃ ab bg bt, ab = w1.heap.size + 2 ∧ bg = w1.heap.size ∧ bt = w1.heap.size + 1 := ⟨_, _, _, rfl, rfl, rfl⟩
  rw [← e1, ← e3, ← e2] at hSA
  rw [← e1]
  clear e1 e2 e3
  go_wp2_with fail
  refine (new_any N _ (by omega)).mono ?_
  rintro e w3 ⟨rfl, hB, hb3⟩
  have hSB := (ArS.made hB hb3)
  have hdis : ∀ k, arFp ab bg bt (.slice none 0 0) k → ¬ arFp (w2.heap.size + 2) w2.heap.size (w2.heap.size + 1) (.slice none 0 0) k := fun k hk hk' => by
    have := hSA.ar.lt hk; have := hSB.own k hk'; omega
  have hSB := hSB.from hSA.bel
  have hSA := hSA.below hb3
  clear hB hb3
  obtain ⟨ab2, bg2, bt2, e1, e2, e3⟩ : ∃ ab2 bg2 bt2, ab2 = w2.heap.size + 2 ∧ bg2 = w2.heap.size ∧ bt2 = w2.heap.size + 1 := ⟨_, _, _, rfl, rfl, rfl⟩
  rw [← e1, ← e3, ← e2] at hSB hdis
  rw [← e1]
  clear e1 e2 e3
  go_wp2_with fail
  refine (many_ok _ _ _ _ _ _ N _ hSA.ar (by simp [Ar.avail, Ar.made])).mono ?_
  rintro e w4 ⟨rv, v4, rfl, hM⟩
  have hSB4 := hSB.beside hM.chg hSA.own (fun k hk hk' => hdis k hk' hk)
  go_wp2_with fail
  refine (many_ok _ _ _ _ _ _ N _ hSB4.ar (by simp [Ar.avail, Ar.made])).mono ?_
  rintro e w5 ⟨rv2, v5, rfl, hM2⟩
  obtain ⟨hA5, hB5, d5, r1, r2, o1, o2⟩ := two_full hSA hSB hdis hM hM2
  clear hM hM2 hSA hSB hSB4 hdis
  obtain ⟨la, lc, hla⟩ := r1.shape
  obtain ⟨ma, mc, hma⟩ := r2.shape
  rw [hla] at r1 o1 o2 ⊢
  rw [hma] at r2 ⊢
  clear hla hma
  have hfl := firsts_length N
  have V1 := r1.view.1
  have V2 := r2.view.1
  clear r2
  have hsame := same5_any la ma lc mc (firsts N) (firsts N) w5 V1 V2 (by omega) (by omega)
  rw [hfl] at hsame r1 o1 o2
  have HSAME := Lib.hid hsame
  clear hsame
  go_wp2_with fail
  refine HSAME.out.mono ?_
  rintro e w6 ⟨rfl, hb6⟩
  rw [show (firsts N == firsts N) = true by simp]
  have hA6 := hA5.below hb6
  have hB6 := hB5.below hb6
  have r6 := r1.of_block (w' := w6) (fun k hk => hb6.block _ (r1.lt hk).2)
  clear V1 V2 hb6 r1 hA5 hB5
  clear HSAME
  have H0 := Pair.make hA6 hB6 d5 r6 o1 o2 (X := .map #[] 0) rfl
  obtain ⟨bs, hbs⟩ : ∃ bs, bs = w6.heap.size := ⟨_, rfl⟩
  rw [← hbs] at H0
  have H1 : ManyLawAt w N ab bg bt ab2 bg2 bt2 bs 0 (.slice la N lc) (w6.alloc (.map #[] 0)) := ⟨_, _, _, [], H0, TurnsInv.start N, by simp⟩
  go_wp2_with fail
  rw [← hbs]
  clear hbs H0 hA6 hB6 r6 o1 o2 d5
  go_loopw [17] (fun i wr => ManyLawRel w N ab bg bt ab2 bg2 bt2 bs pn (.slice la N lc) i wr) (fun i _ => pn - (intOf i).toNat)
  case atStart => exact ⟨0, Nat.zero_le _, rfl, H1⟩
  case round =>
    obtain ⟨k, hk, rfl, v, v2, s, F, hP, hinv, hFc⟩ := hrel
    clear H1
    by_cases hlt : k < pn ∧ 0 < N
    · obtain ⟨hlt, hNp⟩ := hlt
      obtain ⟨z, pb, po, hz, rfl, hpb, hcz⟩ := HP.out k hlt
      have hcz' := (hP.A.bel.cell (p := ⟨pb, po + k, none⟩) hpb).trans hcz
      clear hcz
      have hm1 := Int.lt_tmod_of_pos z (show (0 : Int) < (N : Int) by omega)
      have hm2 := Int.tmod_lt_of_pos z (show (0 : Int) < (N : Int) by omega)
      obtain ⟨q, hq, hql⟩ : ∃ q : Nat, (z.tmod ↑N + ↑N) % (N : Int) = (q : Int) ∧ q < N := by
        have h1 := Int.emod_nonneg (z.tmod ↑N + ↑N) (show (N : Int) ≠ 0 by omega)
        have h2 := Int.emod_lt_of_pos (z.tmod ↑N + ↑N) (show (0 : Int) < (N : Int) by omega)
        exact ⟨((z.tmod ↑N + ↑N) % (N : Int)).toNat, by omega, by omega⟩
      have hxi : I64 (q : Int) := by constructor <;> omega
      have h0i : I64 0 := by constructor <;> omega
      have hlk := hP.set.look hxi
      by_cases hx : (q : Int) ∈ F.map (·.1)
      · have hct : (F.map (·.1)).contains (q : Int) = true := by simpa using hx
        rw [hct] at hlk
        have H2 : ManyLawAt w N ab bg bt ab2 bg2 bt2 bs (k + 1) (.slice la N lc) wr := ⟨v, v2, s, F, ⟨hP.A.mono (by omega) (by omega), hP.B.mono (by omega) (by omega), hP.dis, hP.row, hP.oA, hP.oB, hP.set, hP.sA, hP.sB, hP.sL, hP.sG⟩, hinv, by omega⟩
        clear hct hx
        go_upto_region 17 with (fail)
        rw [hq]
        clear hq hm1 hm2
        go_wp2_with fail
        exact ⟨⟨k + 1, by omega, by simp, H2⟩, by simp [intOf]; omega⟩
      · have hct : (F.map (·.1)).contains (q : Int) = false := by simpa using hx
        rw [hct] at hlk
        obtain ⟨hi2, r2⟩ := hinv.yes hx (by omega) (by omega)
        have HCT := Lib.hid hct
        have R2 := Lib.hid r2
        have hFl : (F.map (·.1)).length < maxLen := by rw [List.length_map]; unfold maxLen; omega
        obtain ⟨g, lc', hge⟩ := hP.row.shape_pos (by rw [firsts_length]; omega)
        obtain rfl : la = some ⟨g, 0, none⟩ := by simp only [Value.slice.injEq] at hge; exact hge.1
        obtain ⟨hq0, hq1⟩ := hP.row.at.cells q q 0 (firsts_get hql)
        simp only [Nat.zero_add] at hq0 hq1
        clear hct hx r2 hge
        go_upto_region 17 with (fail)
        rw [hq]
        clear hq hm1 hm2
        go_wp2_with (at_mapUpdate; go_must (refine wpList_setX _ rfl _ _ rfl bs (F.map (·.1)) rfl hP.set hFl q hxi rfl HCT.out ?_; intro w4 s4 t4 c4 f4 z4; have P4 := hP.turned s4 t4; clear s4 t4 z4))
        have P5 := P4.alloc (.cells #[.int .i64 q, .int .i64 0] 30)
        have B5 := Boxed.new P4.A.ar (.cells #[.int .i64 q, .int .i64 0] 30)
        refine (free_one _ _ _ _ 1 _ s _ q 0 _ _ _ P5.A.ar B5.at' hxi h0i B5.out (by omega)).mono ?_
        rintro e w6 ⟨rfl, v6, hA6, hc6, ho6⟩
        rw [R2.out]
        have P6 := P5.stepA hA6 hc6 ho6
        clear hA6 hc6 ho6 P5 B5 P4 c4 f4
        obtain ⟨hq2, hq3⟩ := P6.row.at.cells q q 0 (firsts_get hql)
        simp only [Nat.zero_add] at hq2 hq3
        go_wp2_with fail
        have P7 := P6.alloc (.cells #[.int .i64 q, .int .i64 0] 30)
        have B7 := Boxed.new P6.B.ar (.cells #[.int .i64 q, .int .i64 0] 30)
        refine (free_one _ _ _ _ 1 _ s _ q 0 _ _ _ P7.B.ar B7.at' hxi h0i B7.out (by omega)).mono ?_
        rintro e w8 ⟨rfl, v8, hA8, hc8, ho8⟩
        rw [R2.out]
        have P8 := (P7.swap.stepA hA8 hc8 ho8).swap
        clear hA8 hc8 ho8 P7 B7 P6
        have H2 : ManyLawAt w N ab bg bt ab2 bg2 bt2 bs (k + 1) (.slice (some ⟨g, 0, none⟩) N lc) w8 := ⟨_, _, _, F ++ [((q : Int), 0)], by rw [List.map_append]; exact P8, hi2, by simp; omega⟩
        go_wp2_with fail
        exact ⟨⟨k + 1, by omega, by simp, H2⟩, by simp [intOf]; omega⟩
    · have hFN : F.length ≤ 40 := by omega
      obtain ⟨C, hC, hC'⟩ : ∃ C : Nat, n.tmod 40 % 40 = (C : Int) ∧ (n.tmod 40 + 40) % 40 = (C : Int) := ⟨(n.tmod 40 % 40).toNat, by omega, by omega⟩
      have hC9 : C ≤ 39 := by omega
      have hav := hinv.avail
      have HAV := Lib.hid hav
      clear hav
      have hN0 : k < pn → N ≤ 0 := fun h => by omega
      rcases Nat.lt_or_ge C (F.length + 1) with hCF | hCF
      · rcases Nat.lt_or_ge k pn with hkp | hkp
        · have hN00 : N ≤ 0 := hN0 hkp
          clear hN0
          have hdc : decide (F.length < C) = false := by simp; omega
          go_upto_region 22 with (fail)
          rw [hC']
          clear hC hC'
          go_wp2_with fail
          refine (many_ok _ _ _ _ _ _ C _ hP.A.ar (by rw [HAV.out]; omega)).mono ?_
          rintro e w7 ⟨rv, v7, rfl, hM⟩
          have P7 := hP.many hM
          have hok7 := hP.A.ar.ok
          clear hM
          obtain ⟨ra, rc, hrv⟩ := P7.row.shape
          rw [Ar.got_length] at hrv
          rw [hrv] at P7 ⊢
          clear hrv
          have hll := P7.set.len
          simp only [List.length_map] at hll
          go_wp2_with fail
          obtain ⟨wo, rfl⟩ : ∃ wo : World, wo = wr := ⟨_, rfl⟩
          go_loopw [22] (fun i wx => TakeRel w ab bg bt ab2 bg2 bt2 bs k C v7 (.slice ra C rc) s (F.map (·.1)) i wx) (fun i _ => C - (intOf i).toNat)
          case atStart => exact ⟨0, v2, Nat.zero_le _, rfl, P7⟩
          case round =>
            clear P7 hll hP
            obtain ⟨j, v8, hj, rfl, P8⟩ := hrel
            by_cases hjl : j < C
            · obtain ⟨x, hres, hxi⟩ := Ar.after_res hok7 (j := j) (by rw [HAV.out]; omega)
              obtain ⟨rg, rc', hge⟩ := P8.row.shape_pos (by rw [Ar.got_length]; omega)
              obtain rfl : ra = some ⟨rg, 0, none⟩ := by simp only [Value.slice.injEq] at hge; exact hge.1
              have hget := Ar.got_get s C j hjl
              rw [hres] at hget
              have HGET := Lib.hid hget
              have HRES := Lib.hid hres
              clear hget hres hge
              go_wp2_with fail
              refine (take_to _ _ _ _ _ _ _ _ _ _ P8.B.ar HRES.out).mono ?_
              rintro e w9 ⟨rfl, v9, hA9, hc9, ho9⟩
              have P9 := (P8.swap.stepA hA9 hc9 ho9).swap
              have B9 := Boxed.new hA9 (.cells #[.int .i64 x, .int .i64 ((s.after j).gens x)] 30)
              have P10 := P9.alloc (.cells #[.int .i64 x, .int .i64 ((s.after j).gens x)] 30)
              clear hA9 hc9 ho9 P8 P9
              obtain ⟨cq0, cq1⟩ := P10.row.at.cells j _ _ HGET.out
              simp only [Nat.zero_add] at cq0 cq1
              obtain ⟨G, hG⟩ : ∃ G, G = (s.after j).gens x := ⟨_, rfl⟩
              rw [← hG] at cq0 cq1 B9 P10 ⊢
              clear hG
              go_wp2_with fail
              obtain ⟨W, hW⟩ : ∃ W, W = w9.alloc (.cells #[.int .i64 x, .int .i64 G] 30) := ⟨_, rfl⟩
              rw [← hW] at B9 P10 cq0 cq1 ⊢
              have cb0 := B9.cell 0
              have cb1 := B9.cell 1
              simp at cb0 cb1
              have hj0 : (0 : Int) ≤ (j : Int) := by omega
              have hj1 : (j : Int) < (C : Int) := by omega
              clear hW
              go_quiet (fail)
              go_wp2_with fail
              exact ⟨⟨j + 1, v9, by omega, by simp, P10.below (below_drewN (Below.refl _ _) _)⟩, by simp [intOf]; omega⟩
            · obtain rfl : j = C := by omega
              go_wp2_with fail
              refine (len_any _ _ _ _ _ _ _ P8.A.ar).mono ?_
              rintro e w9 ⟨rfl, rfl⟩
              go_wp2_with fail
              refine (len_any _ _ _ _ _ _ _ P8.B.ar).mono ?_
              rintro e w9 ⟨rfl, rfl⟩
              go_wp2_with fail
              go_ret
              exact ⟨by simp, P8.A.bel⟩
        · clear hN0
          have hdc : decide (F.length < C) = false := by simp; omega
          go_upto_region 22 with (fail)
          rw [hC']
          clear hC hC'
          go_wp2_with fail
          refine (many_ok _ _ _ _ _ _ C _ hP.A.ar (by rw [HAV.out]; omega)).mono ?_
          rintro e w7 ⟨rv, v7, rfl, hM⟩
          have P7 := hP.many hM
          have hok7 := hP.A.ar.ok
          clear hM
          obtain ⟨ra, rc, hrv⟩ := P7.row.shape
          rw [Ar.got_length] at hrv
          rw [hrv] at P7 ⊢
          clear hrv
          have hll := P7.set.len
          simp only [List.length_map] at hll
          go_wp2_with fail
          obtain ⟨wo, rfl⟩ : ∃ wo : World, wo = wr := ⟨_, rfl⟩
          go_loopw [22] (fun i wx => TakeRel w ab bg bt ab2 bg2 bt2 bs k C v7 (.slice ra C rc) s (F.map (·.1)) i wx) (fun i _ => C - (intOf i).toNat)
          case atStart => exact ⟨0, v2, Nat.zero_le _, rfl, P7⟩
          case round =>
            clear P7 hll hP
            obtain ⟨j, v8, hj, rfl, P8⟩ := hrel
            by_cases hjl : j < C
            · obtain ⟨x, hres, hxi⟩ := Ar.after_res hok7 (j := j) (by rw [HAV.out]; omega)
              obtain ⟨rg, rc', hge⟩ := P8.row.shape_pos (by rw [Ar.got_length]; omega)
              obtain rfl : ra = some ⟨rg, 0, none⟩ := by simp only [Value.slice.injEq] at hge; exact hge.1
              have hget := Ar.got_get s C j hjl
              rw [hres] at hget
              have HGET := Lib.hid hget
              have HRES := Lib.hid hres
              clear hget hres hge
              go_wp2_with fail
              refine (take_to _ _ _ _ _ _ _ _ _ _ P8.B.ar HRES.out).mono ?_
              rintro e w9 ⟨rfl, v9, hA9, hc9, ho9⟩
              have P9 := (P8.swap.stepA hA9 hc9 ho9).swap
              have B9 := Boxed.new hA9 (.cells #[.int .i64 x, .int .i64 ((s.after j).gens x)] 30)
              have P10 := P9.alloc (.cells #[.int .i64 x, .int .i64 ((s.after j).gens x)] 30)
              clear hA9 hc9 ho9 P8 P9
              obtain ⟨cq0, cq1⟩ := P10.row.at.cells j _ _ HGET.out
              simp only [Nat.zero_add] at cq0 cq1
              obtain ⟨G, hG⟩ : ∃ G, G = (s.after j).gens x := ⟨_, rfl⟩
              rw [← hG] at cq0 cq1 B9 P10 ⊢
              clear hG
              go_wp2_with fail
              obtain ⟨W, hW⟩ : ∃ W, W = w9.alloc (.cells #[.int .i64 x, .int .i64 G] 30) := ⟨_, rfl⟩
              rw [← hW] at B9 P10 cq0 cq1 ⊢
              have cb0 := B9.cell 0
              have cb1 := B9.cell 1
              simp at cb0 cb1
              have hj0 : (0 : Int) ≤ (j : Int) := by omega
              have hj1 : (j : Int) < (C : Int) := by omega
              clear hW
              go_quiet (fail)
              go_wp2_with fail
              exact ⟨⟨j + 1, v9, by omega, by simp, P10.below (below_drewN (Below.refl _ _) _)⟩, by simp [intOf]; omega⟩
            · obtain rfl : j = C := by omega
              go_wp2_with fail
              refine (len_any _ _ _ _ _ _ _ P8.A.ar).mono ?_
              rintro e w9 ⟨rfl, rfl⟩
              go_wp2_with fail
              refine (len_any _ _ _ _ _ _ _ P8.B.ar).mono ?_
              rintro e w9 ⟨rfl, rfl⟩
              go_wp2_with fail
              go_ret
              exact ⟨by simp, P8.A.bel⟩
      · rcases Nat.lt_or_ge k pn with hkp | hkp
        · have hN00 : N ≤ 0 := hN0 hkp
          clear hN0
          go_upto_region 22 with (fail)
          rw [hC']
          clear hC hC'
          go_wp2_with fail
          refine (many_full _ _ _ _ _ _ C _ hP.A.ar (by omega) (by rw [HAV.out]; omega)).mono ?_
          rintro e w7 ⟨rfl, hb7⟩
          have P7 := hP.below hb7
          have hll := P7.set.len
          simp only [List.length_map] at hll
          have hfF : (s.fresh : Int) - s.free.length = (N : Int) - (F.length : Int) := by rw [hinv.fresh, hinv.free, List.length_map]
          have HFF := Lib.hid hfF
          clear hfF
          go_wp2_with fail
          refine (len_any _ _ _ _ _ _ _ P7.A.ar).mono ?_
          rintro e w8 ⟨rfl, rfl⟩
          rw [HFF.out]
          go_wp2_with fail
          go_ret
          exact ⟨rfl, P7.A.bel⟩
        · clear hN0
          go_upto_region 22 with (fail)
          rw [hC']
          clear hC hC'
          go_wp2_with fail
          refine (many_full _ _ _ _ _ _ C _ hP.A.ar (by omega) (by rw [HAV.out]; omega)).mono ?_
          rintro e w7 ⟨rfl, hb7⟩
          have P7 := hP.below hb7
          have hll := P7.set.len
          simp only [List.length_map] at hll
          have hfF : (s.fresh : Int) - s.free.length = (N : Int) - (F.length : Int) := by rw [hinv.fresh, hinv.free, List.length_map]
          have HFF := Lib.hid hfF
          clear hfF
          go_wp2_with fail
          refine (len_any _ _ _ _ _ _ _ P7.A.ar).mono ?_
          rintro e w8 ⟨rfl, rfl⟩
          rw [HFF.out]
          go_wp2_with fail
          go_ret
          exact ⟨rfl, P7.A.bel⟩
end Go.Proofs.Ytfkckdfldalceaa
