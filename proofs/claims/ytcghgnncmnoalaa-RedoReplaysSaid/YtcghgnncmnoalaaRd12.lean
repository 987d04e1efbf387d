/- redo.Parse. Conditions: each contract's own premises. -/
import Derived.Test.YtcghgnncmnoalaaRd11
import Derived.Test.YtcghgnncmnoalaaBk6
import Derived.Deep.RegionHeld3
namespace Go.Proofs.Ytcghgnncmnoalaa
open Go.RowKit Go.Maps

/-- what the frame of Parse holds -/
theorem pb_new (w : World) (x0 x1 : Value) : PB w ((((w.alloc (.cells #[x0, x1] 43)).alloc (.cells #[.int .u64 0, .slice none 0 0] 35)).alloc (.cells #[.int .i64 0] 3)).alloc (.cells #[.int .i64 0] 36)) w.heap.size (w.heap.size + 1) (w.heap.size + 1 + 1) (w.heap.size + 1 + 1 + 1) x0 x1 (.int .u64 0) (.slice none 0 0) (.int .i64 0) (.int .i64 0) := by
  refine ⟨(((below_box w _).alloc (by (try simp only [size_alloc]); omega) _).alloc (by (try simp only [size_alloc]); omega) _).alloc (by (try simp only [size_alloc]); omega) _, ?_, ?_, ?_, ?_, by omega⟩
  · rw [Below.heap_alloc _ _ _ (by (try simp only [size_alloc]); omega), Below.heap_alloc _ _ _ (by (try simp only [size_alloc]); omega), Below.heap_alloc _ _ _ (by (try simp only [size_alloc]); omega)]; exact heap_new w _
  · rw [Below.heap_alloc _ _ _ (by (try simp only [size_alloc]); omega), Below.heap_alloc _ _ _ (by (try simp only [size_alloc]); omega)]
    have := heap_new (w.alloc (.cells #[x0, x1] 43)) (.cells #[.int .u64 0, .slice none 0 0] 35)
    simpa using this
  · rw [Below.heap_alloc _ _ _ (by (try simp only [size_alloc]); omega)]
    have := heap_new ((w.alloc (.cells #[x0, x1] 43)).alloc (.cells #[.int .u64 0, .slice none 0 0] 35)) (.cells #[.int .i64 0] 3)
    simpa using this
  · have := heap_new (((w.alloc (.cells #[x0, x1] 43)).alloc (.cells #[.int .u64 0, .slice none 0 0] 35)).alloc (.cells #[.int .i64 0] 3)) (.cells #[.int .i64 0] 36)
    simpa using this
theorem psd_bad (w u : World) (b1 b2 b3 b4 : Nat) {x0 x1 r0 r1 r2 r3 : Value} (c : Int) {p : Psd} (hp : p = .err c) (h : PB w u b1 b2 b3 b4 x0 x1 r0 r1 r2 r3) :
    ParPost w p (.returned (.tuple #[.agg #[.int .u64 0, .slice none 0 0], .int .i64 0, .int .i64 c])) ((((u.setCell ⟨b2, 0, none⟩ (.int .u64 0)).setCell ⟨b2, 1, none⟩ (.slice none 0 0)).setCell ⟨b3, 0, none⟩ (.int .i64 0)).setCell ⟨b4, 0, none⟩ (.int .i64 c)) := by
  subst hp
  exact ⟨(h.bad c).bel, rfl⟩
theorem own_set {w : World} {B b i : Nat} {v u : Value} {l : List Wr} (h : kW.Own w B v l) (hb : b < B) : kW.Own (w.setCell ⟨b, i, none⟩ u) B v l :=
  ownsRow_of_block h (fun j hj => set_other _ (by have := (h.lt j hj).1; omega))
theorem PB.drew {w u : World} {b1 b2 b3 b4 : Nat} {x0 x1 r0 r1 r2 r3 : Value} (h : PB w u b1 b2 b3 b4 x0 x1 r0 r1 r2 r3) : PB w u.drew b1 b2 b3 b4 x0 x1 r0 r1 r2 r3 := h.below (Below.refl _ _).drew
set_option maxRecDepth 100000 in
set_option maxHeartbeats 2000000 in
theorem parse_any (k : UInt8) (a : Option Addr) (cap : Nat) (l : List UInt8) (w : World) (h : BsV w a l) (hcap : l.length ≤ cap) (ha : (a = none ∧ cap = 0) ∨ ∃ b off, a = some ⟨b, off, none⟩ ∧ b < w.heap.size) (hl : l.length ≤ 3000000) :
    Calls Try.prog 22 #[.agg #[bv k, .slice a l.length cap]] w (ParPost w (psB k l)) := by
  obtain ⟨kn, hkn⟩ : ∃ n, n = k.toNat := ⟨_, rfl⟩
  have hbv : bv k = .int .u8 (kn : Int) := by rw [hkn]; rfl
  rw [hbv]
  obtain ⟨p, hp⟩ : ∃ p, p = psB k l := ⟨_, rfl⟩
  rw [← hp]
  have HP := Lib.hid hp
  have HKN := Lib.hid hkn
  clear hkn hbv
  have hmf := mkf
  have hpb := pb_new w ((.int .u8 (kn : Int))) (.slice a l.length cap)
  obtain ⟨V, hV⟩ : ∃ V, V = ((((w.alloc (.cells #[.int .u8 (kn : Int), .slice a l.length cap] 43)).alloc (.cells #[.int .u64 0, .slice none 0 0] 35)).alloc (.cells #[.int .i64 0] 3)).alloc (.cells #[.int .i64 0] 36)) := ⟨_, rfl⟩
  rw [← hV] at hpb
  obtain ⟨b4, hb4⟩ : ∃ b, b = w.heap.size + 1 + 1 + 1 := ⟨_, rfl⟩
  obtain ⟨b3, hb3⟩ : ∃ b, b = w.heap.size + 1 + 1 := ⟨_, rfl⟩
  obtain ⟨b2, hb2⟩ : ∃ b, b = w.heap.size + 1 := ⟨_, rfl⟩
  obtain ⟨b1, hb1⟩ : ∃ b, b = w.heap.size := ⟨_, rfl⟩
  obtain ⟨B, hB⟩ : ∃ b, b = w.heap.size := ⟨_, rfl⟩
  rw [← hb4, ← hb3, ← hb2, ← hb1] at hpb
  have HPB := Lib.hid hpb
  obtain ⟨n1, n2, n3, _⟩ := hpb.ne
  have HV := Lib.hid hV
  have HB1 := Lib.hid hb1
  have HB2 := Lib.hid hb2
  have HB3 := Lib.hid hb3
  have HB4 := Lib.hid hb4
  have HA := Lib.hid ha
  have HH := Lib.hid h
  have HCAP := Lib.hid hcap
  clear hpb hV hb1 hb2 hb3 hb4 hp ha h hB hcap
  go_enter_defers Try.func22, Try.ntmps22
  go_upto_region 2 with fail
  rw [← HV.out, ← HB4.out, ← HB3.out, ← HB2.out, ← HB1.out]
  obtain ⟨W, hW⟩ : ∃ W, W = V.alloc (.cells #[.slice a l.length cap] 141) := ⟨_, rfl⟩
  obtain ⟨rb, hrb⟩ : ∃ b, b = V.heap.size := ⟨_, rfl⟩
  have hb4rb : b4 < rb := by rw [hrb]; exact HPB.out.ne.2.2.2
  have hpbW : PB w W b1 b2 b3 b4 ((.int .u8 (kn : Int))) (.slice a l.length cap) (.int .u64 0) (.slice none 0 0) (.int .i64 0) (.int .i64 0) := HPB.out.below (by rw [hW]; exact below_box _ _)
  have hrd : RdS W rb w.heap.size l := by
    refine ⟨a, cap, by rw [hW, hrb]; exact heap_new _ _, HCAP.out, HH.out.below (hpbW.bel.mono (Nat.le_refl _)), ?_⟩
    rcases HA.out with ha | ⟨b, off, e, hlt⟩
    · exact .inl ha
    · exact .inr ⟨b, off, e, by have := HPB.out.lt; omega, hlt⟩
  obtain ⟨c10, c11, _⟩ := HPB.out.cells
  have HW := Lib.hid hW
  have HRB := Lib.hid hrb
  have HPW := Lib.hid hpbW
  have HRD := Lib.hid hrd
  have HLT : Hid (b4 < rb) := Lib.hid hb4rb
  clear hW hrb hpbW hrd hb4rb
  go_upto_region 3 with fail
  rw [← HRB.out, ← HW.out]
  clear c10 c11
  obtain ⟨d10, d11, d20, d21, d30, d40, f20, f21, f30, f40⟩ := HPW.out.cells
  by_cases hk1 : kn = 1
  · have HP1 : Hid (p = psR (tkR l)) := Lib.hid (by rw [HP.out, show k = 1 from UInt8.toNat_inj.1 (by rw [← HKN.out, hk1]; rfl)]; rfl)
    subst hk1
    go_wp2_with fail
    refine (record_any rb w.heap.size l _ HRD.out HPW.out.bel.size hl).mono ?_
    rintro e w1 ⟨hc, hor⟩
    have hpb1 := HPW.out.chg hc HLT.out
    clear d10 d11 d20 d21 d30 d40 f20 f21 f30 f40 hc
    rcases hor with ⟨⟨st, ws⟩, l1, v, ho, rfl, hr, hown, hok, hst, h65⟩ | ⟨ho, rfl⟩
    · have HP2 : Hid (p = if l1 ≠ [] ∨ Rc.wrong ⟨st, ws⟩ = true then .err 10 else .rc ⟨st, ws⟩) := Lib.hid (by rw [HP1.out, ho]; rfl)
      obtain ⟨a2, cap2, rfl⟩ := hown.shape
      clear ho
      obtain ⟨d10, d11, d20, d21, d30, d40, f20, f21, f30, f40⟩ := hpb1.cells
      have HPB1 := Lib.hid hpb1
      have HR := Lib.hid hr
      have HOWN := Lib.hid hown
      have HOK := Lib.hid hok
      have HWB : Hid (b4 < W.heap.size) := Lib.hid HPW.out.ne.2.2.2
      have HWS : Hid (w.heap.size ≤ W.heap.size) := Lib.hid HPW.out.bel.size
      have HST := Lib.hid hst
      have H65 := Lib.hid h65
      clear hpb1 hr hown hok hst h65
      go_upto_region 9 with fail
      obtain ⟨U, hU⟩ : ∃ U, U = ((w1.setCell ⟨b2, 0, none⟩ (.int .u64 (st : Nat))).setCell ⟨b2, 1, none⟩ (.slice a2 ws.length cap2)).setCell ⟨b3, 0, none⟩ (.int .i64 (-1)) := ⟨_, rfl⟩
      rw [← hU]
      have hpbU : PB w U b1 b2 b3 b4 (.int .u8 1) (.slice a l.length cap) (.int .u64 (st : Nat)) (.slice a2 ws.length cap2) (.int .i64 (-1)) (.int .i64 0) := by rw [hU]; exact (HPB1.out.set2 _ _).set3 _
      obtain ⟨q1, q2, q3, q4⟩ := HPW.out.lt
      have q5 := HLT.out
      have hrU : RdS U rb w.heap.size l1 := by rw [hU]; exact rds_set (rds_set (rds_set HR.out (by omega) (by omega)) (by omega) (by omega)) (by omega) (by omega)
      have hoU : kW.Own U W.heap.size (.slice a2 ws.length cap2) ws := by
        have q6 := HWB.out
        rw [hU]; exact own_set (own_set (own_set HOWN.out (by omega)) (by omega)) (by omega)
      clear hU q1 q2 q3 q4 q5 d10 d11 d20 d21 d30 d40 f20 f21 f30 f40 HR HOWN HPB1 HPW HRD
      obtain ⟨a1, cap1, eR, _, _, _⟩ := hrU.ex
      have g0 := cell_of_blk eR 0
      simp at g0
      obtain ⟨d10, d11, d20, d21, d30, d40, f20, f21, f30, f40⟩ := hpbU.cells
      have HPU := Lib.hid hpbU
      have HOU := Lib.hid hoU
      clear eR hrU hpbU hoU
      by_cases hne : l1 = []
      · subst hne
        go_wp2_with fail
        refine (wrong_any st a2 cap2 ws _ (ws_of_row HOU.out.toV HOK.out) HST.out (by have := H65.out; omega)).mono ?_
        rintro e w2 ⟨rfl, hb2⟩
        have hpb2 := HPU.out.below hb2
        have HO2 := Lib.hid (HOU.out.below hb2)
        clear d10 d11 d20 d21 d30 d40 f20 f21 f30 f40 g0 hb2
        obtain ⟨d10, d11, d20, d21, d30, d40, f20, f21, f30, f40⟩ := hpb2.cells
        have HPB2 := Lib.hid hpb2
        clear hpb2
        obtain ⟨q, hq⟩ : ∃ q, Rc.wrong ⟨st, ws⟩ = q := ⟨_, rfl⟩
        rw [hq] at HP2 ⊢
        cases q
        · have HN : Hid (p = .rc ⟨st, ws⟩) := Lib.hid (by rw [HP2.out]; simp)
          clear HP2 hq
          go_upto_region 11 with fail
          have ks : ∀ w' y, PB w w' b1 b2 b3 b4 (.int .u8 1) (.slice a l.length cap) (.int .u64 (st : Nat)) (.slice a2 ws.length cap2) (.int .i64 (-1)) y → (fun w' => w'.cell? ⟨b2, 0, none⟩ = some (.int .u64 (st : Nat)) ∧ w'.cell? ⟨b2, 1, none⟩ = some (.slice a2 ws.length cap2) ∧ w'.cell? ⟨b3, 0, none⟩ = some (.int .i64 (-1)) ∧ w'.frozen? ⟨b2, 0, none⟩ = false ∧ w'.frozen? ⟨b2, 1, none⟩ = false ∧ w'.frozen? ⟨b3, 0, none⟩ = false ∧ w'.frozen? ⟨b4, 0, none⟩ = false) w' := fun w' y h => by
            obtain ⟨_, _, k20, k21, k30, _, m20, m21, m30, m40⟩ := h.cells
            exact ⟨k20, k21, k30, m20, m21, m30, m40⟩
          have KS := Lib.hid ks
          clear ks d10 d11 d20 d21 d30 d40 f20 f21 f30 f40
          refine wp_region_noPanic ?_
          refine wp_region_held_drew (S := (fun w' => w'.cell? ⟨b2, 0, none⟩ = some (.int .u64 (st : Nat)) ∧ w'.cell? ⟨b2, 1, none⟩ = some (.slice a2 ws.length cap2) ∧ w'.cell? ⟨b3, 0, none⟩ = some (.int .i64 (-1)) ∧ w'.frozen? ⟨b2, 0, none⟩ = false ∧ w'.frozen? ⟨b2, 1, none⟩ = false ∧ w'.frozen? ⟨b3, 0, none⟩ = false ∧ w'.frozen? ⟨b4, 0, none⟩ = false)) (by kernel_rfl) (KS.out _ _ HPB2.out.drew) (fun hHeld => ?_)
          obtain ⟨X, hGen⟩ : ∃ u, u = World.drew w2 := ⟨_, rfl⟩
          rw [← hGen] at hHeld ⊢
          have HPX : Hid (PB w X b1 b2 b3 b4 (.int .u8 1) (.slice a l.length cap) (.int .u64 (st : Nat)) (.slice a2 ws.length cap2) (.int .i64 (-1)) (.int .i64 0)) := Lib.hid (by rw [hGen]; exact HPB2.out.drew)
          obtain ⟨d10, d11, d20, d21, d30, d40, f20, f21, f30, f40⟩ := HPX.out.cells
          have HOX : Hid (kW.Own X W.heap.size (.slice a2 ws.length cap2) ws) := Lib.hid (by rw [hGen]; exact HO2.out.drew)
          clear hGen
          refine wpAnyH_take (i := 0) (oi := ⟨some 43, _, _, _, _, _⟩) (v := ?vvpa1) rfl (by kernel_rfl) (by kernel_rfl) (by kernel_rfl) (fun _ _ _ h => h) (Or.inl ⟨by rfl, ?yypa1⟩) hHeld ?rrpa1
          case yypa1 => (intro wq hSw; (try dsimp only at hSw); go_simp; first | done | with_reducible rfl)
          simp only [Act.put, List.setIfInBounds_toArray, List.set_cons_zero, List.set_cons_succ]
          refine wpAnyH_take (i := 1) (oi := ⟨some 44, _, _, _, _, _⟩) (v := ?vvpa2) rfl (by kernel_rfl) (by kernel_rfl) (by kernel_rfl) (fun _ _ _ h => h) (Or.inl ⟨by rfl, ?yypa2⟩) hHeld ?rrpa2
          case yypa2 => (intro wq hSw; (try dsimp only at hSw); go_simp; first | done | with_reducible rfl)
          simp only [Act.put, List.setIfInBounds_toArray, List.set_cons_zero, List.set_cons_succ]
          refine wpAnyH_ready (rs := [2]) (by kernel_rfl) (by simp) ?_
          refine AllReadyH.cons (o := ⟨none, _, _, _, _, _⟩) rfl (fun K hK => ?_) AllReadyH.nil
          go_simp
          refine hK.out _ _ ?sspa3 (fun hHeld => ?_)
          case sspa3 => (exact KS.out _ _ (HPX.out.set2 _ _))
          clear hK K
          try simp only [Act.put, List.setIfInBounds_toArray, List.set_cons_zero, List.set_cons_succ]
          refine wpAnyH_ready (rs := [3]) (by kernel_rfl) (by simp) ?_
          refine AllReadyH.cons (o := ⟨none, _, _, _, _, _⟩) rfl (fun K hK => ?_) AllReadyH.nil
          go_simp
          refine hK.out _ _ ?sspa4 (fun hHeld => ?_)
          case sspa4 => (exact KS.out _ _ ((HPX.out.set2 _ _).set3 _))
          clear hK K
          try simp only [Act.put, List.setIfInBounds_toArray, List.set_cons_zero, List.set_cons_succ]
          refine wpAnyH_ready (rs := [4]) (by kernel_rfl) (by simp) ?_
          refine AllReadyH.cons (o := ⟨none, _, _, _, _, _⟩) rfl (fun K hK => ?_) AllReadyH.nil
          go_simp
          refine hK.out _ _ ?sspa5 (fun hHeld => ?_)
          case sspa5 => (exact KS.out _ _ (((HPX.out.set2 _ _).set3 _).set4 _))
          clear hK K
          try simp only [Act.put, List.setIfInBounds_toArray, List.set_cons_zero, List.set_cons_succ]
          refine wpAnyH_done (by kernel_rfl) ?_ _
          clear hHeld
          refine NoPanic.normal ?_
          go_wp2_with fail
          have hfn := ((HPX.out.set2 (.int .u64 (st : Nat)) (.slice a2 ws.length cap2)).set3 (.int .i64 (-1))).set4 (.int .i64 0)
          refine door_ret rfl rfl rfl hfn.e2 hfn.e3 hfn.e4 ⟨hfn.bel, ?_⟩
          rw [HN.out]
          have q6 := HWB.out
          obtain ⟨q1, q2, q3, q4⟩ := HPB2.out.lt
          exact ⟨_, rfl, (own_set (own_set (own_set (own_set HOX.out (by omega)) (by omega)) (by omega)) (by omega)).mono HWS.out, HOK.out, HST.out, H65.out⟩
        · have HN : Hid (p = .err 10) := Lib.hid (by rw [HP2.out]; simp)
          clear HP2 hq
          go_wp2_with fail
          have hbd := HPB2.out.bad 10
          exact door_ret rfl rfl rfl hbd.e2 hbd.e3 hbd.e4 (psd_bad w _ b1 b2 b3 b4 10 HN.out HPB2.out)
      · have HN : Hid (p = .err 10) := Lib.hid (by rw [HP2.out, if_pos (.inl hne)])
        have t1 : decide ((0 : Int) < (l1.length : Int)) = true := by
          have := List.length_pos_iff.2 hne
          simp; omega
        have t2 : decide (0 < l1.length) = true := by simpa using List.length_pos_iff.2 hne
        clear HP2
        go_wp2_with fail
        have hbd := HPU.out.bad 10
        exact door_ret rfl rfl rfl hbd.e2 hbd.e3 hbd.e4 (psd_bad w _ b1 b2 b3 b4 10 HN.out HPU.out)
    · have HN : Hid (p = .err 10) := Lib.hid (by rw [HP1.out, ho]; rfl)
      clear ho
      go_wp2_with fail
      exact door_panic rfl rfl rfl hpb1.e2 hpb1.e3 hpb1.e4 hpb1.ne.1 hpb1.ne.2.1 hpb1.ne.2.2.1 (psd_bad w _ b1 b2 b3 b4 10 HN.out hpb1)
  · by_cases hk2 : kn = 2
    · have HP1 : Hid (p = psM (nuN l 4)) := Lib.hid (by rw [HP.out, show k = 2 from UInt8.toNat_inj.1 (by rw [← HKN.out, hk2]; rfl)]; rfl)
      subst hk2
      clear hk1
      go_wp2_with fail
      refine (num_at rb w.heap.size l 4 _ HRD.out hl (by omega)).mono ?_
      rintro e w1 ⟨hc, hor⟩
      have hpb1 := HPW.out.chg hc HLT.out
      clear d10 d11 d20 d21 d30 d40 f20 f21 f30 f40 hc
      rcases hor with ⟨m, l1, ho, rfl, hr, hm, hll⟩ | ⟨ho, rfl⟩
      · have HP2 : Hid (p = if l1 ≠ [] ∨ 2147483647 < m then .err 10 else .mark m) := Lib.hid (by rw [HP1.out, ho]; rfl)
        have hm4 : m < 4294967296 := hm
        have hwm : IntKind.i64.wrap (m : Int) = m := by rw [IntKind.wrap_i64]; omega
        clear ho hm hll
        obtain ⟨d10, d11, d20, d21, d30, d40, f20, f21, f30, f40⟩ := hpb1.cells
        have HPB1 := Lib.hid hpb1
        have HR := Lib.hid hr
        clear hpb1 hr
        go_upto_region 9 with fail
        obtain ⟨U, hU⟩ : ∃ U, U = w1.setCell ⟨b3, 0, none⟩ (.int .i64 (m : Nat)) := ⟨_, rfl⟩
        rw [← hU]
        have hpbU : PB w U b1 b2 b3 b4 (.int .u8 2) (.slice a l.length cap) (.int .u64 0) (.slice none 0 0) (.int .i64 (m : Nat)) (.int .i64 0) := by rw [hU]; exact HPB1.out.set3 _
        obtain ⟨q1, q2, q3, q4⟩ := HPW.out.lt
        have q5 := HLT.out
        have hrU : RdS U rb w.heap.size l1 := by rw [hU]; exact rds_set HR.out (by omega) (by omega)
        clear hU q1 q2 q3 q4 q5 d10 d11 d20 d21 d30 d40 f20 f21 f30 f40 HR HPB1 HPW HRD
        obtain ⟨a1, cap1, eR, _, _, _⟩ := hrU.ex
        have g0 := cell_of_blk eR 0
        simp at g0
        obtain ⟨d10, d11, d20, d21, d30, d40, f20, f21, f30, f40⟩ := hpbU.cells
        have HPB2 := Lib.hid hpbU
        clear eR hrU hpbU
        by_cases hne : l1 = []
        · subst hne
          by_cases hbig : 2147483647 < m
          · have HN : Hid (p = .err 10) := Lib.hid (by rw [HP2.out, if_pos (.inr hbig)])
            have t1 : decide ((2147483647 : Int) < (m : Int)) = true := by simp; omega
            clear hbig HP2
            go_wp2_with fail
            have hbd := HPB2.out.bad 10
            exact door_ret rfl rfl rfl hbd.e2 hbd.e3 hbd.e4 (psd_bad w _ b1 b2 b3 b4 10 HN.out HPB2.out)
          · have HN : Hid (p = .mark m) := Lib.hid (by rw [HP2.out, if_neg (by simp; omega)])
            have t1 : decide ((2147483647 : Int) < (m : Int)) = false := by simp; omega
            clear hbig HP2
            go_upto_region 11 with fail
            have ks : ∀ w' y, PB w w' b1 b2 b3 b4 (.int .u8 2) (.slice a l.length cap) (.int .u64 0) (.slice none 0 0) (.int .i64 (m : Nat)) y → (fun w' => w'.cell? ⟨b2, 0, none⟩ = some (.int .u64 0) ∧ w'.cell? ⟨b2, 1, none⟩ = some (.slice none 0 0) ∧ w'.cell? ⟨b3, 0, none⟩ = some (.int .i64 (m : Nat)) ∧ w'.frozen? ⟨b2, 0, none⟩ = false ∧ w'.frozen? ⟨b2, 1, none⟩ = false ∧ w'.frozen? ⟨b3, 0, none⟩ = false ∧ w'.frozen? ⟨b4, 0, none⟩ = false) w' := fun w' y h => by
              obtain ⟨_, _, k20, k21, k30, _, m20, m21, m30, m40⟩ := h.cells
              exact ⟨k20, k21, k30, m20, m21, m30, m40⟩
            have KS := Lib.hid ks
            clear ks d10 d11 d20 d21 d30 d40 f20 f21 f30 f40
            refine wp_region_noPanic ?_
            refine wp_region_held_drew (S := (fun w' => w'.cell? ⟨b2, 0, none⟩ = some (.int .u64 0) ∧ w'.cell? ⟨b2, 1, none⟩ = some (.slice none 0 0) ∧ w'.cell? ⟨b3, 0, none⟩ = some (.int .i64 (m : Nat)) ∧ w'.frozen? ⟨b2, 0, none⟩ = false ∧ w'.frozen? ⟨b2, 1, none⟩ = false ∧ w'.frozen? ⟨b3, 0, none⟩ = false ∧ w'.frozen? ⟨b4, 0, none⟩ = false)) (by kernel_rfl) (KS.out _ _ HPB2.out.drew) (fun hHeld => ?_)
            obtain ⟨X, hGen⟩ : ∃ u, u = World.drew U := ⟨_, rfl⟩
            rw [← hGen] at hHeld ⊢
            have HPX : Hid (PB w X b1 b2 b3 b4 (.int .u8 2) (.slice a l.length cap) (.int .u64 0) (.slice none 0 0) (.int .i64 (m : Nat)) (.int .i64 0)) := Lib.hid (by rw [hGen]; exact HPB2.out.drew)
            obtain ⟨d10, d11, d20, d21, d30, d40, f20, f21, f30, f40⟩ := HPX.out.cells
            clear hGen
            refine wpAnyH_take (i := 0) (oi := ⟨some 43, _, _, _, _, _⟩) (v := ?vvpb1) rfl (by kernel_rfl) (by kernel_rfl) (by kernel_rfl) (fun _ _ _ h => h) (Or.inl ⟨by rfl, ?yypb1⟩) hHeld ?rrpb1
            case yypb1 => (intro wq hSw; (try dsimp only at hSw); go_simp; first | done | with_reducible rfl)
            simp only [Act.put, List.setIfInBounds_toArray, List.set_cons_zero, List.set_cons_succ]
            refine wpAnyH_take (i := 1) (oi := ⟨some 44, _, _, _, _, _⟩) (v := ?vvpb2) rfl (by kernel_rfl) (by kernel_rfl) (by kernel_rfl) (fun _ _ _ h => h) (Or.inl ⟨by rfl, ?yypb2⟩) hHeld ?rrpb2
            case yypb2 => (intro wq hSw; (try dsimp only at hSw); go_simp; first | done | with_reducible rfl)
            simp only [Act.put, List.setIfInBounds_toArray, List.set_cons_zero, List.set_cons_succ]
            refine wpAnyH_ready (rs := [2]) (by kernel_rfl) (by simp) ?_
            refine AllReadyH.cons (o := ⟨none, _, _, _, _, _⟩) rfl (fun K hK => ?_) AllReadyH.nil
            go_simp
            refine hK.out _ _ ?sspb3 (fun hHeld => ?_)
            case sspb3 => (exact KS.out _ _ (HPX.out.set2 _ _))
            clear hK K
            try simp only [Act.put, List.setIfInBounds_toArray, List.set_cons_zero, List.set_cons_succ]
            refine wpAnyH_ready (rs := [3]) (by kernel_rfl) (by simp) ?_
            refine AllReadyH.cons (o := ⟨none, _, _, _, _, _⟩) rfl (fun K hK => ?_) AllReadyH.nil
            go_simp
            refine hK.out _ _ ?sspb4 (fun hHeld => ?_)
            case sspb4 => (exact KS.out _ _ ((HPX.out.set2 _ _).set3 _))
            clear hK K
            try simp only [Act.put, List.setIfInBounds_toArray, List.set_cons_zero, List.set_cons_succ]
            refine wpAnyH_ready (rs := [4]) (by kernel_rfl) (by simp) ?_
            refine AllReadyH.cons (o := ⟨none, _, _, _, _, _⟩) rfl (fun K hK => ?_) AllReadyH.nil
            go_simp
            refine hK.out _ _ ?sspb5 (fun hHeld => ?_)
            case sspb5 => (exact KS.out _ _ (((HPX.out.set2 _ _).set3 _).set4 _))
            clear hK K
            try simp only [Act.put, List.setIfInBounds_toArray, List.set_cons_zero, List.set_cons_succ]
            refine wpAnyH_done (by kernel_rfl) ?_ _
            clear hHeld
            refine NoPanic.normal ?_
            go_wp2_with fail
            have hfn := ((HPX.out.set2 (.int .u64 0) (.slice none 0 0)).set3 (.int .i64 (m : Nat))).set4 (.int .i64 0)
            refine door_ret rfl rfl rfl hfn.e2 hfn.e3 hfn.e4 ⟨hfn.bel, ?_⟩
            rw [HN.out]
            rfl
        · have HN : Hid (p = .err 10) := Lib.hid (by rw [HP2.out, if_pos (.inl hne)])
          have t1 : decide ((0 : Int) < (l1.length : Int)) = true := by
            have := List.length_pos_iff.2 hne
            simp; omega
          have t2 : decide (0 < l1.length) = true := by simpa using List.length_pos_iff.2 hne
          clear HP2
          go_wp2_with fail
          have hbd := HPB2.out.bad 10
          exact door_ret rfl rfl rfl hbd.e2 hbd.e3 hbd.e4 (psd_bad w _ b1 b2 b3 b4 10 HN.out HPB2.out)
      · have HN : Hid (p = .err 10) := Lib.hid (by rw [HP1.out, ho]; rfl)
        clear ho
        go_wp2_with fail
        exact door_panic rfl rfl rfl hpb1.e2 hpb1.e3 hpb1.e4 hpb1.ne.1 hpb1.ne.2.1 hpb1.ne.2.2.1 (psd_bad w _ b1 b2 b3 b4 10 HN.out hpb1)
    · have HN : Hid (p = .err 22) := Lib.hid (by
        rw [HP.out]; unfold psB
        rw [if_neg (fun e => hk1 (by rw [HKN.out, e]; rfl)), if_neg (fun e => hk2 (by rw [HKN.out, e]; rfl))])
      have t1 : ((kn : Int) == 1) = false := by simp; omega
      have t2 : ((kn : Int) == 2) = false := by simp; omega
      clear hk1 hk2
      go_wp2_with fail
      have hbd := HPW.out.bad 22
      exact door_ret rfl rfl rfl hbd.e2 hbd.e3 hbd.e4 (psd_bad w _ b1 b2 b3 b4 22 HN.out HPW.out)
end Go.Proofs.Ytcghgnncmnoalaa
