/- ArenaActs: the walk of the law. Conditions: the theorems' own premises. -/
import Derived.Test.YtfkckdfldalceaaActsState
import Derived.Test.YtfkckdfldalceaaArenaAwake
import Derived.Deep.RegionLaw
import Derived.BigRegion
import Derived.Deep.DeepCutAuto
import Derived.Deep.CutBlock
namespace Go.Proofs.Ytfkckdfldalceaa
open Go.RowKit Go.Maps

def ActsAt (w w0 : World) (ab bg bt rb N c : Nat) (wr : World) : Prop :=
  ∃ v s fv tv F T, Duo w w0 wr ab bg bt v s c rb fv tv F T ∧ s.room = N
def ActsRel (w w0 : World) (ab bg bt rb N pn : Nat) (i : Value) (wr : World) : Prop :=
  ∃ j : Nat, j ≤ pn ∧ i = .int .i64 j ∧ ActsAt w w0 ab bg bt rb N (2000 * j) wr
def TailAt (w w0 W : World) (ab bg bt rb N xb : Nat) (X : Obj) (C : Nat) : Prop :=
  ∃ vv ss ff tt FF TT, Duo0 w w0 W ab bg bt vv ss C rb ff tt FF TT xb X ∧ RefInv ss FF TT ∧ ss.room = N
def StillRel (W : World) (n : Nat) (i : Value) (wr : World) : Prop :=
  ∃ k : Nat, k ≤ n ∧ i = .int .i64 k ∧ Below W.heap.size W wr
theorem TailAt.mk' {w w0 W : World} {ab bg bt rb N xb c C : Nat} {X : Obj} {v fv tv : Value} {s : Ar} {F T : List (Int × Int)} (h : Duo0 w w0 W ab bg bt v s c rb fv tv F T xb X) (hi : RefInv s F T) (hr : s.room = N) (hc : c ≤ C) (hC : C ≤ 1099511627776) : TailAt w w0 W ab bg bt rb N xb X C :=
  ⟨v, s, fv, tv, F, T, ⟨h.A.mono hc hC, h.R, h.b0, h.b1, h.dis, h.box, h.bA, h.bR⟩, hi, hr⟩
theorem TailAt.below {w w0 W W' : World} {ab bg bt rb N xb C : Nat} {X : Obj} (h : TailAt w w0 W ab bg bt rb N xb X C) (hb : Below W.heap.size W W') : TailAt w w0 W' ab bg bt rb N xb X C := by
  obtain ⟨vv, ss, ff, tt, FF, TT, h1, h2⟩ := h
  exact ⟨vv, ss, ff, tt, FF, TT, h1.below hb, h2⟩
theorem RfC.nothing {w0 w : World} {rb : Nat} {fv tv : Value} {F T : List (Int × Int)} (h : RfC w0 w rb fv tv F T) : RfC w0 w rb fv tv F T := h

/-- an act in memory -/
def ActAt (w : World) (a : Option Addr) (i : Nat) : Prop :=
  ∃ kd nn ha hc hs pb po, I64 kd ∧ I64 nn ∧ a = some ⟨pb, po, none⟩ ∧ pb < w.heap.size ∧ w.cell? ⟨pb, po + i * 3, none⟩ = some (.int .i64 kd) ∧ w.cell? ⟨pb, po + i * 3 + 1, none⟩ = some (.int .i64 nn) ∧ w.cell? ⟨pb, po + i * 3 + 2, none⟩ = some (.slice ha hs.length hc) ∧ HsV w ha hs ∧ hs.length ≤ maxLen

set_option maxRecDepth 100000 in
set_option maxHeartbeats 1000000 in
theorem acts_long (a : Option Addr) (pn pc : Nat) (r : Int) (w : World) (hlen : 60 < pn) (hm : pn ≤ maxLen) :
    Calls Try.prog 6 #[.int .i64 r, .slice a pn pc] w fun e w' => e = .returned (.bool true) ∧ Below w.heap.size w w' := by
  unfold maxLen at hm
  go_enter Try.func6, Try.ntmps6
  go_wp2_with fail
  refine (awake5_any _).mono ?_
  rintro e w1 ⟨rfl, hb1⟩
  go_wp2_with fail
  refine (awake5_any _).mono ?_
  rintro e w2 ⟨rfl, hb2⟩
  go_wp2_with fail
  go_ret
  exact ⟨rfl, below_then hb1 hb2⟩

set_option maxRecDepth 100000 in
set_option maxHeartbeats 1000000 in
theorem acts_bad (a : Option Addr) (pn pc : Nat) (r : Int) (w : World) (hlen : pn ≤ 60) (hb : r < 0 ∨ 1048576 < r) :
    Calls Try.prog 6 #[.int .i64 r, .slice a pn pc] w fun e w' => e = .returned (.bool true) ∧ Below w.heap.size w w' := by
  have hd : decide ((60 : Int) < (pn : Int)) = false := by simp; omega
  have HNB := Lib.hid (fun W => new_bad r W hb)
  rcases hb with hb | hb
  all_goals
    go_enter Try.func6, Try.ntmps6
    go_wp2_with fail
    refine (awake5_any _).mono ?_
    rintro e w1 ⟨rfl, hb1⟩
    go_wp2_with fail
    refine (HNB.out _).mono ?_
    rintro e w2 ⟨rfl, rfl⟩
    go_wp2_with fail
    go_ret
    exact ⟨rfl, hb1⟩

set_option maxRecDepth 100000 in
set_option maxHeartbeats 4000000 in
theorem acts_some (a : Option Addr) (pn pc : Nat) (r : Int) (w : World) (hlen : pn ≤ 60) (hr0 : 0 ≤ r) (hr1 : r ≤ 1048576) (hp : ∀ i, i < pn → ActAt w a i) :
    Calls Try.prog 6 #[.int .i64 r, .slice a pn pc] w fun e w' => e = .returned (.bool true) ∧ Below w.heap.size w w' := by
  have HP := Lib.hid hp
  clear hp
  have hd : decide ((60 : Int) < (pn : Int)) = false := by simp; omega
  obtain ⟨N, hN⟩ : ∃ N : Nat, r.tmod 40 = (N : Int) := ⟨(r.tmod 40).toNat, by have := Int.tmod_nonneg 40 hr0; omega⟩
  have hN9 : N ≤ 39 := by have := Int.tmod_lt_of_pos r (show (0 : Int) < 40 by omega); omega
  go_enter Try.func6, Try.ntmps6
  go_wp2_with fail
  refine (awake5_any _).mono ?_
  rintro e w1 ⟨rfl, hb1⟩
  go_wp2_with fail
  try rw [hN]
  clear hN
  refine (new_any N _ (by omega)).mono ?_
  rintro e w2 ⟨rfl, hA, hb2⟩
  have hSA := (ArS.made hA hb2).from hb1
  clear hA hb2 hb1
  obtain ⟨ab, bg, bt, e1, e2, e3⟩ : ∃ ab bg bt, ab = w1.heap.size + 2 ∧ bg = w1.heap.size ∧ bt = w1.heap.size + 1 := ⟨_, _, _, rfl, rfl, rfl⟩
  rw [← e1, ← e3, ← e2] at hSA
  rw [← e1]
  clear e1 e2 e3
  go_wp2_with fail
  refine (rnew_any N _ (by omega)).mono ?_
  rintro e w3 ⟨fv0, rfl, hR, hb3⟩
  have D0 : ActsAt w w2 ab bg bt w2.heap.size N 0 w3 := ⟨_, _, _, _, _, _, ⟨hSA.below hb3, hR, hSA.bel.size, Nat.le_refl _, fun k hk hk' => by
    have h1 := hSA.ar.lt hk
    rcases hk' with e | e | e
    · omega
    · have := (hR.hF.lt e).1; omega
    · simp [Value.ownBlock] at e, RefInv.start N⟩, rfl⟩
  clear hSA hR hb3
  obtain ⟨rb, hrb⟩ : ∃ rb, rb = w2.heap.size := ⟨_, rfl⟩
  rw [← hrb] at D0 ⊢
  clear hrb
  go_wp2_with fail
  go_loopw [11] (fun i wr => ActsRel w w2 ab bg bt rb N pn i wr) (fun i _ => pn - (intOf i).toNat)
  case atStart => exact ⟨0, Nat.zero_le _, rfl, D0⟩
  case round =>
    clear D0
    obtain ⟨j, hj, rfl, v, s, fv, tv, F, T, D, hrm⟩ := hrel
    by_cases hlt : j < pn
    · obtain ⟨kd, nn, ha, hc, hs, pb, po, hkd, hnn, rfl, hpb, q0, q1, q2, hV, hsl⟩ := HP.out j hlt
      have q0' := (D.A.bel.cell (p := ⟨pb, po + j * 3, none⟩) hpb).trans q0
      have q1' := (D.A.bel.cell (p := ⟨pb, po + j * 3 + 1, none⟩) hpb).trans q1
      have q2' := (D.A.bel.cell (p := ⟨pb, po + j * 3 + 2, none⟩) hpb).trans q2
      clear q0 q1 q2
      have j0 : (0 : Int) ≤ (j : Int) := by omega
      have j1 : (j : Int) < (pn : Int) := by omega
      by_cases h30 : 30 < hs.length
      · have hd3 : decide ((30 : Int) < (hs.length : Int)) = true := by simp; omega
        go_wp2_with fail
        go_ret
        exact ⟨rfl, D.A.bel.alloc D.A.bel.size _⟩
      · have hd3 : decide ((30 : Int) < (hs.length : Int)) = false := by simp; omega
        have hok := D.A.ar.ok
        have hroom := D.inv.room hok
        have B := D.boxed (.cells #[.int .i64 kd, .int .i64 nn, .slice ha hs.length hc] 47)
        have hinv := D.inv
        have hFT : F.length ≤ 39 ∧ T.length ≤ 39 := by omega
        obtain ⟨hF9, hT9⟩ := hFT
        have HV : Hid (∀ W', Below w.heap.size w W' → HsV W' ha hs) := fun W' hb => ⟨hV.i64, fun hl => by obtain ⟨b, o, e, h⟩ := hV.at' hl; exact ⟨b, o, e, h.of_below hb h.lt⟩⟩
        have HVA : Hid (∀ b o, ha = some ⟨b, o, none⟩ → 0 < hs.length → b < w.heap.size) := fun b o e hl => by
          obtain ⟨b', o', e', h⟩ := hV.at' hl
          rw [e] at e'; cases e'
          exact h.lt
        have HG : Hid (∀ p ∈ T, 0 ≤ p.2 ∧ p.2 ≤ 1099511627776) := fun p hp => by
          have h1 := (hinv.mem p).1 hp
          have h2 := hok.gens p.1
          have h3 := hok.cnt
          rw [h1.2] at h2
          exact ⟨h2.1, by omega⟩
        obtain ⟨xb, hxb⟩ : ∃ xb, xb = wr.heap.size := ⟨_, rfl⟩
        rw [← hxb] at B
        have c0 := cell_of_blk B.box 0
        have c1 := cell_of_blk B.box 1
        have c2 := cell_of_blk B.box 2
        simp at c0 c1 c2
        go_upto_block 2 with (fail)
        rw [← hxb]
        clear hxb
        go_cut [13] (fun ok wx => ok = .bool true ∧ TailAt w w2 wx ab bg bt rb N xb (.cells #[.int .i64 kd, .int .i64 nn, .slice ha hs.length hc] 47) (2000 * (j + 1)))
        case first =>
          by_cases k0 : kd = 0
          · as_aux_lemma =>
            subst k0
            cases F with
            | nil =>
              as_aux_lemma =>
              obtain ⟨hres, hst⟩ := hinv.full hok
              have HRES := Lib.hid hres
              have HST := Lib.hid hst
              clear hres hst
              go_wp2_with fail
              refine (take_to _ _ _ _ _ _ _ 0 0 50 B.A.ar HRES.out).mono ?_
              rintro e w4 ⟨rfl, v4, hA4, hc4, ho4⟩
              rw [HST.out] at hA4
              have B4 := B.stepA hA4 hc4 ho4
              clear hA4 hc4 ho4 HRES HST
              have B5 := B4.alloc (.cells #[.int .i64 0, .int .i64 0] 30)
              go_wp2_with fail
              refine (rmany_full _ _ _ _ _ _ _ 1 B5.R (by omega) (by simp)).mono ?_
              rintro e w6 ⟨rfl, hw6⟩
              have hb6 : Below (w4.alloc (.cells #[.int .i64 0, .int .i64 0] 30)).heap.size (w4.alloc (.cells #[.int .i64 0, .int .i64 0] 30)) w6 := hw6 ▸ Below.refl _ _
              clear hw6
              have hbx := (hb6.block _ (by rw [size_alloc]; omega)).trans (heap_new w4 (.cells #[.int .i64 0, .int .i64 0] 30))
              have b0 := cell_of_blk hbx 0
              have b1 := cell_of_blk hbx 1
              simp at b0 b1
              clear hbx
              have B6 := B5.below hb6
              clear B4 B5 hb6
              go_wp2_with fail
              go_quiet (fail)
              clear b0 b1
              have HT : TailAt w w2 (w6.drewN nq) ab bg bt rb N xb _ (2000 * (j + 1)) := TailAt.mk' (B6.below (below_drewN (Below.refl _ _) nq)) hinv hrm (by omega) (by omega)
              clear B6
              go_wp2_with fail
              go_meet
              exact ⟨rfl, HT⟩
            | cons p F =>
              as_aux_lemma =>
              obtain ⟨x, g⟩ := p
              obtain ⟨hres, hinv2⟩ := hinv.took hok
              have hrm2 : s.take.room = N := by
                rcases Ar.take_cases hok with ⟨_, _, _, e⟩ | ⟨_, _, _, _, _, _, _, e, _⟩
                · rw [e]; exact hrm
                · exact e.trans hrm
              have HRES := Lib.hid hres
              simp only [List.length_cons] at hF9
              clear hres
              go_wp2_with fail
              refine (take_to _ _ _ _ _ _ _ x g 0 B.A.ar HRES.out).mono ?_
              rintro e w4 ⟨rfl, v4, hA4, hc4, ho4⟩
              have B4 := B.stepA hA4 hc4 ho4
              clear hA4 hc4 ho4 HRES
              have B5 := B4.alloc (.cells #[.int .i64 x, .int .i64 g] 30)
              go_wp2_with fail
              refine (rmany_ok _ _ _ _ _ _ _ 1 B5.R (by simp) (by simp; omega) (by omega)).mono ?_
              rintro e w6 ⟨rv, fv6, tv6, rfl, R6, C6, P6, row6, out6⟩
              have B6 := B5.stepR R6 C6 P6
              have hbx := (C6.block w4.heap.size (by rw [size_alloc]; omega) (fun e => Nat.lt_irrefl _ (B4.R.lt e))).trans (heap_new w4 (.cells #[.int .i64 x, .int .i64 g] 30))
              have b0 := cell_of_blk hbx 0
              have b1 := cell_of_blk hbx 1
              simp at b0 b1
              obtain ⟨g6, cap6, hrv⟩ := row6.shape_pos (by simp)
              rw [hrv] at row6
              obtain ⟨y0, y1⟩ := row6.at.cells 0 x g (by simp)
              simp at y0 y1
              simp only [List.take_succ_cons, List.take_zero, List.length_singleton] at hrv
              rw [hrv]
              simp only [List.take_succ_cons, List.take_zero, List.drop_succ_cons, List.drop_zero] at B6
              clear hbx hrv R6 C6 P6 row6 out6 B4 B5
              go_wp2_with fail
              go_quiet (fail)
              clear b0 b1 y0 y1
              have HT : TailAt w w2 (w6.drewN nq) ab bg bt rb N xb _ (2000 * (j + 1)) := TailAt.mk' (B6.below (below_drewN (Below.refl _ _) nq)) hinv2 hrm2 (by omega) (by omega)
              clear B6 hinv2 hrm2
              go_wp2_with fail
              go_meet
              exact ⟨rfl, HT⟩
          · have k0' : (kd == 0) = false := by rw [beq_eq_false_iff_ne]; exact k0
            by_cases k1 : kd = 1
            · as_aux_lemma =>
              subst k1
              by_cases hn0 : nn < 0
              · go_wp2_with fail
                refine (many_neg nn _ _ hn0).mono ?_
                rintro e w4 ⟨rfl, rfl⟩
                go_wp2_with fail
                refine (rmany_neg nn _ _ hn0).mono ?_
                rintro e w4 ⟨rfl, rfl⟩
                go_wp2_with fail
                refine (same5_any none none 0 0 [] [] _ (HsV.nil _ _) (HsV.nil _ _) (by simp) (by simp)).mono ?_
                rintro e w7 ⟨rfl, hb7⟩
                have HT : TailAt w w2 w7 ab bg bt rb N xb _ (2000 * (j + 1)) := TailAt.mk' (B.below hb7) hinv hrm (by omega) (by omega)
                clear hb7
                go_wp2_with fail
                go_meet
                exact ⟨rfl, HT⟩
              · by_cases hnF : (F.length : Int) < nn
                · have hav := hinv.avail hok
                  have hav' : s.avail < nn := by omega
                  have hn0' : 0 ≤ nn := by omega
                  clear hav
                  go_wp2_with fail
                  refine (many_full _ _ _ _ _ _ nn _ B.A.ar hn0' hav').mono ?_
                  rintro e w4 ⟨rfl, hb4⟩
                  have B4 := B.below hb4
                  clear hb4
                  have d1 := cell_of_blk B4.box 1
                  simp at d1
                  go_wp2_with fail
                  refine (rmany_full _ _ _ _ _ _ _ nn B4.R hn0' hnF).mono ?_
                  rintro e w5 ⟨rfl, rfl⟩
                  go_wp2_with fail
                  refine (same5_any none none 0 0 [] [] _ (HsV.nil _ _) (HsV.nil _ _) (by simp) (by simp)).mono ?_
                  rintro e w7 ⟨rfl, hb7⟩
                  have HT : TailAt w w2 w7 ab bg bt rb N xb _ (2000 * (j + 1)) := TailAt.mk' (B4.below hb7) hinv hrm (by omega) (by omega)
                  clear hb7 B4 d1
                  go_wp2_with fail
                  go_meet
                  exact ⟨rfl, HT⟩
                · obtain ⟨q, rfl⟩ : ∃ q : Nat, nn = (q : Int) := ⟨nn.toNat, by omega⟩
                  have hqF : q ≤ F.length := by omega
                  have hav := hinv.avail hok
                  obtain ⟨hgot, hinv2⟩ := hinv.many hok q hqF
                  have hrm2 := (Ar.after_ok hok q (by omega)).2.2.trans hrm
                  have hq2 : (q : Int) ≤ s.avail := by omega
                  obtain ⟨L, hL⟩ : ∃ L, L = F.take q := ⟨_, rfl⟩
                  have hLl : L.length ≤ 39 := by rw [hL, List.length_take]; omega
                  rw [← hL] at hgot
                  have HGOT := Lib.hid hgot
                  have HL := Lib.hid hL
                  clear hgot hav hL
                  go_wp2_with fail
                  refine (many_ok _ _ _ _ _ _ q _ B.A.ar hq2).mono ?_
                  rintro e w4 ⟨rv, v4, rfl, hM⟩
                  have B4 := B.stepA hM.ar hM.chg hM.own
                  have rowM := hM.row
                  rw [HGOT.out] at rowM
                  obtain ⟨ra, rc, hrv⟩ := rowM.shape
                  rw [hrv] at rowM ⊢
                  clear hrv hM HGOT
                  have d1 := cell_of_blk B4.box 1
                  simp at d1
                  go_wp2_with fail
                  refine (rmany_ok _ _ _ _ _ _ _ q B4.R hqF (by omega) (by omega)).mono ?_
                  rintro e w6 ⟨rv6, fv6, tv6, rfl, R6, C6, P6, row6, out6⟩
                  have B6 := B4.stepR R6 C6 P6
                  rw [← HL.out] at row6
                  have V6 := (rowM.of_block (w' := w6) (fun k hk => C6.block k (rowM.lt hk).2 (fun e => by
                    have h1 := B.R.lt e
                    have h2 := (rowM.lt hk).1
                    omega))).view.1
                  obtain ⟨ra6, rc6, hrv6⟩ := row6.shape
                  rw [hrv6] at row6 ⊢
                  have V6' := row6.view.1
                  clear hrv6 rowM R6 C6 P6 row6 out6 B4 d1 HL
                  have HSAME := Lib.hid (same5_any ra ra6 rc rc6 L L w6 V6 V6' (by omega) (by omega))
                  clear V6 V6'
                  go_wp2_with fail
                  refine HSAME.out.mono ?_
                  rintro e w7 ⟨rfl, hb7⟩
                  rw [show (L == L) = true by simp]
                  have HT : TailAt w w2 w7 ab bg bt rb N xb _ (2000 * (j + 1)) := TailAt.mk' (B6.below hb7) hinv2 hrm2 (by omega) (by omega)
                  clear hb7 B6 hinv2 hrm2 HSAME
                  go_wp2_with fail
                  go_meet
                  exact ⟨rfl, HT⟩
            · have k1' : (kd == 1) = false := by rw [beq_eq_false_iff_ne]; exact k1
              by_cases k2 : kd = 2
              · as_aux_lemma =>
                subst k2
                obtain ⟨hfy, hfn⟩ := hinv.frees (hs := hs) hok (by omega)
                have FY := Lib.hid hfy
                have FN := Lib.hid hfn
                clear hfy hfn
                cases hck : rchk T hs
                · as_aux_lemma =>
                  obtain ⟨hfr, hfs⟩ := FN.out hck
                  have HFR := Lib.hid hfr
                  have HFS := Lib.hid hfs
                  have HCK := Lib.hid hck
                  clear hfr hfs hck FY FN
                  go_upto_region 28 with (fail)
                  go_region_with (first | (go_at_call 18; refine (free_v ab bg bt hc ha v s (2000 * j) hs _ ?hA ?hh ?hl ?hf ?hc).mono ?_; (case hA => exact B.A.ar.keep (fun _ _ => rfl)); (case hh => first | exact HV.out _ B.A.bel.drew | exact HV.out _ B.A.bel); (case hl => omega); (case hf => exact fun b o e hl => B.outA (HVA.out b o e hl)); (case hc => omega); rintro e w4 ⟨rfl, v4, hA4, hc4, ho4⟩; rw [HFR.out]; rw [HFS.out] at hA4; have B4 := Duo0.stepA (B.below (Below.refl _ _).drew) hA4 hc4 ho4; have d2 := cell_of_blk B4.box 2; simp at d2) | (go_at_call 26; refine (rfree_any w2 _ rb fv tv F T hs ha hc B4.R (HV.out _ B4.A.bel) ?hl ?hF ?hT ?hf HG.out).mono ?_; (case hl => omega); (case hF => omega); (case hT => omega); (case hf => exact fun b o e hl => B4.outR (HVA.out b o e hl)); rintro e w6 hpost; obtain ⟨rfl, hb6⟩ := hpost.2 HCK.out))
                  all_goals
                    go_wp2_with fail
                    go_meet
                    exact ⟨rfl, TailAt.mk' (B4.below hb6) hinv hrm (by omega) (by omega)⟩
                · as_aux_lemma =>
                  obtain ⟨hfr, hinv2⟩ := FY.out hck
                  have hrm2 : (s.frees hs).room = N := (Ar.frees_room s hs).trans hrm
                  have HFR := Lib.hid hfr
                  have HCK := Lib.hid hck
                  clear hfr hck FY FN
                  go_upto_region 28 with (fail)
                  go_region_with (first | (go_at_call 18; refine (free_v ab bg bt hc ha v s (2000 * j) hs _ ?hA ?hh ?hl ?hf ?hc).mono ?_; (case hA => exact B.A.ar.keep (fun _ _ => rfl)); (case hh => first | exact HV.out _ B.A.bel.drew | exact HV.out _ B.A.bel); (case hl => omega); (case hf => exact fun b o e hl => B.outA (HVA.out b o e hl)); (case hc => omega); rintro e w4 ⟨rfl, v4, hA4, hc4, ho4⟩; rw [HFR.out]; have B4 := Duo0.stepA (B.below (Below.refl _ _).drew) hA4 hc4 ho4; have d2 := cell_of_blk B4.box 2; simp at d2) | (go_at_call 26; refine (rfree_any w2 _ rb fv tv F T hs ha hc B4.R (HV.out _ B4.A.bel) ?hl ?hF ?hT ?hf HG.out).mono ?_; (case hl => omega); (case hF => omega); (case hT => omega); (case hf => exact fun b o e hl => B4.outR (HVA.out b o e hl)); rintro e w6 hpost; obtain ⟨rfl, fv6, tv6, R6, C6, P6⟩ := hpost.1 HCK.out))
                  all_goals
                    go_wp2_with fail
                    go_meet
                    exact ⟨rfl, TailAt.mk' (B4.stepR R6 C6 P6) hinv2 hrm2 (by omega) (by omega)⟩
              · have k2' : (kd == 2) = false := by rw [beq_eq_false_iff_ne]; exact k2
                by_cases k3 : kd = 3
                · as_aux_lemma =>
                  subst k3
                  go_wp2_with fail
                  refine (named_any w2 _ rb fv tv F T hs ha hc B.R (HV.out _ B.A.bel) (by omega) (by omega)).mono ?_
                  rintro e w4 ⟨lv, rfl, hb4, row4, own4⟩
                  have B4 := B.below hb4
                  obtain ⟨L, hL⟩ : ∃ L, L = nameds T hs := ⟨_, rfl⟩
                  have hLl : L.length ≤ 1170 := by
                    rw [hL]
                    exact Nat.le_trans (nameds_len T hs) (Nat.le_trans (Nat.mul_le_mul (show hs.length ≤ 30 by omega) hT9) (by omega))
                  rw [← hL] at row4
                  clear hL
                  obtain ⟨la, lc, hlv⟩ := row4.shape
                  rw [hlv] at row4 own4 ⊢
                  have HNA : Hid (∀ k, (Value.slice la L.length lc).ownBlock = some k → ¬ arFp ab bg bt v k) := fun k hk e => by
                    have h1 := own4 k hk
                    have h2 := B.A.ar.lt e
                    omega
                  have HNR : Hid (∀ k, (Value.slice la L.length lc).ownBlock = some k → ¬ rfFp rb fv tv k) := fun k hk e => by
                    have h1 := own4 k hk
                    have h2 := B.R.lt e
                    omega
                  have HOB : Hid (∀ b o, la = some ⟨b, o, none⟩ → 0 < L.length → (Value.slice la L.length lc).ownBlock = some b) := fun b o e hl => by
                    obtain ⟨g, c', e2⟩ := row4.shape_pos hl
                    simp only [Value.slice.injEq] at e2
                    rw [e2.1] at e ⊢
                    cases e
                    simp [Value.ownBlock]
                  clear hlv hb4 own4
                  obtain ⟨hfy, hfn⟩ := hinv.frees (hs := L) hok (by omega)
                  have FY := Lib.hid hfy
                  have FN := Lib.hid hfn
                  clear hfy hfn
                  cases hck : rchk T L
                  · as_aux_lemma =>
                    obtain ⟨hfr, hfs⟩ := FN.out hck
                    have HFR := Lib.hid hfr
                    have HFS := Lib.hid hfs
                    have HCK := Lib.hid hck
                    clear hfr hfs hck FY FN
                    go_wp2_with fail
                    refine (free_v ab bg bt lc la v s (2000 * j) L _ B4.A.ar row4.view.1 (by omega) (fun b o e hl => HNA.out b (HOB.out b o e hl)) (by omega)).mono ?_
                    rintro e w5 ⟨rfl, v5, hA5, hc5, ho5⟩
                    rw [HFR.out]
                    rw [HFS.out] at hA5
                    have B5 := B4.stepA hA5 hc5 ho5
                    have row5 := row4.of_block (w' := w5) (fun k hk => hc5.block k (row4.lt hk).2 (HNA.out k hk))
                    clear hA5 hc5 ho5
                    go_wp2_with fail
                    refine (rfree_any w2 _ rb fv tv F T L la lc B5.R row5.view.1 (by omega) (by omega) (by omega) (fun b o e hl => HNR.out b (HOB.out b o e hl)) HG.out).mono ?_
                    rintro e w6 hpost
                    obtain ⟨rfl, hb6⟩ := hpost.2 HCK.out
                    have HT : TailAt w w2 w6 ab bg bt rb N xb _ (2000 * (j + 1)) := TailAt.mk' (B5.below hb6) hinv hrm (by omega) (by omega)
                    clear hpost hb6 B5 row5
                    go_wp2_with fail
                    go_meet
                    exact ⟨rfl, HT⟩
                  · as_aux_lemma =>
                    obtain ⟨hfr, hinv2⟩ := FY.out hck
                    have hrm2 : (s.frees L).room = N := (Ar.frees_room s L).trans hrm
                    have HFR := Lib.hid hfr
                    have HCK := Lib.hid hck
                    clear hfr hck FY FN
                    go_wp2_with fail
                    refine (free_v ab bg bt lc la v s (2000 * j) L _ B4.A.ar row4.view.1 (by omega) (fun b o e hl => HNA.out b (HOB.out b o e hl)) (by omega)).mono ?_
                    rintro e w5 ⟨rfl, v5, hA5, hc5, ho5⟩
                    rw [HFR.out]
                    have B5 := B4.stepA hA5 hc5 ho5
                    have row5 := row4.of_block (w' := w5) (fun k hk => hc5.block k (row4.lt hk).2 (HNA.out k hk))
                    clear hA5 hc5 ho5
                    go_wp2_with fail
                    refine (rfree_any w2 _ rb fv tv F T L la lc B5.R row5.view.1 (by omega) (by omega) (by omega) (fun b o e hl => HNR.out b (HOB.out b o e hl)) HG.out).mono ?_
                    rintro e w6 hpost
                    obtain ⟨rfl, fv6, tv6, R6, C6, P6⟩ := hpost.1 HCK.out
                    have HT : TailAt w w2 w6 ab bg bt rb N xb _ (2000 * (j + 1)) := TailAt.mk' (B5.stepR R6 C6 P6) hinv2 hrm2 (by omega) (by omega)
                    clear hpost B5 row5 R6 C6 P6
                    go_wp2_with fail
                    go_meet
                    exact ⟨rfl, HT⟩
                · have k3' : (kd == 3) = false := by rw [beq_eq_false_iff_ne]; exact k3
                  have HT : TailAt w w2 (wr.alloc (.cells #[.int .i64 kd, .int .i64 nn, .slice ha hs.length hc] 47)) ab bg bt rb N xb _ (2000 * (j + 1)) := TailAt.mk' B hinv hrm (by omega) (by omega)
                  go_wp2_with fail
                  go_meet
                  exact ⟨rfl, HT⟩
        case rest =>
          as_aux_lemma =>
          obtain ⟨rfl, HT⟩ := hcut
          obtain ⟨W, hW⟩ : ∃ W, W = wc := ⟨_, rfl⟩
          rw [← hW] at HT ⊢
          clear hW
          clear B hinv hroom hok hrm hF9 hT9 HG HV HVA c0 c1 c2 q0' q1' q2'
          obtain ⟨vv, ss, ff, tt, FF, TT, B, hinv, hroom⟩ := HT
          have hTN : TT.length ≤ 39 := by have := hinv.room B.A.ar.ok; omega
          obtain ⟨ta, tc, htt⟩ := B.R.hT.shape
          rw [htt] at B
          clear htt
          have r1 := cell_of_blk B.R.blk 1
          have x2 := cell_of_blk B.box 2
          simp at r1 x2
          have HLEN : Hid (∀ W', ArC W' ab bg bt vv ss (2000 * (j + 1)) → Calls Try.prog 20 #[.pointer (some ⟨ab, 0, none⟩)] W' fun e w' => e = .returned (.int .i64 TT.length) ∧ W' = w') := fun W' h => len_to _ _ _ _ _ _ _ _ h hinv.len
          have HROOM : Hid (∀ W', ArC W' ab bg bt vv ss (2000 * (j + 1)) → Calls Try.prog 28 #[.pointer (some ⟨ab, 0, none⟩)] W' fun e w' => e = .returned (.int .i64 N) ∧ W' = w') := fun W' h => room_to _ _ _ _ _ _ _ _ h hroom
          have HA := Lib.hid B.A.ar
          go_wp2_with fail
          go_quiet (first | (go_at_call 20; refine Calls.quiet_of_same (Calls.mono (HLEN.out _ ?_) (fun _ _ h => ⟨h.1, h.2.symm⟩)); exact HA.out.keep (fun _ _ => rfl)) | (go_at_call 28; refine Calls.quiet_of_same (Calls.mono (HROOM.out _ ?_) (fun _ _ h => ⟨h.1, h.2.symm⟩)); exact HA.out.keep (fun _ _ => rfl)))
          clear HLEN HROOM HA r1 x2
          go_wp2_with fail
          go_loopw [23] (fun i wx => StillRel W hs.length i wx) (fun i _ => hs.length - (intOf i).toNat)
          case atStart => exact ⟨0, Nat.zero_le _, rfl, below_drewN (Below.refl _ _) _⟩
          case round =>
            obtain ⟨k, hk, rfl, hbk⟩ := hrel
            have B2 := B.below hbk
            have r1 := cell_of_blk B2.R.blk 1
            have x2 := cell_of_blk B2.box 2
            simp at r1 x2
            have lrb := B2.R.ltR
            have lxb := B2.ltX
            obtain ⟨wo, rfl⟩ : ∃ wo : World, wo = wr := ⟨_, rfl⟩
            by_cases hkl : k < hs.length
            · obtain ⟨b, off, rfl, hat⟩ := hV.at' (by omega)
              obtain ⟨x, g, he⟩ : ∃ x g, hs[k]? = some (x, g) := ⟨_, _, List.getElem?_eq_getElem hkl⟩
              obtain ⟨hxi, hgi⟩ := hat.i64 _ (List.mem_of_getElem? he)
              have hat2 := hat.of_below B2.A.bel hat.lt
              obtain ⟨q0, q1⟩ := hat2.cells k x g he
              have lb := hat2.lt
              have k0 : (0 : Int) ≤ (k : Int) := by omega
              have k1 : (k : Int) < (hs.length : Int) := by omega
              clear he
              have KS : Hid (∀ w', Below wo.heap.size wo w' → Below wo.heap.size wo w' ∧ w'.cell? ⟨xb, 2, none⟩ = some (.slice (some ⟨b, off, none⟩) hs.length hc) ∧ w'.cell? ⟨b, off + k * 2, none⟩ = some (.int .i64 x) ∧ w'.cell? ⟨b, off + k * 2 + 1, none⟩ = some (.int .i64 g)) :=
                fun w' hb => ⟨hb, below_cell hb _ lxb x2, below_cell hb _ lb q0, below_cell hb _ lb q1⟩
              have hct := hinv.contains x g
              cases hlv : ss.live x g
              all_goals
                rw [hlv] at hct
                have HLV := Lib.hid hlv
                have HCT := Lib.hid hct
                clear hlv hct
                go_wp2_with fail
                go_region_held3 (fun w' => Below wo.heap.size wo w' ∧ w'.cell? ⟨xb, 2, none⟩ = some (.slice (some ⟨b, off, none⟩) hs.length hc) ∧ w'.cell? ⟨b, off + k * 2, none⟩ = some (.int .i64 x) ∧ w'.cell? ⟨b, off + k * 2 + 1, none⟩ = some (.int .i64 g))
                  (first | exact KS.out _ (Below.refl _ _).drew | (go_split_ands; refine KS.out _ (below_then ?_ hbc); assumption))
                  (first | (go_at_call 19; go_split_ands; refine (live_any _ _ _ _ ss _ _ x g hxi (ArS.ar (B2.A.below ?hbw))).mono ?_; (case hbw => assumption); rintro e wc ⟨rfl, hbc⟩; rw [HLV.out]) | (go_at_call 29; go_split_ands; refine (rlive_any w2 _ rb ff _ FF TT x g (B2.R.below ?hbw) (by omega)).mono ?_; (case hbw => assumption); rintro e wc ⟨rfl, hbc⟩; rw [HCT.out]))
                go_split_ands
                go_wp2_with fail
                exact ⟨⟨k + 1, by omega, by simp, hbk.trans (Below.mono (by assumption) hbk.size)⟩, by simp [intOf]; omega⟩
            · go_wp2_with fail
              go_loopw [24] (fun i wx => StillRel W TT.length i wx) (fun i _ => TT.length - (intOf i).toNat)
              case atStart => exact ⟨0, Nat.zero_le _, rfl, hbk⟩
              case round =>
                clear B2 r1 x2 lrb lxb
                obtain ⟨m, hm, rfl, hbm⟩ := hrel
                have B2 := B.below hbm
                have r1 := cell_of_blk B2.R.blk 1
                simp at r1
                have lrb := B2.R.ltR
                by_cases hml : m < TT.length
                · obtain ⟨tg, tc', hge⟩ := B2.R.hT.shape_pos (by omega)
                  obtain rfl : ta = some ⟨tg, 0, none⟩ := by simp only [Value.slice.injEq] at hge; exact hge.1
                  obtain ⟨y, g, he⟩ : ∃ y g, TT[m]? = some (y, g) := ⟨_, _, List.getElem?_eq_getElem hml⟩
                  obtain ⟨q2, q3⟩ := B2.R.hT.at.cells m y g he
                  obtain ⟨hyi, hgi⟩ := B2.R.hT.i64 _ (List.mem_of_getElem? he)
                  simp only [Nat.zero_add] at q2 q3
                  have HLV : Hid (ss.live y g = true) := by
                    have h1 := hinv.contains y g
                    have h2 : TT.contains (y, g) = true := by simpa using List.mem_of_getElem? he
                    exact h1.symm.trans h2
                  have m0 : (0 : Int) ≤ (m : Int) := by omega
                  have m1 : (m : Int) < (TT.length : Int) := by omega
                  clear he hge
                  go_wp2_with fail
                  refine (live_any _ _ _ _ ss _ _ y g hyi B2.A.ar).mono ?_
                  rintro e wc ⟨rfl, hbc⟩
                  rw [HLV.out]
                  go_wp2_with fail
                  exact ⟨⟨m + 1, by omega, by simp, below_then hbm hbc⟩, by simp [intOf]; omega⟩
                · go_wp2_with fail
                  exact ⟨⟨j + 1, by omega, by simp, _, _, _, _, _, _, B2.tie hinv, hroom⟩, by simp [intOf]; omega⟩
    · obtain rfl : j = pn := by omega
      go_wp2_with fail
      go_ret
      exact ⟨rfl, D.A.bel⟩
end Go.Proofs.Ytfkckdfldalceaa
