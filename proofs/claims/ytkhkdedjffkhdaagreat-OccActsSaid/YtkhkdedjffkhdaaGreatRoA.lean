/- The reference's transaction in memory; its top and skip. Conditions: each contract's own premises. The reference's transaction: skip. Conditions: each contract's own premises. A transaction and the reference's, side by side, plainly. Conditions: each lemma's own premises. The reference's transaction: order. Conditions: the contract's own premises. -/
import Derived.Test.YtkhkdedjffkhdaaGreatOcP
import Derived.Test.YtkhkdedjffkhdaaGreatSxB
import Derived.BigQuiet
import Derived.Test.YtkhkdedjffkhdaaGreatOcQ
namespace Go.Proofs.YtkhkdedjffkhdaaGreat
open Go.RowKit Go.Maps

/-- the reference's transaction, plainly -/
structure Rn where
  who : Int
  ph : Int
  i : Nat
  W : List Wr
  R : List Rx
  st : Nat
  most : Nat
  n : Nat
/-- where it lies -/
structure Rm where
  tb : Nat
  cb : Nat
  sb : Nat
  wa : Option Addr
  wc : Nat
  ra : Option Addr
  rc : Nat
def Rm.cells (m : Rm) (T : Rn) : Array Value := #[.pointer (some ⟨m.cb, 0, none⟩), .int .i64 T.who, .int .i64 T.ph, .int .i64 T.i, .pointer (some ⟨m.sb, 0, none⟩), .slice m.wa T.W.length m.wc, .slice m.ra T.R.length m.rc, .int .u64 T.st, .int .u64 T.most, .int .i64 T.n]
structure RnC (w : World) (m : Rm) (T : Rn) : Prop where
  blk : w.heap[m.tb]? = some (.cells (m.cells T) 45 (0, 0))
  wo : kW.Own w 0 (.slice m.wa T.W.length m.wc) T.W
  ro : kX.Own w 0 (.slice m.ra T.R.length m.rc) T.R
section
variable {w w' : World} {m : Rm} {T T' : Rn}
theorem RnC.lt (h : RnC w m T) : m.tb < w.heap.size := (Array.getElem?_eq_some_iff.1 h.blk).1
theorem RnC.cell (h : RnC w m T) : w.cell? ⟨m.tb, 0, none⟩ = some (.pointer (some ⟨m.cb, 0, none⟩)) ∧ w.cell? ⟨m.tb, 1, none⟩ = some (.int .i64 T.who) ∧ w.cell? ⟨m.tb, 2, none⟩ = some (.int .i64 T.ph) ∧ w.cell? ⟨m.tb, 3, none⟩ = some (.int .i64 T.i) ∧ w.cell? ⟨m.tb, 4, none⟩ = some (.pointer (some ⟨m.sb, 0, none⟩)) ∧ w.cell? ⟨m.tb, 5, none⟩ = some (.slice m.wa T.W.length m.wc) ∧ w.cell? ⟨m.tb, 6, none⟩ = some (.slice m.ra T.R.length m.rc) ∧ w.cell? ⟨m.tb, 7, none⟩ = some (.int .u64 T.st) ∧ w.cell? ⟨m.tb, 8, none⟩ = some (.int .u64 T.most) ∧ w.cell? ⟨m.tb, 9, none⟩ = some (.int .i64 T.n) ∧ m.tb < w.heap.size :=
  ⟨by rw [cell_of_blk h.blk]; rfl, by rw [cell_of_blk h.blk]; rfl, by rw [cell_of_blk h.blk]; rfl, by rw [cell_of_blk h.blk]; rfl, by rw [cell_of_blk h.blk]; rfl, by rw [cell_of_blk h.blk]; rfl, by rw [cell_of_blk h.blk]; rfl, by rw [cell_of_blk h.blk]; rfl, by rw [cell_of_blk h.blk]; rfl, by rw [cell_of_blk h.blk]; rfl, h.lt⟩
theorem ownX_typed {B : Nat} {v : Value} {l : List Rx} (h : kX.Own w B v l) {j : Nat} (hj : v.ownBlock = some j) : ∃ cur, w.heap[j]? = some (.cells cur 133 (0, 0)) := by
  rcases h.2 with ⟨h1, _⟩ | ⟨g, cp, cur, h1, _, hg, _⟩
  · rw [h1] at hj; cases hj
  · rw [h1] at hj
    injection hj with hj
    subst hj
    exact ⟨cur, hg⟩
/-- its own cells have changed, its rows haven't -/
theorem RnC.upd (h : RnC w m T) (hc : Chg w w' (fun j => j = m.tb)) (hb : w'.heap[m.tb]? = some (.cells (m.cells T') 45 (0, 0))) (h1 : T'.W = T.W) (h2 : T'.R = T.R) : RnC w' m T' := by
  have hbk := h.blk
  refine ⟨hb, ?_, ?_⟩
  · rw [h1]
    refine RowK.Own.chg h.wo hc (fun j hj e => ?_)
    obtain ⟨cur, hg⟩ := ownW_typed h.wo hj
    rw [e, hbk] at hg
    injection hg with hg
    injection hg with e1 e2
    exact absurd e2 (by decide)
  · rw [h2]
    refine RowK.Own.chg h.ro hc (fun j hj e => ?_)
    obtain ⟨cur, hg⟩ := ownX_typed h.ro hj
    rw [e, hbk] at hg
    injection hg with hg
    injection hg with e1 e2
    exact absurd e2 (by decide)
theorem RnC.below (h : RnC w m T) (hb : Below w.heap.size w w') : RnC w' m T := ⟨(hb.block _ h.lt).trans h.blk, RowK.Own.below h.wo hb, RowK.Own.below h.ro hb⟩
theorem RnC.setMost (h : RnC w m T) (x : Nat) : RnC (w.setCell ⟨m.tb, 8, none⟩ (.int .u64 x)) m { T with most := x } ∧ Chg w (w.setCell ⟨m.tb, 8, none⟩ (.int .u64 x)) (fun j => j = m.tb) := by
  have hc : Chg w (w.setCell ⟨m.tb, 8, none⟩ (.int .u64 x)) (fun j => j = m.tb) := (Chg.refl w (fun j => j = m.tb)).setCell (p := ⟨m.tb, 8, none⟩) (fun _ => rfl) _
  refine ⟨h.upd hc ?_ rfl rfl, hc⟩
  rw [blk_setCell h.blk _]
  simp [Rm.cells]
def RnPost (w : World) (m : Rm) (T : Rn) (e : Ending) (w' : World) : Prop := e = .returned (.tuple #[]) ∧ RnC w' m T ∧ Chg w w' (fun j => j = m.tb)
set_option maxRecDepth 100000 in
theorem r20top_any (h : RnC w m T) (x : Nat) : Calls Tryz.prog 57 #[.pointer (some ⟨m.tb, 0, none⟩), .int .u64 x] w (RnPost w m { T with most := max T.most x }) := by
  obtain ⟨k0, k1, k2, k3, k4, k5, k6, k7, c8, k9, cl⟩ := h.cell
  have f8 := frozen_of_blk h.blk 8
  have HS := Lib.hid (h.setMost x)
  have HH := Lib.hid h
  obtain ⟨y, hy⟩ : ∃ y, y = T.most := ⟨_, rfl⟩
  rw [← hy] at c8
  have HY := Lib.hid hy
  clear h k0 k1 k2 k3 k4 k5 k6 k7 k9 hy
  by_cases hlt : y < x
  · have t1 : decide ((y : Int) < (x : Int)) = true := decide_eq_true (by omega)
    have hm : Hid (max T.most x = x) := Lib.hid (by rw [← HY.out]; omega)
    go_enter Tryz.func57, Tryz.ntmps57
    go_wp2_with fail
    go_end0
    exact ⟨rfl, by rw [hm.out]; exact HS.out.1, HS.out.2⟩
  · have t1 : decide ((y : Int) < (x : Int)) = false := decide_eq_false (by omega)
    have hm : Hid (max T.most x = T.most) := Lib.hid (by rw [← HY.out]; omega)
    go_enter Tryz.func57, Tryz.ntmps57
    go_wp2_with fail
    go_end0
    exact ⟨rfl, by rw [hm.out]; exact HH.out, Chg.refl _ _⟩
end
end Go.Proofs.YtkhkdedjffkhdaaGreat
namespace Go.Proofs.YtkhkdedjffkhdaaGreat
open Go.RowKit Go.Maps

def skipR (T : Rn) : Rn :=
  if T.ph = 1 then (if T.i = T.W.length then { T with ph := 2, i := 0 } else T)
  else if T.ph = 3 then (if T.i = T.R.length then (if T.W.length = 0 then { T with ph := 5, i := 0 } else { T with ph := 4, i := 0 }) else T)
  else if T.ph = 4 then (if T.i = T.W.length then { T with ph := 5 } else T)
  else T
section
variable {w w' : World} {m : Rm} {T T' : Rn}
theorem RnC.setPh (h : RnC w m T) (ph : Int) : RnC (w.setCell ⟨m.tb, 2, none⟩ (.int .i64 ph)) m { T with ph := ph } ∧ Chg w (w.setCell ⟨m.tb, 2, none⟩ (.int .i64 ph)) (fun j => j = m.tb) := by
  have hc : Chg w (w.setCell ⟨m.tb, 2, none⟩ (.int .i64 ph)) (fun j => j = m.tb) := (Chg.refl w (fun j => j = m.tb)).setCell (p := ⟨m.tb, 2, none⟩) (fun _ => rfl) _
  refine ⟨h.upd hc ?_ rfl rfl, hc⟩
  rw [blk_setCell h.blk _]
  simp [Rm.cells]
theorem RnC.setI (h : RnC w m T) (i : Nat) : RnC (w.setCell ⟨m.tb, 3, none⟩ (.int .i64 i)) m { T with i := i } ∧ Chg w (w.setCell ⟨m.tb, 3, none⟩ (.int .i64 i)) (fun j => j = m.tb) := by
  have hc : Chg w (w.setCell ⟨m.tb, 3, none⟩ (.int .i64 i)) (fun j => j = m.tb) := (Chg.refl w (fun j => j = m.tb)).setCell (p := ⟨m.tb, 3, none⟩) (fun _ => rfl) _
  refine ⟨h.upd hc ?_ rfl rfl, hc⟩
  rw [blk_setCell h.blk _]
  simp [Rm.cells]
theorem RnC.drewN (h : RnC w m T) (n : Nat) : RnC (w.drewN n) m T := h.below (below_drewN (Below.refl _ _) n)
/-- one's own block has changed, so far -/
structure RStp (w w' : World) (m : Rm) (T : Rn) : Prop where
  c : RnC w' m T
  g : Chg w w' (fun j => j = m.tb)
theorem RStp.start (h : RnC w m T) : RStp w w m T := ⟨h, Chg.refl _ _⟩
theorem RStp.drewN (h : RStp w w' m T) (n : Nat) : RStp w (w'.drewN n) m T := ⟨h.c.drewN n, h.g.trans (Chg.of_below (below_drewN (Below.refl _ _) n) (fun j => j = m.tb)) (fun _ _ e => e)⟩
theorem RStp.ph (h : RStp w w' m T) (p : Int) : RStp w (w'.setCell ⟨m.tb, 2, none⟩ (.int .i64 p)) m { T with ph := p } := ⟨(h.c.setPh p).1, h.g.trans (h.c.setPh p).2 (fun _ _ e => e)⟩
theorem RStp.post (h : RStp w w' m T) : RnPost w m T (.returned (.tuple #[])) w' := ⟨rfl, h.c, h.g⟩
theorem RStp.i (h : RStp w w' m T) (p : Nat) : RStp w (w'.setCell ⟨m.tb, 3, none⟩ (.int .i64 p)) m { T with i := p } := ⟨(h.c.setI p).1, h.g.trans (h.c.setI p).2 (fun _ _ e => e)⟩
set_option maxRecDepth 100000 in
set_option maxHeartbeats 4000000 in
theorem r20skip_any (h : RnC w m T) : Calls Tryz.prog 66 #[.pointer (some ⟨m.tb, 0, none⟩)] w (RnPost w m (skipR T)) := by
  obtain ⟨k0, k1, c2, c3, k4, c5, c6, k7, k8, k9, cl⟩ := h.cell
  have f2 := frozen_of_blk h.blk 2
  have f3 := frozen_of_blk h.blk 3
  have HH := Lib.hid h
  obtain ⟨ph, hph⟩ : ∃ x, x = T.ph := ⟨_, rfl⟩
  obtain ⟨i, hi⟩ : ∃ x, x = T.i := ⟨_, rfl⟩
  obtain ⟨nW, hnW⟩ : ∃ x, x = T.W.length := ⟨_, rfl⟩
  obtain ⟨nR, hnR⟩ : ∃ x, x = T.R.length := ⟨_, rfl⟩
  rw [← hph] at c2
  rw [← hi] at c3
  rw [← hnW] at c5
  rw [← hnR] at c6
  have HE : Hid (ph = T.ph ∧ i = T.i ∧ nW = T.W.length ∧ nR = T.R.length) := Lib.hid ⟨hph, hi, hnW, hnR⟩
  clear h k0 k1 k4 k7 k8 k9 hph hi hnW hnR
  by_cases h1 : ph = 1
  · subst h1
    by_cases h2 : i = nW
    · have t1 : ((i : Int) == (nW : Int)) = true := by simp; omega
      have HS : Hid (skipR T = { T with ph := 2, i := 0 }) := Lib.hid (by
        unfold skipR
        rw [if_pos HE.out.1.symm, if_pos (by rw [← HE.out.2.1, ← HE.out.2.2.1]; exact h2)])
      clear h2
      go_enter Tryz.func66, Tryz.ntmps66
      go_upto_region 0 with fail
      go_quiet (fail)
      go_upto_region 3 with fail
      go_quiet (fail)
      go_upto_region 6 with fail
      go_quiet (fail)
      go_wp2_with fail
      go_end0
      rw [HS.out]
      refine RStp.post ?_
      exact (((((RStp.start HH.out).drewN _).ph 2).i 0).drewN _).drewN _
    · have t1 : ((i : Int) == (nW : Int)) = false := by simp; omega
      have HS : Hid (skipR T = T) := Lib.hid (by
        unfold skipR
        rw [if_pos HE.out.1.symm, if_neg (by rw [← HE.out.2.1, ← HE.out.2.2.1]; exact h2)])
      clear h2
      go_enter Tryz.func66, Tryz.ntmps66
      go_upto_region 0 with fail
      go_quiet (fail)
      go_upto_region 3 with fail
      go_quiet (fail)
      go_upto_region 6 with fail
      go_quiet (fail)
      go_wp2_with fail
      go_end0
      rw [HS.out]
      refine RStp.post ?_
      exact (((RStp.start HH.out).drewN _).drewN _).drewN _
  have t0 : (ph == 1) = false := by simpa using h1
  by_cases h3 : ph = 3
  · subst h3
    clear t0
    have g1 : ¬ T.ph = 1 := by rw [← HE.out.1]; exact h1
    by_cases h2 : i = nR
    · have t1 : ((i : Int) == (nR : Int)) = true := by simp; omega
      by_cases h4 : nW = 0
      · have t2 : ((0 : Int) == (nW : Int)) = true := by simp; omega
        have HS : Hid (skipR T = { T with ph := 5, i := 0 }) := Lib.hid (by
          unfold skipR
          rw [if_neg g1, if_pos HE.out.1.symm, if_pos (by rw [← HE.out.2.1, ← HE.out.2.2.2]; exact h2), if_pos (by rw [← HE.out.2.2.1]; exact h4)])
        clear h2 h4 h1 g1
        go_enter Tryz.func66, Tryz.ntmps66
        go_upto_region 0 with fail
        go_quiet (fail)
        go_upto_region 3 with fail
        go_quiet (fail)
        go_upto_region 6 with fail
        go_quiet (fail)
        go_wp2_with fail
        go_end0
        rw [HS.out]
        refine RStp.post ?_
        exact ((((RStp.start HH.out).drewN _).ph 4).i 0).drewN _ |>.ph 5
      · have t2 : ((0 : Int) == (nW : Int)) = false := by simp; omega
        have HS : Hid (skipR T = { T with ph := 4, i := 0 }) := Lib.hid (by
          unfold skipR
          rw [if_neg g1, if_pos HE.out.1.symm, if_pos (by rw [← HE.out.2.1, ← HE.out.2.2.2]; exact h2), if_neg (by rw [← HE.out.2.2.1]; exact h4)])
        clear h2 h4 h1 g1
        go_enter Tryz.func66, Tryz.ntmps66
        go_upto_region 0 with fail
        go_quiet (fail)
        go_upto_region 3 with fail
        go_quiet (fail)
        go_upto_region 6 with fail
        go_quiet (fail)
        go_wp2_with fail
        go_end0
        rw [HS.out]
        refine RStp.post ?_
        exact ((((RStp.start HH.out).drewN _).ph 4).i 0).drewN _
    · have t1 : ((i : Int) == (nR : Int)) = false := by simp; omega
      have HS : Hid (skipR T = T) := Lib.hid (by
        unfold skipR
        rw [if_neg g1, if_pos HE.out.1.symm, if_neg (by rw [← HE.out.2.1, ← HE.out.2.2.2]; exact h2)])
      clear h2 h1 g1
      go_enter Tryz.func66, Tryz.ntmps66
      go_upto_region 0 with fail
      go_quiet (fail)
      go_upto_region 3 with fail
      go_quiet (fail)
      go_upto_region 6 with fail
      go_quiet (fail)
      go_wp2_with fail
      go_end0
      rw [HS.out]
      refine RStp.post ?_
      exact (((RStp.start HH.out).drewN _).drewN _).drewN _
  have t3 : (ph == 3) = false := by simpa using h3
  have g1 : ¬ T.ph = 1 := by rw [← HE.out.1]; exact h1
  have g3 : ¬ T.ph = 3 := by rw [← HE.out.1]; exact h3
  by_cases h5 : ph = 4
  · subst h5
    clear t0 t3
    by_cases h2 : i = nW
    · have t1 : ((i : Int) == (nW : Int)) = true := by simp; omega
      have HS : Hid (skipR T = { T with ph := 5 }) := Lib.hid (by
        unfold skipR
        rw [if_neg g1, if_neg g3, if_pos HE.out.1.symm, if_pos (by rw [← HE.out.2.1, ← HE.out.2.2.1]; exact h2)])
      clear h2 h1 h3 g1 g3
      go_enter Tryz.func66, Tryz.ntmps66
      go_upto_region 0 with fail
      go_quiet (fail)
      go_upto_region 3 with fail
      go_quiet (fail)
      go_upto_region 6 with fail
      go_quiet (fail)
      go_wp2_with fail
      go_end0
      rw [HS.out]
      refine RStp.post ?_
      exact (RStp.start HH.out).drewN _ |>.ph 5
    · have t1 : ((i : Int) == (nW : Int)) = false := by simp; omega
      have HS : Hid (skipR T = T) := Lib.hid (by
        unfold skipR
        rw [if_neg g1, if_neg g3, if_pos HE.out.1.symm, if_neg (by rw [← HE.out.2.1, ← HE.out.2.2.1]; exact h2)])
      clear h2 h1 h3 g1 g3
      go_enter Tryz.func66, Tryz.ntmps66
      go_upto_region 0 with fail
      go_quiet (fail)
      go_upto_region 3 with fail
      go_quiet (fail)
      go_upto_region 6 with fail
      go_quiet (fail)
      go_wp2_with fail
      go_end0
      rw [HS.out]
      refine RStp.post ?_
      exact (((RStp.start HH.out).drewN _).drewN _).drewN _
  have t5 : (ph == 4) = false := by simpa using h5
  have g5 : ¬ T.ph = 4 := by rw [← HE.out.1]; exact h5
  have HS : Hid (skipR T = T) := Lib.hid (by
    unfold skipR
    rw [if_neg g1, if_neg g3, if_neg g5])
  clear h1 h3 g1 g3 g5 h5
  go_enter Tryz.func66, Tryz.ntmps66
  go_upto_region 0 with fail
  go_quiet (fail)
  go_upto_region 3 with fail
  go_quiet (fail)
  go_upto_region 6 with fail
  go_quiet (fail)
  go_wp2_with fail
  go_end0
  rw [HS.out]
  refine RStp.post ?_
  exact (((RStp.start HH.out).drewN _).drewN _).drewN _
end
end Go.Proofs.YtkhkdedjffkhdaaGreat
namespace Go.Proofs.YtkhkdedjffkhdaaGreat
open Go.RowKit Go.Maps

/-- the two say the same -/
structure SameT (T : Tn) (R : Rn) : Prop where
  who : R.who = T.who
  ph : R.ph = T.ph
  W : R.W = T.W
  st : R.st = T.st
  most : R.ph ≤ 2 → R.most = T.most
  n : R.n = T.n
  ks : R.R.map Rx.k = T.R
  i : R.ph = 1 ∨ R.ph = 3 ∨ R.ph = 4 → R.i = T.i
section
variable {T : Tn} {R : Rn}
theorem SameT.len (h : SameT T R) : R.R.length = T.R.length := by rw [← h.ks, List.length_map]
theorem SameT.commit (h : SameT T R) (hp : T.ph = 0) : SameT (toT T 1) (skipR { R with ph := 1, i := 0 }) := by
  unfold toT phT skipR
  rw [if_pos rfl]
  by_cases hw : T.W = []
  · have h1 : 0 = R.W.length := by rw [h.W, hw]; rfl
    rw [if_pos hw]
    simp only [if_pos, h1.symm]
    exact ⟨h.who, rfl, h.W, h.st, fun _ => h.most (by rw [h.ph, hp]; decide), h.n, h.ks, fun _ => rfl⟩
  · have h1 : ¬ 0 = R.W.length := fun e => hw (by rw [← h.W]; exact List.eq_nil_of_length_eq_zero e.symm)
    rw [if_neg hw]
    simp only [if_pos, if_neg h1]
    exact ⟨h.who, rfl, h.W, h.st, fun _ => h.most (by rw [h.ph, hp]; decide), h.n, h.ks, fun _ => rfl⟩
theorem SameT.take (h : SameT T R) (s x : Nat) : SameT (toT { T with st := s } 3) (skipR { R with st := s, most := x, ph := 3, i := 0 }) := by
  have hl := h.len
  have e1 : phT { T with st := s } 3 = if T.R = [] then (if T.W = [] then 5 else 4) else 3 := by
    unfold phT
    rw [if_neg (by decide), if_pos rfl]
  have e2 : skipR { R with st := s, most := x, ph := 3, i := 0 } = if 0 = R.R.length then (if R.W.length = 0 then { R with st := s, most := x, ph := 5, i := 0 } else { R with st := s, most := x, ph := 4, i := 0 }) else { R with st := s, most := x, ph := 3, i := 0 } := by
    unfold skipR
    rw [if_neg (show ¬ (3 : Int) = 1 by decide), if_pos rfl]
  unfold toT
  rw [e1, e2]
  by_cases hr : T.R = []
  · have h1 : 0 = R.R.length := by rw [hl, hr]; rfl
    rw [if_pos hr]
    by_cases hw : T.W = []
    · have h2 : R.W.length = 0 := by rw [h.W, hw]; rfl
      rw [if_pos hw, if_pos h1, if_pos h2]
      exact ⟨h.who, rfl, h.W, rfl, fun e => absurd (show (5 : Int) ≤ 2 from e) (by decide), h.n, h.ks, fun _ => rfl⟩
    · have h2 : ¬ R.W.length = 0 := fun e => hw (by rw [← h.W]; exact List.eq_nil_of_length_eq_zero e)
      rw [if_neg hw, if_pos h1, if_neg h2]
      exact ⟨h.who, rfl, h.W, rfl, fun e => absurd (show (4 : Int) ≤ 2 from e) (by decide), h.n, h.ks, fun _ => rfl⟩
  · have h1 : ¬ 0 = R.R.length := fun e => hr (List.eq_nil_of_length_eq_zero (by rw [← hl]; exact e.symm))
    rw [if_neg hr, if_neg h1]
    exact ⟨h.who, rfl, h.W, rfl, fun e => absurd (show (3 : Int) ≤ 2 from e) (by decide), h.n, h.ks, fun _ => rfl⟩
theorem SameT.lock (h : SameT T R) (hp : T.ph = 1) (x : Nat) : SameT (doneT { T with most := x } T.W.length 2) (skipR { R with most := x, i := R.i + 1 }) := by
  have hpr : R.ph = 1 := h.ph.trans hp
  have hi := h.i (.inl hpr)
  unfold doneT toT phT skipR
  rw [if_pos hpr]
  by_cases he : T.i + 1 = T.W.length
  · rw [if_pos he, if_pos (show R.i + 1 = R.W.length by rw [hi, h.W]; exact he)]
    exact ⟨h.who, rfl, h.W, h.st, fun _ => rfl, h.n, h.ks, fun _ => rfl⟩
  · rw [if_neg he, if_neg (show ¬ R.i + 1 = R.W.length by rw [hi, h.W]; exact he)]
    exact ⟨h.who, h.ph, h.W, h.st, fun _ => rfl, h.n, h.ks, fun _ => by show R.i + 1 = T.i + 1; rw [hi]⟩
theorem SameT.check (h : SameT T R) (hp : T.ph = 3) : SameT (doneT T T.R.length 4) (skipR { R with i := R.i + 1 }) := by
  have hpr : R.ph = 3 := h.ph.trans hp
  have hi := h.i (.inr (.inl hpr))
  have hl := h.len
  unfold doneT toT phT skipR
  rw [if_neg (show ¬ R.ph = 1 by rw [hpr]; decide), if_pos hpr]
  by_cases he : T.i + 1 = T.R.length
  · rw [if_pos he, if_pos (show R.i + 1 = R.R.length by rw [hi, hl]; exact he)]
    by_cases hw : T.W = []
    · have h2 : R.W.length = 0 := by rw [h.W, hw]; rfl
      rw [if_pos h2]
      refine ⟨h.who, ?_, h.W, h.st, fun e => absurd (show (5 : Int) ≤ 2 from e) (by decide), h.n, h.ks, fun _ => rfl⟩
      simp [hw]
    · have h2 : ¬ R.W.length = 0 := fun e => hw (by rw [← h.W]; exact List.eq_nil_of_length_eq_zero e)
      rw [if_neg h2]
      refine ⟨h.who, ?_, h.W, h.st, fun e => absurd (show (4 : Int) ≤ 2 from e) (by decide), h.n, h.ks, fun _ => rfl⟩
      simp [hw]
  · rw [if_neg he, if_neg (show ¬ R.i + 1 = R.R.length by rw [hi, hl]; exact he)]
    exact ⟨h.who, h.ph, h.W, h.st, fun e => absurd (show R.ph ≤ 2 from e) (by rw [hpr]; decide), h.n, h.ks, fun _ => by show R.i + 1 = T.i + 1; rw [hi]⟩
theorem SameT.install (h : SameT T R) (hp : T.ph = 4) : SameT (doneT T T.W.length 5) (skipR { R with i := R.i + 1 }) := by
  have hpr : R.ph = 4 := h.ph.trans hp
  have hi := h.i (.inr (.inr hpr))
  unfold doneT toT phT skipR
  rw [if_neg (show ¬ R.ph = 1 by rw [hpr]; decide), if_neg (show ¬ R.ph = 3 by rw [hpr]; decide), if_pos hpr]
  by_cases he : T.i + 1 = T.W.length
  · rw [if_pos he, if_pos (show R.i + 1 = R.W.length by rw [hi, h.W]; exact he)]
    refine ⟨h.who, ?_, h.W, h.st, fun e => absurd (show (5 : Int) ≤ 2 from e) (by decide), h.n, h.ks, fun e => ?_⟩
    · simp
    · rcases e with e | e | e
      · exact absurd (show (5 : Int) = 1 from e) (by decide)
      · exact absurd (show (5 : Int) = 3 from e) (by decide)
      · exact absurd (show (5 : Int) = 4 from e) (by decide)
  · rw [if_neg he, if_neg (show ¬ R.i + 1 = R.W.length by rw [hi, h.W]; exact he)]
    exact ⟨h.who, h.ph, h.W, h.st, fun e => absurd (show R.ph ≤ 2 from e) (by rw [hpr]; decide), h.n, h.ks, fun _ => by show R.i + 1 = T.i + 1; rw [hi]⟩
end
end Go.Proofs.YtkhkdedjffkhdaaGreat
namespace Go.Proofs.YtkhkdedjffkhdaaGreat
open Go.RowKit Go.Maps

def hasF (x : Wr) : Bool := x.has
def noF (x : Wr) : Bool := !x.has
theorem lastW_eq (W : List Wr) : lastW W = W.filter hasF ++ W.reverse.filter noF := rfl
theorem fl_take {p : Wr → Bool} {W : List Wr} {i : Nat} {x : Wr} (h : W[i]? = some x) : (W.take (i + 1)).filter p = (W.take i).filter p ++ (if p x = true then [x] else []) := by
  rw [List.take_add_one, h, List.filter_append]
  cases hp : p x <;> simp [hp]
theorem fl_drop {p : Wr → Bool} {W : List Wr} {i : Nat} {x : Wr} (h : W[i]? = some x) : (W.drop i).reverse.filter p = (W.drop (i + 1)).reverse.filter p ++ (if p x = true then [x] else []) := by
  have hi := (List.getElem?_eq_some_iff.1 h).1
  have e : W.drop i = x :: W.drop (i + 1) := by
    rw [List.drop_eq_getElem_cons hi]
    congr 1
    exact (List.getElem?_eq_some_iff.1 h).2
  rw [e, List.reverse_cons, List.filter_append]
  cases hp : p x <;> simp [hp]
/-- a list of one's own, as far as it has come -/
structure OdI (w u : World) (v : Value) (X : List Wr) : Prop where
  o : kW.Own u w.heap.size v X
  b : Below w.heap.size w u
def OdPost (w : World) (X : List Wr) (e : Ending) (w' : World) : Prop := ∃ v, e = .returned v ∧ kW.Own w' w.heap.size v X ∧ Below w.heap.size w w'
theorem OdI.app {w u u' : World} {v v' : Value} {X : List Wr} {x : Wr} (h : OdI w u v X) (hA : kW.App u w.heap.size v (X ++ [x]) v' u') : OdI w u' v' (X ++ [x]) := ⟨hA.1, h.b.trans (below_grownW h.o hA.2.1 h.b.size)⟩
theorem OdI.below {w u u' : World} {v : Value} {X : List Wr} (h : OdI w u v X) (hb : Below u.heap.size u u') : OdI w u' v X := ⟨RowK.Own.below h.o hb, below_then h.b hb⟩
set_option maxRecDepth 100000 in
set_option maxHeartbeats 4000000 in
theorem r20order_any (a : Option Addr) (cap : Nat) (W : List Wr) (w : World) (hv : kW.V w a W) (hl : W.length ≤ 1000) : Calls Tryz.prog 71 #[.slice a W.length cap] w (OdPost w (lastW W)) := by
  obtain ⟨nW, hnW⟩ : ∃ n, n = W.length := ⟨_, rfl⟩
  have HN : Hid (nW = W.length ∧ nW ≤ 1000) := Lib.hid ⟨hnW, by omega⟩
  have HV : Hid (∀ u, Below w.heap.size w u → kW.V u a W) := Lib.hid (fun u hu => hv.below hu)
  rw [← hnW]
  clear hv hl hnW
  go_enter Tryz.func71, Tryz.ntmps71
  go_wp2_with fail
  go_loopw [3, 4] (fun ov iv wr => ∃ (i n : Nat) (oa : Option Addr) (oc : Nat), iv = .int .i64 i ∧ i ≤ nW ∧ ov = .slice oa n oc ∧ Hid (OdI w wr (.slice oa n oc) ((W.take i).filter hasF) ∧ n = ((W.take i).filter hasF).length)) (fun _ iv _ => nW - (intOf iv).toNat)
  case atStart => exact ⟨0, 0, none, 0, rfl, Nat.zero_le _, rfl, Lib.hid ⟨⟨RowK.Own.nil kW _ _, Below.refl _ _⟩, rfl⟩⟩
  case round =>
    obtain ⟨i, n, oa, oc, rfl, hi, rfl, HR⟩ := hrel
    obtain ⟨wo, rfl⟩ : ∃ wo : World, wo = wr := ⟨_, rfl⟩
    have hi9 : i ≤ 1000 := by have := HN.out; omega
    by_cases hlt : i < nW
    · obtain ⟨x, hx⟩ : ∃ x, W[i]? = some x := ⟨_, List.getElem?_eq_getElem (by rw [← HN.out.1]; exact hlt)⟩
      obtain ⟨b, off, rfl, hat⟩ := HV.out wo HR.out.1.b (fun e => by rw [e] at hx; simp at hx)
      obtain ⟨x0, x1, x2, x3, x4, x5⟩ := kW_cells hat hx
      have xl := hat.lt
      have HX := Lib.hid hx
      have HL := Lib.hid hlt
      have hin : (i : Int) < (nW : Int) := by omega
      clear hx hat hlt
      obtain ⟨h, hh⟩ : ∃ h, h = x.has := ⟨_, rfl⟩
      rw [← hh] at x5
      cases h with
      | false =>
        have HE : Hid ((W.take (i + 1)).filter hasF = (W.take i).filter hasF) := Lib.hid (by rw [fl_take HX.out, if_neg (by unfold hasF; rw [← hh]; decide), List.append_nil])
        clear hh
        go_wp2_with fail
        exact ⟨⟨i + 1, n, oa, oc, by go_num, HL.out, rfl, Lib.hid (by rw [HE.out]; exact HR.out)⟩, by simp [intOf]; have := HL.out; omega⟩
      | true =>
        have HE : Hid ((W.take (i + 1)).filter hasF = (W.take i).filter hasF ++ [x] ∧ x.has = true) := Lib.hid ⟨by rw [fl_take HX.out, if_pos (by unfold hasF; rw [← hh])], hh.symm⟩
        clear hh
        have H8 : Hid (OdI w (wo.alloc (.cells #[.int .i64 x.k.kind, .int .i64 x.k.a, .int .i64 x.k.b, .string x.k.s, .string x.val, .bool true] 94)) (.slice oa n oc) ((W.take i).filter hasF)) := Lib.hid (HR.out.1.below (below_box _ _))
        have HV8 : Hid (kW.V (wo.alloc (.cells #[.int .i64 x.k.kind, .int .i64 x.k.a, .int .i64 x.k.b, .string x.k.s, .string x.val, .bool true] 94)) (some ⟨wo.heap.size, 0, none⟩) [x]) := Lib.hid (fun _ => ⟨_, 0, rfl, RowK.new_at (k := kW) (heap_new wo _) (by simp [RowK.cells, kW, Wr.cells, HE.out.2])⟩)
        have HB8 : Hid (((W.take i).filter hasF).length ≤ 1000) := Lib.hid (by
          have h1 := List.length_filter_le hasF (W.take i)
          have h2 := List.length_take_le i W
          omega)
        go_wp2_with (at_builtin; refine RowK.wpList_app (k := kW) (B := w.heap.size) (v := .slice oa n oc) (l := (W.take i).filter hasF) rfl (.tmp 17) (.tmp 22) rfl rfl H8.out.o (some ⟨wo.heap.size, 0, none⟩) 1 [x] 1 rfl rfl HV8.out (fun e => by cases e) (by have := HB8.out; simp only [List.length_singleton]; omega) H8.out.b.size ?_; intro v8 w8 hA; obtain ⟨a8, c8, hv8⟩ := RowK.Own.shape hA.1; rw [List.length_append, List.length_singleton, ← HR.out.2] at hv8; subst hv8; have H9 := Lib.hid (H8.out.app hA); clear hA)
        exact ⟨⟨i + 1, n + 1, a8, c8, by go_num, HL.out, rfl, Lib.hid (by rw [HE.out.1]; exact ⟨H9.out, by rw [List.length_append, ← HR.out.2]; rfl⟩)⟩, by simp [intOf]; have := HL.out; omega⟩
    · obtain rfl : i = nW := by omega
      clear hlt hi
      have b1 : IntKind.i64.wrap ((i : Int) - 1) = (i : Int) - 1 := IntWalk.i64_in _ (by omega)
      have HX0 : Hid (OdI w wo (.slice oa n oc) (W.filter hasF ++ (W.drop i).reverse.filter noF) ∧ n = (W.filter hasF ++ (W.drop i).reverse.filter noF).length) := Lib.hid (by
        have h := HR.out
        rw [List.take_of_length_le (by rw [← HN.out.1]; exact Nat.le_refl _)] at h
        rw [List.drop_of_length_le (by rw [← HN.out.1]; exact Nat.le_refl _)]
        simpa using h)
      go_wp2_with fail
      clear b1
      go_loopw [3, 5] (fun ov jv wr => ∃ (m n : Nat) (z : Int) (oa : Option Addr) (oc : Nat), jv = .int .i64 z ∧ z = (m : Int) - 1 ∧ m ≤ i ∧ ov = .slice oa n oc ∧ Hid (OdI w wr (.slice oa n oc) (W.filter hasF ++ (W.drop m).reverse.filter noF) ∧ n = (W.filter hasF ++ (W.drop m).reverse.filter noF).length)) (fun _ jv _ => (intOf jv + 1).toNat)
      case atStart => exact ⟨i, n, _, oa, oc, rfl, rfl, Nat.le_refl _, rfl, HX0⟩
      case round =>
        clear HX0 HR
        obtain ⟨m, n, z, oa, oc, rfl, hz, hm, rfl, HR⟩ := hrel
        obtain ⟨wo2, rfl⟩ : ∃ wo : World, wo = wr := ⟨_, rfl⟩
        rcases Nat.eq_zero_or_pos m with rfl | hpos
        · obtain rfl : z = -1 := by omega
          clear hz hm
          have HF : Hid (OdPost w (lastW W) (.returned (.slice oa n oc)) wo2) := Lib.hid ⟨_, rfl, by rw [lastW_eq]; exact HR.out.1.o, HR.out.1.b⟩
          go_wp2_with fail
          go_ret
          exact HF.out
        · obtain ⟨k, rfl⟩ : ∃ k, m = k + 1 := ⟨m - 1, by omega⟩
          obtain rfl : z = (k : Int) := by omega
          have hkl : k < i := by omega
          have hk9 : k ≤ 1000 := by omega
          obtain ⟨x, hx⟩ : ∃ x, W[k]? = some x := ⟨_, List.getElem?_eq_getElem (by rw [← HN.out.1]; exact hkl)⟩
          obtain ⟨b, off, rfl, hat⟩ := HV.out wo2 HR.out.1.b (fun e => by rw [e] at hx; simp at hx)
          obtain ⟨x0, x1, x2, x3, x4, x5⟩ := kW_cells hat hx
          have xl := hat.lt
          have HX := Lib.hid hx
          have HL := Lib.hid hkl
          have hin : (k : Int) < (i : Int) := by omega
          clear hx hat hkl hz hm hpos
          obtain ⟨h, hh⟩ : ∃ h, h = x.has := ⟨_, rfl⟩
          rw [← hh] at x5
          cases h with
          | true =>
            have HE : Hid ((W.drop k).reverse.filter noF = (W.drop (k + 1)).reverse.filter noF) := Lib.hid (by rw [fl_drop HX.out, if_neg (by unfold noF; rw [← hh]; decide), List.append_nil])
            clear hh
            go_wp2_with fail
            exact ⟨⟨k, n, (k : Int) - 1, oa, oc, rfl, rfl, by have := HL.out; omega, rfl, Lib.hid (by rw [HE.out]; exact HR.out)⟩, by simp [intOf]⟩
          | false =>
            have HE : Hid (W.filter hasF ++ (W.drop k).reverse.filter noF = W.filter hasF ++ (W.drop (k + 1)).reverse.filter noF ++ [x] ∧ x.has = false) := Lib.hid ⟨by rw [fl_drop HX.out, if_pos (by unfold noF; rw [← hh]; rfl), List.append_assoc], hh.symm⟩
            clear hh
            have H8 : Hid (OdI w (wo2.alloc (.cells #[.int .i64 x.k.kind, .int .i64 x.k.a, .int .i64 x.k.b, .string x.k.s, .string x.val, .bool false] 94)) (.slice oa n oc) (W.filter hasF ++ (W.drop (k + 1)).reverse.filter noF)) := Lib.hid (HR.out.1.below (below_box _ _))
            have HV8 : Hid (kW.V (wo2.alloc (.cells #[.int .i64 x.k.kind, .int .i64 x.k.a, .int .i64 x.k.b, .string x.k.s, .string x.val, .bool false] 94)) (some ⟨wo2.heap.size, 0, none⟩) [x]) := Lib.hid (fun _ => ⟨_, 0, rfl, RowK.new_at (k := kW) (heap_new wo2 _) (by simp [RowK.cells, kW, Wr.cells, HE.out.2])⟩)
            have HB8 : Hid ((W.filter hasF ++ (W.drop (k + 1)).reverse.filter noF).length ≤ 2000) := Lib.hid (by
              have h1 := List.length_filter_le hasF W
              have h2 := List.length_filter_le noF (W.drop (k + 1)).reverse
              rw [List.length_reverse, List.length_drop] at h2
              have := HN.out
              rw [List.length_append]
              omega)
            go_wp2_with (at_builtin; refine RowK.wpList_app (k := kW) (B := w.heap.size) (v := .slice oa n oc) (l := W.filter hasF ++ (W.drop (k + 1)).reverse.filter noF) rfl (.tmp 37) (.tmp 42) rfl rfl H8.out.o (some ⟨wo2.heap.size, 0, none⟩) 1 [x] 1 rfl rfl HV8.out (fun e => by cases e) (by have := HB8.out; simp only [List.length_singleton]; omega) H8.out.b.size ?_; intro v8 w8 hA; obtain ⟨a8, c8, hv8⟩ := RowK.Own.shape hA.1; rw [List.length_append, List.length_singleton, ← HR.out.2] at hv8; subst hv8; have H9 := Lib.hid (H8.out.app hA); clear hA)
            exact ⟨⟨k, n + 1, (k : Int) - 1, a8, c8, rfl, rfl, by have := HL.out; omega, rfl, Lib.hid (by rw [HE.out.1]; exact ⟨H9.out, by rw [List.length_append, ← HR.out.2]; rfl⟩)⟩, by simp [intOf]⟩
end Go.Proofs.YtkhkdedjffkhdaaGreat
