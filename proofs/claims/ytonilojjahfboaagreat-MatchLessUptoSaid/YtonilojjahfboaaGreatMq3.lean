/- Law MatchTurns: the walk, first half: the pattern turned. Conditions: small bulk. -/
import Derived.Test.YtonilojjahfboaaGreatMbA
import Derived.BigQuiet
import Derived.BigRegion
import Derived.Deep.Cut
import Derived.Deep.RegionHeld3
import Derived.Deep.CutRange
namespace Go.Proofs.YtonilojjahfboaaGreat
open Go.RowKit Go.Maps

theorem turnK_len (n k : Nat) (LS : List Lk) (m : Nat) : (turnK n k LS m).length = LS.length - m := by unfold turnK; simp
theorem turnN_ok {NS : List Nd} {k m : Nat} (h : ∀ x ∈ NS, x.Ok) (_hm : m ≤ NS.length) (hn : 0 < NS.length) : ∀ x ∈ turnN NS k m, x.Ok := fun x hx => by
  obtain ⟨i, hi⟩ := List.mem_iff_getElem?.1 hx
  have hl := (List.getElem?_eq_some_iff.1 hi).1
  rw [turnN_len] at hl
  rw [turnN_at hl hn] at hi
  exact h x (List.mem_of_getElem? hi)
theorem turnK_ok {LS : List Lk} {n k m : Nat} (h : ∀ x ∈ LS, x.Ok) (hn : 0 < n) (hn8 : n ≤ 8) : ∀ x ∈ turnK n k LS m, x.Ok := fun x hx => by
  unfold turnK at hx
  obtain ⟨y, hy, rfl⟩ := List.mem_map.1 hx
  have hy2 := h y (List.mem_of_mem_drop (List.mem_reverse.1 hy))
  have g1 := Int.tmod_lt_of_pos (y.fr - k + n) (show (0 : Int) < n by omega)
  have g2 := Int.lt_tmod_of_pos (y.fr - k + n) (show (0 : Int) < n by omega)
  have g3 := Int.tmod_lt_of_pos (y.tt - k + n) (show (0 : Int) < n by omega)
  have g4 := Int.lt_tmod_of_pos (y.tt - k + n) (show (0 : Int) < n by omega)
  exact ⟨by show I64 ((y.fr - k + n).tmod n); unfold I64; omega, by show I64 ((y.tt - k + n).tmod n); unfold I64; omega, hy2.2.2⟩
theorem runT_big {V : List Vt} {E : List Eg} {NS : List Nd} {LS : List Lk} {most : Nat} {code : Int} {R : List (List Int)} {st : Option Nat} (hr : rightPat NS LS = true) (hV : V.length ≤ 9) (hE : E.length ≤ 40) (h : RunT V E NS LS (some 1073741824) most code R st) :
    (code = 32 ∧ R = [] ∧ most < (rowsP V E NS LS).length) ∨ (code = 0 ∧ R = rowsP V E NS LS ∧ (rowsP V E NS LS).length ≤ most) := by
  rcases h with ⟨_, _, _, h⟩ | ⟨r, r', _, _, ⟨h1, h2, h3⟩ | ⟨h1, h2, h3⟩⟩
  · have h1 := h _ rfl
    rw [← bnd_enough hr] at h1
    have := bnd_top (NS := NS) (LS := LS) hV hE
    omega
  · exact .inl ⟨h1, h2, h3⟩
  · exact .inr ⟨h1, h2, by rw [← h2]; exact h3⟩
/-- the turned pattern, as far as it has come -/
structure TnI (w5 u : World) (tb : Nat) (X : List Nd) (Y : List Lk) (xa ya : Option Addr) (xc yc : Nat) : Prop where
  blk : u.heap[tb]? = some (.cells #[.slice xa X.length xc, .slice ya Y.length yc] 116 (0, 0))
  ox : kNd.Own u w5.heap.size (.slice xa X.length xc) X
  oy : kLk.Own u w5.heap.size (.slice ya Y.length yc) Y
  bel : Below w5.heap.size w5 u
  tb5 : w5.heap.size ≤ tb
theorem TnI.lt {w5 u : World} {tb : Nat} {X : List Nd} {Y : List Lk} {xa ya : Option Addr} {xc yc : Nat} (h : TnI w5 u tb X Y xa ya xc yc) : tb < u.heap.size := (Array.getElem?_eq_some_iff.1 h.blk).1
theorem TnI.below {w5 u u' : World} {tb : Nat} {X : List Nd} {Y : List Lk} {xa ya : Option Addr} {xc yc : Nat} (h : TnI w5 u tb X Y xa ya xc yc) (hb : Below u.heap.size u u') : TnI w5 u' tb X Y xa ya xc yc :=
  ⟨(hb.block _ h.lt).trans h.blk, h.ox.below hb, h.oy.below hb, below_then h.bel hb, h.tb5⟩
theorem own_ne_tb {P : Program} {α : Type} {k : RowK P α} {u : World} {B tb : Nat} {v : Value} {l : List α} {cs : Array Value} {t : TypeId} (h : k.Own u B v l) (hb : u.heap[tb]? = some (.cells cs t (0, 0))) (hne : k.e ≠ t) : ∀ j, v.ownBlock = some j → j ≠ tb := fun j hj e => by
  rcases h.2 with ⟨h1, _⟩ | ⟨g, cp, cur, h1, _, hg, _⟩
  · rw [h1] at hj; cases hj
  · rw [h1] at hj
    injection hj with hj
    subst hj
    subst e
    rw [hg] at hb
    injection hb with hb
    injection hb with _ e2 _
    exact hne e2
theorem TnI.pushX {w5 u u' : World} {tb : Nat} {X : List Nd} {Y : List Lk} {xa ya xa' : Option Addr} {xc yc xc' : Nat} {x : Nd} (h : TnI w5 u tb X Y xa ya xc yc) (hA : kNd.App u w5.heap.size (.slice xa X.length xc) (X ++ [x]) (.slice xa' (X.length + 1) xc') u') :
    u'.heap[tb]? = u.heap[tb]? ∧ TnI w5 (u'.setCell ⟨tb, 0, none⟩ (.slice xa' (X.length + 1) xc')) tb (X ++ [x]) Y xa' ya xc' yc := by
  obtain ⟨o1, g1, k1⟩ := hA
  have hn := own_ne_tb h.ox h.blk (by decide)
  have hb : u'.heap[tb]? = u.heap[tb]? := g1.block tb h.lt (fun e => hn tb e.symm rfl)
  have hl : (X ++ [x]).length = X.length + 1 := by simp
  have hb2 := hb.trans h.blk
  refine ⟨hb, ⟨?_, ?_, ?_, ?_, h.tb5⟩⟩
  · rw [blk_setCell hb2 _, hl]; simp
  · rw [hl]
    exact ownsRow_of_block o1 (fun j hj => Below.heap_setCell _ _ _ _ (own_ne_tb o1 hb2 (by decide) j hj))
  · refine ownsRow_of_block h.oy (fun j hj => (Below.heap_setCell _ _ _ _ (own_ne_tb h.oy h.blk (by decide) j hj)).trans (g1.block j (h.oy.lt j hj).2 (fun e => own_own_ne h.oy h.ox (by decide) j hj e.symm)))
  · exact (app_below h.ox ⟨o1, g1, k1⟩ h.bel (Nat.le_refl _) (Nat.le_refl _)).trans (Below.setCell (Below.refl _ _) h.tb5 _)
theorem TnI.pushY {w5 u u' : World} {tb : Nat} {X : List Nd} {Y : List Lk} {xa ya ya' : Option Addr} {xc yc yc' : Nat} {y : Lk} (h : TnI w5 u tb X Y xa ya xc yc) (hA : kLk.App u w5.heap.size (.slice ya Y.length yc) (Y ++ [y]) (.slice ya' (Y.length + 1) yc') u') :
    u'.heap[tb]? = u.heap[tb]? ∧ TnI w5 (u'.setCell ⟨tb, 1, none⟩ (.slice ya' (Y.length + 1) yc')) tb X (Y ++ [y]) xa ya' xc yc' := by
  obtain ⟨o1, g1, k1⟩ := hA
  have hn := own_ne_tb h.oy h.blk (by decide)
  have hb : u'.heap[tb]? = u.heap[tb]? := g1.block tb h.lt (fun e => hn tb e.symm rfl)
  have hl : (Y ++ [y]).length = Y.length + 1 := by simp
  have hb2 := hb.trans h.blk
  refine ⟨hb, ⟨?_, ?_, ?_, ?_, h.tb5⟩⟩
  · rw [blk_setCell hb2 _, hl]; simp
  · refine ownsRow_of_block h.ox (fun j hj => (Below.heap_setCell _ _ _ _ (own_ne_tb h.ox h.blk (by decide) j hj)).trans (g1.block j (h.ox.lt j hj).2 (fun e => own_own_ne h.ox h.oy (by decide) j hj e.symm)))
  · rw [hl]
    exact ownsRow_of_block o1 (fun j hj => Below.heap_setCell _ _ _ _ (own_ne_tb o1 hb2 (by decide) j hj))
  · exact (app_below h.oy ⟨o1, g1, k1⟩ h.bel (Nat.le_refl _) (Nat.le_refl _)).trans (Below.setCell (Below.refl _ _) h.tb5 _)
set_option maxRecDepth 100000 in
set_option maxHeartbeats 16000000 in
theorem mturns_law (va ea na la : Option Addr) (vc ec nc lc : Nat) (VL : List Vr) (EL : List Er) (NS : List Nd) (LS : List Lk) (n : Int) (w : World) (h1 : kVr.V w va VL) (h2 : kEr.V w ea EL) (h3 : ∀ x ∈ VL, VrOk w x) (h4 : ∀ x ∈ EL, ErOk w x) (h5 : kNd.V w na NS) (h6 : kLk.V w la LS) (on : ∀ x ∈ NS, x.Ok) (ol : ∀ x ∈ LS, x.Ok) (g1 : NS.length ≤ maxLen) (g2 : LS.length ≤ maxLen) :
    Calls Tryz.prog 8 #[.agg #[.slice va VL.length vc, .slice ea EL.length ec], .agg #[.slice na NS.length nc, .slice la LS.length lc], .int .i64 n] w fun e w' => e = .returned (.bool true) ∧ Below w.heap.size w w' := by
  obtain ⟨nv, hnv⟩ : ∃ n, n = VL.length := ⟨_, rfl⟩
  obtain ⟨ne, hne⟩ : ∃ n, n = EL.length := ⟨_, rfl⟩
  obtain ⟨nn, hnn⟩ : ∃ n, n = NS.length := ⟨_, rfl⟩
  obtain ⟨nl, hnl⟩ : ∃ n, n = LS.length := ⟨_, rfl⟩
  have HNV := Lib.hid hnv
  have HNE := Lib.hid hne
  have HNN := Lib.hid hnn
  have HNL := Lib.hid hnl
  have HSM : Hid (∀ u, Below w.heap.size w u → Calls Tryz.prog 47 #[.agg #[.slice va nv vc, .slice ea ne ec]] u (fun e w' => e = .returned (.bool (small8B VL EL)) ∧ Below u.heap.size u w')) := Lib.hid (fun u hu => by rw [hnv, hne]; exact small18_any va ea vc ec VL EL u (h1.below hu) (h2.below hu))
  have HPA : Hid (∀ u, Below w.heap.size w u → Calls Tryz.prog 48 #[.agg #[.slice na nn nc, .slice la nl lc]] u (fun e w' => e = .returned (.bool (smallPat NS LS)) ∧ Below u.heap.size u w')) := Lib.hid (fun u hu => by rw [hnn, hnl]; exact pattern18_any na la nc lc NS LS u (h5.below hu) (h6.below hu) g1 g2)
  have HPT : Hid (small8B VL EL = true → PtIn w va ea VL EL) := Lib.hid (fun hs => ptIn8_of h1 h2 h3 h4 hs)
  have HQT : Hid (∀ u, Below w.heap.size w u → kNd.V u na NS ∧ kLk.V u la LS) := Lib.hid (fun u hu => ⟨h5.below hu, h6.below hu⟩)
  have HQB : Hid ((∀ b off, na = some ⟨b, off, none⟩ → NS ≠ [] → b < w.heap.size) ∧ ∀ b off, la = some ⟨b, off, none⟩ → LS ≠ [] → b < w.heap.size) := Lib.hid ⟨fun b off e hne => by
    obtain ⟨b', off', e', hat⟩ := h5 hne
    rw [e] at e'
    cases e'
    exact hat.lt, fun b off e hne => by
    obtain ⟨b', off', e', hat⟩ := h6 hne
    rw [e] at e'
    cases e'
    exact hat.lt⟩
  have HQO : Hid ((∀ x ∈ NS, x.Ok) ∧ ∀ x ∈ LS, x.Ok) := Lib.hid ⟨on, ol⟩
  rw [← hnv, ← hne, ← hnn, ← hnl]
  clear hnv hne hnn hnl h1 h2 h3 h4 h5 h6 on ol g1 g2
  obtain ⟨pb, hpb⟩ : ∃ pb, pb = w.heap.size := ⟨_, rfl⟩
  obtain ⟨qb, hqb⟩ : ∃ qb, qb = w.heap.size + 1 := ⟨_, rfl⟩
  obtain ⟨W, hW⟩ : ∃ W, W = (w.alloc (.cells #[.slice va nv vc, .slice ea ne ec] 112)).alloc (.cells #[.slice na nn nc, .slice la nl lc] 116) := ⟨_, rfl⟩
  have HWW : Hid (Below w.heap.size w W) := Lib.hid (by rw [hW]; exact below_then (below_box _ _) (below_box _ _))
  have HBX : Hid (∀ u, Below W.heap.size W u → (u.cell? ⟨pb, 0, none⟩ = some (.slice va nv vc) ∧ u.cell? ⟨pb, 1, none⟩ = some (.slice ea ne ec) ∧ pb < u.heap.size) ∧ u.cell? ⟨qb, 0, none⟩ = some (.slice na nn nc) ∧ u.cell? ⟨qb, 1, none⟩ = some (.slice la nl lc) ∧ qb < u.heap.size) := Lib.hid (fun u hu => by
    have p1 : W.heap[pb]? = some (.cells #[.slice va nv vc, .slice ea ne ec] 112 (0, 0)) := by rw [hW, hpb]; exact (Below.heap_alloc _ _ _ (by simp)).trans (heap_new w _)
    have p2 : W.heap[qb]? = some (.cells #[.slice na nn nc, .slice la nl lc] 116 (0, 0)) := by rw [hW, hqb]; exact heap_new2 w _ _
    have q1 := (hu.block _ (Array.getElem?_eq_some_iff.1 p1).1).trans p1
    have q2 := (hu.block _ (Array.getElem?_eq_some_iff.1 p2).1).trans p2
    exact ⟨⟨by rw [cell_of_blk q1]; rfl, by rw [cell_of_blk q1]; rfl, (Array.getElem?_eq_some_iff.1 q1).1⟩, by rw [cell_of_blk q2]; rfl, by rw [cell_of_blk q2]; rfl, (Array.getElem?_eq_some_iff.1 q2).1⟩)
  have HW := Lib.hid hW.symm
  have HE := Lib.hid (And.intro hpb.symm hqb.symm)
  clear hW hpb hqb
  go_enter Tryz.func8, Tryz.ntmps8
  go_wp2_with fail
  rw [HW.out, HE.out.2, HE.out.1]
  refine (awake18_any W).mono ?_
  rintro e w1 ⟨rfl, b1⟩
  have HBL := Lib.hid b1
  obtain ⟨⟨p0, p1, pl⟩, q0, q1, ql⟩ := HBX.out w1 b1
  clear b1
  go_wp2_with fail
  refine (HSM.out w1 (below_then HWW.out HBL.out)).mono ?_
  rintro e w2 ⟨rfl, b2⟩
  replace HBL : Hid (Below W.heap.size W w2) := Lib.hid (below_then HBL.out b2)
  clear b2 p0 p1 pl q0 q1 ql
  cases hs : small8B VL EL
  case false =>
    clear hs
    go_wp2_with fail
    refine (awake18_any _).mono ?_
    rintro e w9 ⟨rfl, b9⟩
    have HB9 : Hid (Below W.heap.size W w9) := Lib.hid (below_then HBL.out b9)
    clear b9
    go_wp2_with fail
    go_ret
    exact ⟨rfl, below_then HWW.out HB9.out⟩
  have HS := Lib.hid hs
  clear hs
  obtain ⟨⟨p0, p1, pl⟩, q0, q1, ql⟩ := HBX.out w2 HBL.out
  go_wp2_with fail
  refine (HPA.out w2 (below_then HWW.out HBL.out)).mono ?_
  rintro e w3 ⟨rfl, b3⟩
  replace HBL : Hid (Below W.heap.size W w3) := Lib.hid (below_then HBL.out b3)
  clear b3 p0 p1 pl q0 q1 ql
  cases hs : smallPat NS LS
  case false =>
    clear hs
    go_wp2_with fail
    refine (awake18_any _).mono ?_
    rintro e w9 ⟨rfl, b9⟩
    have HB9 : Hid (Below W.heap.size W w9) := Lib.hid (below_then HBL.out b9)
    clear b9
    go_wp2_with fail
    go_ret
    exact ⟨rfl, below_then HWW.out HB9.out⟩
  have HSP := Lib.hid (smallPat_len hs)
  clear hs
  obtain ⟨⟨p0, p1, pl⟩, q0, q1, ql⟩ := HBX.out w3 HBL.out
  have hnn9 : nn ≤ 1000 := by have := HSP.out; have := HNN.out; omega
  by_cases h4 : 4 < nn
  · have t1 : decide ((4 : Int) < (nn : Int)) = true := decide_eq_true (by omega)
    have t1' : decide (4 < nn) = true := decide_eq_true h4
    clear h4
    go_wp2_with fail
    refine (awake18_any _).mono ?_
    rintro e w9 ⟨rfl, b9⟩
    have HB9 : Hid (Below W.heap.size W w9) := Lib.hid (below_then HBL.out b9)
    clear b9
    go_wp2_with fail
    go_ret
    exact ⟨rfl, below_then HWW.out HB9.out⟩
  have t1 : decide ((4 : Int) < (nn : Int)) = false := decide_eq_false (by omega)
  have t1' : decide (4 < nn) = false := decide_eq_false h4
  have HN4 : Hid (nn ≤ 4) := Lib.hid (by omega)
  obtain ⟨rt, hrt⟩ : ∃ b, b = rightPat NS LS := ⟨_, rfl⟩
  have HRT := Lib.hid hrt
  have HRR : Hid (∀ u, Below W.heap.size W u → Calls Tryz.prog 49 #[.agg #[.slice na nn nc, .slice la nl lc]] u fun e w' => e = .returned (.bool rt) ∧ Below u.heap.size u w') := Lib.hid (fun u hu => by
    obtain ⟨h5, h6⟩ := HQT.out u (below_then HWW.out hu)
    rw [HNN.out, HNL.out, hrt]
    exact r18right_any na la nc lc NS LS u h5 h6 HQO.out.1 HQO.out.2 (by have := HSP.out; omega) (by have := HSP.out; omega))
  clear h4 hrt
  go_wp2_with fail
  refine (HRR.out w3 HBL.out).mono ?_
  rintro e w4 ⟨rfl, b4⟩
  replace HBL : Hid (Below W.heap.size W w4) := Lib.hid (below_then HBL.out b4)
  clear b4 p0 p1 pl q0 q1 ql t1 t1'
  cases rt
  case false =>
    go_wp2_with fail
    refine (awake18_any _).mono ?_
    rintro e w9 ⟨rfl, b9⟩
    have HB9 : Hid (Below W.heap.size W w9) := Lib.hid (below_then HBL.out b9)
    clear b9
    go_wp2_with fail
    go_ret
    exact ⟨rfl, below_then HWW.out HB9.out⟩
  obtain ⟨⟨p0, p1, pl⟩, q0, q1, ql⟩ := HBX.out w4 HBL.out
  go_wp2_with fail
  have HBT := built18_any va ea vc ec VL EL w4 ((HPT.out HS.out).below (below_then HWW.out HBL.out))
  rw [← HNV.out, ← HNE.out] at HBT
  refine HBT.mono ?_
  rintro e w5 ⟨gb, vb, eb, rb, B, rfl, hg, hr, b5⟩
  have hlen := built_len8 HS.out
  obtain ⟨V, hV⟩ : ∃ V, V = adV [] (VL.map Vr.v) := ⟨_, rfl⟩
  rw [← hV] at hg hr hlen
  obtain ⟨E, hE⟩ : ∃ E, E = adE V [] (EL.map Er.e) := ⟨_, rfl⟩
  rw [← hE] at hg hr hlen
  have HG := Lib.hid hg
  have HR := Lib.hid hr
  have HLN := Lib.hid hlen
  replace HBL : Hid (Below W.heap.size W w5) := Lib.hid (below_then HBL.out b5)
  clear hV hE hg hr hlen b5 HBT p0 p1 pl q0 q1 ql
  have HQC : Hid (∀ u, Below w5.heap.size w5 u → u.cell? ⟨qb, 0, none⟩ = some (.slice na nn nc) ∧ u.cell? ⟨qb, 1, none⟩ = some (.slice la nl lc) ∧ qb < u.heap.size) := Lib.hid (fun u hu => (HBX.out u (below_then HBL.out hu)).2)
  have HQU : Hid (∀ u, Below w5.heap.size w5 u → kNd.V u na NS ∧ kLk.V u la LS) := Lib.hid (fun u hu => HQT.out u (below_then HWW.out (below_then HBL.out hu)))
  have HFIN : Hid (∀ u, Below w5.heap.size w5 u → Below w.heap.size w u) := Lib.hid (fun u hu => below_then HWW.out (below_then HBL.out hu))
  have HN1 : Hid (1 ≤ nn ∧ nl ≤ 16) := Lib.hid (by have := rightPat_iff.1 HRT.out.symm; have := HNN.out; have := HNL.out; omega)
  obtain ⟨q0, q1, ql⟩ := HQC.out w5 (Below.refl _ _)
  have hnp : (0 : Int) < (nn : Int) := by have := HN1.out; omega
  have m1 := Int.lt_tmod_of_pos n hnp
  have m2 := Int.tmod_lt_of_pos n hnp
  obtain ⟨K, hK⟩ : ∃ K : Nat, (n.tmod nn + nn) % nn = (K : Int) := ⟨((n.tmod nn + nn) % nn).toNat, by have := Int.emod_nonneg (n.tmod nn + nn) (show (nn : Int) ≠ 0 by omega); omega⟩
  have hK3 : (n.tmod nn + nn).tmod nn = (K : Int) := by rw [Int.tmod_eq_emod_of_nonneg (by omega)]; exact hK
  have HK : Hid (K < nn) := Lib.hid (by have := Int.emod_lt_of_pos (n.tmod nn + nn) hnp; omega)
  have hz : ((nn : Int) == 0) = false := by simp; omega
  have hz2 : (nn : Int) ≠ 0 := by omega
  have hz3 : nn ≠ 0 := by omega
  have w1 : IntKind.i64.wrap (n.tmod nn) = n.tmod nn := IntWalk.i64_in _ (by omega)
  have w2 : IntKind.i64.wrap (n.tmod nn + nn) = n.tmod nn + nn := IntWalk.i64_in _ (by omega)
  have w3' : IntKind.i64.wrap (K : Int) = K := IntWalk.i64_in _ (by have := HK.out; omega)
  go_upto_region 6 with fail
  clear m1 m2 hK hK3 hz hz2 hz3 w1 w2 w3' q0 q1 ql hnp
  obtain ⟨tb, htb⟩ : ∃ b, b = w5.heap.size := ⟨_, rfl⟩
  have HTB := Lib.hid htb
  obtain ⟨w6, hw6⟩ : ∃ u, u = w5.alloc (.cells #[.slice none 0 0, .slice none 0 0] 116) := ⟨_, rfl⟩
  have HW6 := Lib.hid hw6
  have HT0 : Hid (TnI w5 w6 tb (turnN NS K 0) [] none none 0 0) := Lib.hid ⟨by rw [hw6, htb]; exact heap_new w5 _, RowK.Own.nil kNd _ _, RowK.Own.nil kLk _ _, by rw [hw6]; exact below_box _ _, by rw [htb]; exact Nat.le_refl _⟩
  clear hw6 htb
  go_upto_region 7 with fail
  rw [← HW6.out, ← HTB.out]
  go_wp2_with fail
  go_loopw [12] (fun i wr => ∃ (j : Nat) (xa : Option Addr) (xc : Nat), i = .int .i64 j ∧ j ≤ nn ∧ Hid (TnI w5 wr tb (turnN NS K j) [] xa none xc 0)) (fun i _ => nn - (intOf i).toNat)
  case atStart => exact ⟨0, none, 0, rfl, Nat.zero_le _, HT0⟩
  case round =>
    clear HT0
    obtain ⟨j, xa, xc, rfl, hj, HT⟩ := hrel
    obtain ⟨wo, rfl⟩ : ∃ wo : World, wo = wr := ⟨_, rfl⟩
    have hj9 : j ≤ 1000 := by have := HN4.out; omega
    by_cases hlt : j < nn
    · obtain ⟨P, hP⟩ : ∃ P, P = (j + K) % nn := ⟨_, rfl⟩
      have hPn : P < nn := by rw [hP]; exact Nat.mod_lt _ (by omega)
      obtain ⟨x, hx⟩ : ∃ x, NS[P]? = some x := ⟨_, List.getElem?_eq_getElem (by rw [← HNN.out]; exact hPn)⟩
      have HX : Hid (NS[(j + K) % NS.length]? = some x) := Lib.hid (by rw [← HNN.out, ← hP]; exact hx)
      obtain ⟨b, off, hnaeq, hat⟩ := (HQU.out wo HT.out.bel).1 (fun e => by rw [e] at hx; simp at hx)
      obtain ⟨x0, x1, x2, x3, x4, x5, x6, x7⟩ := kNd_cells hat hx
      have xl := hat.lt
      obtain ⟨q0, q1, ql⟩ := HQC.out wo HT.out.bel
      rw [hnaeq] at q0
      have z0 : wo.cell? ⟨tb, 0, none⟩ = some (.slice xa j xc) := by rw [cell_of_blk HT.out.blk, turnN_len]; rfl
      have zl := HT.out.lt
      have a1 : IntKind.i64.wrap ((j : Int) + (K : Int)) = (j : Int) + (K : Int) := IntWalk.i64_in _ (by have := HK.out; omega)
      have a2 : ((j : Int) + (K : Int)).tmod (nn : Int) = (P : Int) := by rw [Int.tmod_eq_emod_of_nonneg (by omega), hP]; push_cast; rfl
      have a3 : IntKind.i64.wrap (P : Int) = P := IntWalk.i64_in _ (by omega)
      have hz : ((nn : Int) == 0) = false := by simp; omega
      have hz2 : (nn : Int) ≠ 0 := by omega
      have hz3 : nn ≠ 0 := by omega
      have hP9 : P ≤ 1000 := by omega
      have hPi : (P : Int) < (nn : Int) := by omega
      obtain ⟨lab, key, low, high⟩ := x
      have HJ := Lib.hid hlt
      have HU8 : Hid (TnI w5 (wo.drew.alloc (.cells #[.string lab, .string key, .int .i64 low.kind, .int .i64 low.n, .string low.s, .int .i64 high.kind, .int .i64 high.n, .string high.s] 100)) tb (turnN NS K j) [] xa none xc 0) := Lib.hid ((HT.out.below (below_drewN (Below.refl _ _) 1)).below (below_box _ _))
      have HO8 : Hid (kNd.Own (wo.drew.alloc (.cells #[.string lab, .string key, .int .i64 low.kind, .int .i64 low.n, .string low.s, .int .i64 high.kind, .int .i64 high.n, .string high.s] 100)) w5.heap.size (.slice xa j xc) (turnN NS K j)) := Lib.hid (by have := HU8.out.ox; rw [turnN_len] at this; exact this)
      have HV8 : Hid (kNd.V (wo.drew.alloc (.cells #[.string lab, .string key, .int .i64 low.kind, .int .i64 low.n, .string low.s, .int .i64 high.kind, .int .i64 high.n, .string high.s] 100)) (some ⟨wo.drew.heap.size, 0, none⟩) [⟨lab, key, low, high⟩]) := Lib.hid (fun _ => ⟨_, 0, rfl, RowK.new_at (k := kNd) (heap_new _ _) (by simp [RowK.cells, kNd, Nd.enc])⟩)
      have HB8 : Hid (w5.heap.size ≤ (wo.drew.alloc (.cells #[.string lab, .string key, .int .i64 low.kind, .int .i64 low.n, .string low.s, .int .i64 high.kind, .int .i64 high.n, .string high.s] 100)).heap.size) := Lib.hid HU8.out.bel.size
      clear hx hat hP hPn hnaeq hlt
      go_upto_region 10 with fail
      go_region_law (first
        | (refine RowK.step_app (k := kNd) (B := w5.heap.size) (v := .slice xa j xc) (l := turnN NS K j) rfl (.tmp 72) (.tmp 82) rfl rfl HO8.out (some ⟨wo.drew.heap.size, 0, none⟩) 1 [⟨lab, key, low, high⟩] 1 rfl rfl HV8.out (fun e => by cases e) (by have := HJ.out; rw [turnN_len]; simp; omega) HB8.out ?_; intro v8 w8 hA; obtain ⟨a8, c8, hv8⟩ := hA.1.shape; rw [List.length_append, List.length_singleton, turnN_len] at hv8; subst hv8; have hE := HU8.out.pushX (xa' := a8) (xc' := c8) (u' := w8) (x := ⟨lab, key, low, high⟩) (by rw [turnN_len]; exact hA); have y0 := (World.cell?_of_block (a := ⟨tb, 0, none⟩) hE.1).trans (cell_of_blk HU8.out.blk 0); have g0 := frozen_of_blk (hE.1.trans HU8.out.blk) 0; have zr : tb < w8.heap.size := (Array.getElem?_eq_some_iff.1 (hE.1.trans HU8.out.blk)).1; have HE : Hid (TnI w5 (w8.setCell ⟨tb, 0, none⟩ (.slice a8 (j + 1) c8)) tb (turnN NS K (j + 1)) [] a8 none c8 0) := Lib.hid (by rw [turnN_succ NS K j HX.out]; have h := hE.2; rw [turnN_len] at h; exact h); clear hA hE)
        | fail)
      all_goals
        go_wp2_with fail
        exact ⟨⟨j + 1, a8, c8, by go_num, HJ.out, HE⟩, by simp [intOf]; have := HJ.out; omega⟩
    · obtain rfl : j = nn := by omega
      clear hlt hj9
      obtain ⟨q0, q1, ql⟩ := HQC.out wo HT.out.bel
      have b1 : IntKind.i64.wrap ((nl : Int) - 1) = (nl : Int) - 1 := IntWalk.i64_in _ (by have := HN1.out; omega)
      have hnl9 : nl ≤ 1000 := by have := HN1.out; omega
      have HT1 : Hid (TnI w5 wo tb (turnN NS K j) (turnK j K LS nl) xa none xc 0) := Lib.hid (by
        have h : turnK j K LS nl = [] := List.eq_nil_of_length_eq_zero (by rw [turnK_len, HNL.out]; omega)
        rw [h]; exact HT.out)
      go_wp2_with fail
      clear q0 q1 ql b1
      go_loopw [13] (fun i wr => ∃ (m : Nat) (z : Int) (ya : Option Addr) (yc : Nat), i = .int .i64 z ∧ z = (m : Int) - 1 ∧ m ≤ nl ∧ Hid (TnI w5 wr tb (turnN NS K j) (turnK j K LS m) xa ya xc yc)) (fun i _ => (intOf i + 1).toNat)
      case atStart => exact ⟨nl, _, none, 0, rfl, rfl, Nat.le_refl _, HT1⟩
      case round =>
        clear HT1 HT
        obtain ⟨m, z, ya, yc, rfl, hzm, hm, HT⟩ := hrel
        obtain ⟨wo2, rfl⟩ : ∃ wo : World, wo = wr := ⟨_, rfl⟩
        rcases Nat.eq_zero_or_pos m with rfl | hpos
        · obtain rfl : z = -1 := by omega
          clear hzm
          clear hm
          go_wp2_with fail
          refine (wnew_any gb 1073741824 wo2).mono ?_
          rintro e w8 hp
          unfold WnPost at hp
          rw [if_neg (by omega)] at hp
          obtain ⟨rfl, hw⟩ := hp
          obtain ⟨wa, hwa⟩ : ∃ b, b = wo2.heap.size := ⟨_, rfl⟩
          rw [← hwa] at hw ⊢
          have HA8 : Hid (WkS wo2 w8 wa gb (some 1073741824)) := Lib.hid hw
          have HWA : Hid (wa = wo2.heap.size) := Lib.hid hwa
          clear hw hwa
          go_wp2_with fail
          refine (wnew_any gb 1073741824 w8).mono ?_
          rintro e w9 hp
          unfold WnPost at hp
          rw [if_neg (by omega)] at hp
          obtain ⟨rfl, hw⟩ := hp
          obtain ⟨wb, hwb⟩ : ∃ b, b = w8.heap.size := ⟨_, rfl⟩
          rw [← hwb] at hw ⊢
          have HA9 : Hid (WkS wo2 w9 wa gb (some 1073741824)) := Lib.hid (HA8.out.below hw.bel)
          have HB9 : Hid (WkS wo2 w9 wb gb (some 1073741824)) := Lib.hid ⟨HA8.out.bel.trans (hw.bel.mono HA8.out.bel.size), by have := HA8.out.bel.size; omega, hw.blk, hw.small⟩
          have HAB : Hid (wa < wb ∧ wb < w9.heap.size ∧ wo2.heap.size ≤ wa) := Lib.hid ⟨by have := HA8.out.lt; omega, hw.lt, by rw [HWA.out]; exact Nat.le_refl _⟩
          have HG7 : Hid (GrC wo2 gb vb eb V E) := Lib.hid (HG.out.below HT.out.bel)
          have HW5 : Hid (w.heap.size ≤ w5.heap.size ∧ w5.heap.size ≤ wo2.heap.size) := Lib.hid ⟨(HFIN.out _ (Below.refl _ _)).size, HT.out.bel.size⟩
          clear hw hwb
          have hB9 : Below w5.heap.size w5 w9 := HT.out.bel.trans (HA9.out.bel.mono HT.out.bel.size)
          obtain ⟨q0, q1, ql⟩ := HQC.out w9 hB9
          have HRA : Hid (Calls Tryz.prog 51 #[.pointer (some ⟨wa, 0, none⟩), .agg #[.slice na j nc, .slice la nl lc], .int .i64 4096] w9 (RnP wo2 w9 wa gb (some 1073741824) V E NS LS 4096)) := Lib.hid (by
            rw [HNN.out, HNL.out]
            exact mrun_any wo2 w9 wa gb vb eb V E na la nc lc NS LS (some 1073741824) 4096 HG7.out HA9.out (HQU.out w9 hB9).1 (HQU.out w9 hB9).2 (fun b off e hne => by have := HQB.out.1 b off e hne; have := HW5.out; have := HAB.out; omega) (fun b off e hne => by have := HQB.out.2 b off e hne; have := HW5.out; have := HAB.out; omega) HQO.out.1 HQO.out.2 HRT.out.symm (by omega) (by have := HLN.out; omega) (by have := HLN.out; omega))
          clear hB9
          go_wp2_with fail
          refine HRA.out.mono ?_
          rintro e w10 ⟨a1, c1, R1, code1, st1, rfl, hT1, hO1, hF1, hW1, hC1⟩
          obtain ⟨n1, hn1⟩ : ∃ k, k = R1.length := ⟨_, rfl⟩
          rw [← hn1]
          have HB10 : Hid (WkS wo2 w10 wb gb (some 1073741824)) := Lib.hid (HB9.out.chgM hC1 (fun e => by have := HAB.out.1; omega) (fun j e => by rw [e]; exact HAB.out.2.2))
          have HN1R : Hid (n1 = R1.length) := Lib.hid hn1
          have HO1 := Lib.hid hO1
          have HF1 := Lib.hid hF1
          have HT10 : Hid (TnI w5 w10 tb (turnN NS K j) (turnK j K LS 0) xa ya xc yc) := Lib.hid ⟨(hW1.bel.block _ HT.out.lt).trans HT.out.blk, ownsRow_of_block HT.out.ox (fun i hi => hW1.bel.block i (HT.out.ox.lt i hi).2), ownsRow_of_block HT.out.oy (fun i hi => hW1.bel.block i (HT.out.oy.lt i hi).2), HT.out.bel.trans (hW1.bel.mono HT.out.bel.size), HT.out.tb5⟩
          have hTR : rightPat (turnN NS K j) (turnK j K LS 0) = true := by
            have h := turn_right (k := K) HRT.out.symm (by rw [← HNN.out]; exact HK.out)
            rw [← HNN.out] at h
            exact h
          have HTR := Lib.hid hTR
          have HP1 : Hid ((code1 = 32 ∧ R1.map Ws.l = [] ∧ 4096 < (rowsP V E NS LS).length) ∨ (code1 = 0 ∧ R1.map Ws.l = rowsP V E NS LS ∧ (rowsP V E NS LS).length ≤ 4096)) := Lib.hid (runT_big HRT.out.symm HLN.out.1 HLN.out.2 hT1)
          have HTK : Hid ((turnK j K LS 0).length = nl) := Lib.hid (by rw [turnK_len, HNL.out]; rfl)
          have z0 : w10.cell? ⟨tb, 0, none⟩ = some (.slice xa j xc) := by rw [cell_of_blk HT10.out.blk, turnN_len]; rfl
          have z1 : w10.cell? ⟨tb, 1, none⟩ = some (.slice ya nl yc) := by rw [cell_of_blk HT10.out.blk, HTK.out]; rfl
          have zl := HT10.out.lt
          have HRB2 : Hid (Calls Tryz.prog 51 #[.pointer (some ⟨wb, 0, none⟩), .agg #[.slice xa j xc, .slice ya nl yc], .int .i64 4096] w10 (RnP wo2 w10 wb gb (some 1073741824) V E (turnN NS K j) (turnK j K LS 0) 4096)) := Lib.hid (by
            have h := mrun_any wo2 w10 wb gb vb eb V E xa ya xc yc (turnN NS K j) (turnK j K LS 0) (some 1073741824) 4096 HG7.out HB10.out HT10.out.ox.toV HT10.out.oy.toV
              (fun b off e _ e2 => by
                have h1 : (Value.slice xa (turnN NS K j).length xc).ownBlock = some b := by rw [e]; rfl
                have := (HT.out.ox.lt b h1).2
                have := HAB.out
                omega) (fun b off e _ e2 => by
                have h1 : (Value.slice ya (turnK j K LS 0).length yc).ownBlock = some b := by rw [e]; rfl
                have := (HT.out.oy.lt b h1).2
                have := HAB.out
                omega) (turnN_ok HQO.out.1 (by rw [HNN.out]; exact Nat.le_refl _) (by rw [← HNN.out]; have := HN1.out; omega)) (turnK_ok HQO.out.2 (by have := HN1.out; omega) (by have := HN4.out; omega)) HTR.out (by omega) (by have := HLN.out; omega) (by have := HLN.out; omega)
            rw [turnN_len, HTK.out] at h
            exact h)
          clear hT1 hO1 hF1 hW1 hC1 hn1 hTR q0 q1 ql
          go_wp2_with fail
          refine HRB2.out.mono ?_
          rintro e w11 ⟨a2, c2, R2, code2, st2, rfl, hT2, hO2, hF2, hW2, hC2⟩
          obtain ⟨n2, hn2⟩ : ∃ k, k = R2.length := ⟨_, rfl⟩
          rw [← hn2]
          have HN2R : Hid (n2 = R2.length) := Lib.hid hn2
          have hP2 := runT_big HTR.out HLN.out.1 HLN.out.2 hT2
          have hrl : (rowsP V E (turnN NS K j) (turnK j K LS 0)).length = (rowsP V E NS LS).length := by
            have h := turn_rows (k := K) (E := E) HG7.out.ok.sv HRT.out.symm (by rw [← HNN.out]; exact HK.out)
            rw [← HNN.out] at h
            exact h
          have HC : Hid (code1 = code2 ∧ n1 = n2 ∧ n1 ≤ 4096) := Lib.hid (by
            have e1 : n1 = (R1.map Ws.l).length := by rw [List.length_map]; exact HN1R.out
            have e2 : n2 = (R2.map Ws.l).length := by rw [List.length_map]; exact hn2
            rcases HP1.out with ⟨h1, h2, h3⟩ | ⟨h1, h2, h3⟩ <;> rcases hP2 with ⟨g1, g2, g3⟩ | ⟨g1, g2, g3⟩ <;> rw [h2] at e1 <;> rw [g2] at e2
            · refine ⟨by rw [h1, g1], by rw [e1, e2], by rw [e1]; exact Nat.zero_le _⟩
            · omega
            · omega
            · refine ⟨by rw [h1, g1], by rw [e1, e2, hrl], by omega⟩)
          have HALL : Hid (∀ x ∈ R1, x.l.length = j ∧ ∃ y ∈ R2, y.l = rotR j K x.l) := Lib.hid (fun x hx => by
            have hx2 : x.l ∈ R1.map Ws.l := List.mem_map.2 ⟨x, hx, rfl⟩
            rcases HP1.out with ⟨h1, h2, h3⟩ | ⟨h1, h2, h3⟩
            · rw [h2] at hx2; cases hx2
            · rw [h2] at hx2
              have hxl := row_len HRT.out.symm hx2
              have h4 := (turn_mem (k := K) (V := V) (E := E) HRT.out.symm (by rw [← HNN.out]; exact HK.out) hxl).2 hx2
              rw [← HNN.out] at h4 hxl
              rcases hP2 with ⟨g1, g2, g3⟩ | ⟨g1, g2, g3⟩
              · omega
              · rw [← g2] at h4
                obtain ⟨y, hy, e⟩ := List.mem_map.1 h4
                exact ⟨hxl, y, hy, e⟩)
          have HL2 : Hid (∀ y ∈ R2, y.l.length = j) := Lib.hid (fun y hy => by
            have hy2 : y.l ∈ R2.map Ws.l := List.mem_map.2 ⟨y, hy, rfl⟩
            rcases hP2 with ⟨g1, g2, g3⟩ | ⟨g1, g2, g3⟩
            · rw [g2] at hy2; cases hy2
            · rw [g2] at hy2
              have h := row_len HTR.out hy2
              rw [turnN_len] at h
              exact h)
          have HV1 : Hid (kW2.V w11 a1 R1 ∧ ∀ x ∈ R1, kI.V w11 x.a x.l) := Lib.hid ⟨(HO1.out.chg hC2 (fun i hi e => by
            have h1 := (HO1.out.lt i hi).1
            have := HAB.out
            omega)).toV, fun x hx => ((HF1.out x hx).chg hC2 (fun i e => by have := HAB.out; omega)).toV⟩
          have HV2 : Hid (kW2.V w11 a2 R2 ∧ ∀ x ∈ R2, kI.V w11 x.a x.l) := Lib.hid ⟨hO2.toV, fun x hx => (hF2 x hx).toV⟩
          have HB11 : Hid (Below w5.heap.size w5 w11) := Lib.hid (HT.out.bel.trans (hW2.bel.mono HT.out.bel.size))
          obtain ⟨e1, e2, hn1b⟩ := HC.out
          clear hT2 hO2 hF2 hW2 hC2 hn2 hP2 hrl z0 z1 zl
          subst e1 e2
          have hj4 : j ≤ 4 := HN4.out
          have hKj := HK.out
          go_wp2_with fail
          go_loopw [23] (fun i wr => ∃ k : Nat, i = .int .i64 k ∧ k ≤ n1 ∧ Hid (Below w11.heap.size w11 wr)) (fun i _ => n1 - (intOf i).toNat)
          case atStart => exact ⟨0, rfl, Nat.zero_le _, Lib.hid (Below.refl _ _)⟩
          case round =>
            obtain ⟨k, rfl, hk, HB⟩ := hrel
            obtain ⟨wo3, rfl⟩ : ∃ wo : World, wo = wr := ⟨_, rfl⟩
            have hk9 : k ≤ 1000000 := by omega
            by_cases hlt : k < n1
            · obtain ⟨x, hx⟩ : ∃ x, R1[k]? = some x := ⟨_, List.getElem?_eq_getElem (by rw [← HN1R.out]; exact hlt)⟩
              have hxm := List.mem_of_getElem? hx
              have HX := Lib.hid hx
              have HXA := Lib.hid (HALL.out x hxm)
              have HXV := Lib.hid (HV1.out.2 x hxm)
              have HKL := Lib.hid hlt
              clear hx hxm
              go_wp2_with fail
              go_loopw [24, 25] (fun f jv wr => ∃ (b : Bool) (m : Nat), f = .bool b ∧ jv = .int .i64 m ∧ m ≤ n1 ∧ Hid (b = false → ∀ y ∈ R2.take m, y.l ≠ rotR j K x.l) ∧ Hid (Below w11.heap.size w11 wr)) (fun _ jv _ => n1 - (intOf jv).toNat)
              case atStart => exact ⟨false, 0, rfl, rfl, Nat.zero_le _, Lib.hid (fun _ y hy => by simp at hy), HB⟩
              case round =>
                obtain ⟨b, m, rfl, rfl, hm, HNO, HBm⟩ := hrel
                obtain ⟨wo4, rfl⟩ : ∃ wo : World, wo = wr := ⟨_, rfl⟩
                have hm9 : m ≤ 1000000 := by omega
                cases b
                case true =>
                  by_cases hlm : m < n1
                  · go_wp2_with fail
                    exact ⟨⟨k + 1, by go_num, HKL.out, HBm⟩, by simp [intOf]; have := HKL.out; omega⟩
                  · obtain rfl : m = n1 := by omega
                    go_wp2_with fail
                    exact ⟨⟨k + 1, by go_num, HKL.out, HBm⟩, by simp [intOf]; have := HKL.out; omega⟩
                case false =>
                  by_cases hlm : m < n1
                  · obtain ⟨y, hy⟩ : ∃ y, R2[m]? = some y := ⟨_, List.getElem?_eq_getElem (by rw [← HN2R.out]; exact hlm)⟩
                    have hym := List.mem_of_getElem? hy
                    have HY := Lib.hid hy
                    have HYL := Lib.hid (HL2.out y hym)
                    have HYV := Lib.hid (HV2.out.2 y hym)
                    have HLM := Lib.hid hlm
                    clear hy hym
                    go_wp2_with fail
                    go_loopw [24, 26] (fun f zv wr => ∃ (b : Bool) (z : Nat), f = .bool b ∧ zv = .int .i64 z ∧ z ≤ j ∧ Hid (b = true → ∀ i, i < z → y.l[i]? = x.l[(i + K) % j]?) ∧ Hid (b = false → ∃ i, i < z ∧ y.l[i]? ≠ x.l[(i + K) % j]?) ∧ Hid (Below w11.heap.size w11 wr)) (fun _ zv _ => j - (intOf zv).toNat)
                    case atStart => exact ⟨true, 0, rfl, rfl, Nat.zero_le _, Lib.hid (fun _ i hi => by omega), Lib.hid (fun e => by cases e), HBm⟩
                    case round =>
                      obtain ⟨b, z, rfl, rfl, hz, HYES, HNOT, HBz⟩ := hrel
                      obtain ⟨wo5, rfl⟩ : ∃ wo : World, wo = wr := ⟨_, rfl⟩
                      have hz9 : z ≤ 1000 := by omega
                      by_cases hlz : z < j
                      · cases b
                        case false =>
                          go_wp2_with fail
                          go_quiet (fail)
                          go_wp2_with fail
                          exact ⟨⟨false, z + 1, rfl, by go_num, hlz, Lib.hid (fun e => by cases e), Lib.hid (fun _ => by obtain ⟨i, h1, h2⟩ := HNOT.out trivial; exact ⟨i, by omega, h2⟩), Lib.hid (below_drewN HBz.out _)⟩, by simp [intOf]; omega⟩
                        case true =>
                          obtain ⟨P, hP⟩ : ∃ P, P = (z + K) % j := ⟨_, rfl⟩
                          have hPj : P < j := by rw [hP]; exact Nat.mod_lt _ (by omega)
                          obtain ⟨v, hv⟩ : ∃ v, y.l[z]? = some v := ⟨_, List.getElem?_eq_getElem (by rw [HYL.out]; exact hlz)⟩
                          obtain ⟨u, hu⟩ : ∃ u, x.l[P]? = some u := ⟨_, List.getElem?_eq_getElem (by rw [HXA.out.1]; exact hPj)⟩
                          obtain ⟨b2, o2, ha2, hat2⟩ := (HV2.out.1.below HBz.out) (fun e => by have := HY.out; rw [e] at this; simp at this)
                          obtain ⟨b1, o1, ha1, hat1⟩ := (HV1.out.1.below HBz.out) (fun e => by have := HX.out; rw [e] at this; simp at this)
                          obtain ⟨b4, o4, ha4, hat4⟩ := (HYV.out.below HBz.out) (fun e => by rw [e] at hv; simp at hv)
                          obtain ⟨b3, o3, ha3, hat3⟩ := (HXV.out.below HBz.out) (fun e => by rw [e] at hu; simp at hu)
                          have s2 := hat2.cells m y HY.out 0 _ rfl
                          have s1 := hat1.cells k x HX.out 0 _ rfl
                          simp [kW2] at s1 s2
                          rw [ha4, HYL.out] at s2
                          rw [ha3, HXA.out.1] at s1
                          have s4 := kI_cell hat4 hv
                          have s3 := kI_cell hat3 hu
                          have l1 := hat1.lt
                          have l2 := hat2.lt
                          have l3 := hat3.lt
                          have l4 := hat4.lt
                          have d1 : IntKind.i64.wrap ((z : Int) + (K : Int)) = (z : Int) + (K : Int) := IntWalk.i64_in _ (by omega)
                          have d2 : ((z : Int) + (K : Int)).tmod (j : Int) = (P : Int) := by rw [Int.tmod_eq_emod_of_nonneg (by omega), hP]; push_cast; rfl
                          have d3 : IntKind.i64.wrap (P : Int) = P := IntWalk.i64_in _ (by omega)
                          have d4 : ((j : Int) == 0) = false := by simp; omega
                          have d5 : (j : Int) ≠ 0 := by omega
                          have d6 : j ≠ 0 := by omega
                          have d7 : (P : Int) < (j : Int) := by omega
                          have d8 : (z : Int) < (j : Int) := by omega
                          have d9 : (m : Int) < (n1 : Int) := by have := HLM.out; omega
                          have d10 : (k : Int) < (n1 : Int) := by have := HKL.out; omega
                          subst ha1 ha2
                          have HVU : Hid (y.l[z]? = some v ∧ x.l[(z + K) % j]? = some u) := Lib.hid ⟨hv, by rw [← hP]; exact hu⟩
                          clear hv hu hat1 hat2 hat3 hat4 hP ha3 ha4
                          by_cases hvu : v = u
                          · have t1 : (v == u) = true := by simp [hvu]
                            have HE : Hid (v = u) := Lib.hid hvu
                            clear hvu
                            go_wp2_with fail
                            go_quiet (fail)
                            go_wp2_with fail
                            exact ⟨⟨true, z + 1, rfl, by go_num, hlz, Lib.hid (fun _ i hi => by
                              by_cases h : i < z
                              · exact HYES.out trivial i h
                              · obtain rfl : i = z := by omega
                                rw [HVU.out.1, HVU.out.2, HE.out]), Lib.hid (fun e => by cases e), Lib.hid (below_drewN HBz.out _)⟩, by simp [intOf]; omega⟩
                          · have t1 : (v == u) = false := by simp [hvu]
                            have HE : Hid (v ≠ u) := Lib.hid hvu
                            clear hvu
                            go_wp2_with fail
                            go_quiet (fail)
                            go_wp2_with fail
                            exact ⟨⟨false, z + 1, rfl, by go_num, hlz, Lib.hid (fun e => by cases e), Lib.hid (fun _ => ⟨z, by omega, by rw [HVU.out.1, HVU.out.2]; exact fun e => HE.out (by injection e)⟩), Lib.hid (below_drewN HBz.out _)⟩, by simp [intOf]; omega⟩
                      · obtain rfl : z = j := by omega
                        have HRES : Hid (b = false → y.l ≠ rotR z K x.l) := Lib.hid (fun e e2 => by
                          obtain ⟨i, h1, h2⟩ := HNOT.out e
                          rw [e2, rotR_at h1 HXA.out.1] at h2
                          exact h2 rfl)
                        go_wp2_with fail
                        exact ⟨⟨b, m + 1, rfl, by go_num, HLM.out, Lib.hid (fun e y' hy' => by
                          rw [List.take_add_one, HY.out] at hy'
                          rcases List.mem_append.1 hy' with hy' | hy'
                          · exact HNO.out trivial y' hy'
                          · simp at hy'; rw [hy']; exact HRES.out e), HBz⟩, by simp [intOf]; have := HLM.out; omega⟩
                  · exfalso
                    obtain rfl : m = n1 := by omega
                    obtain ⟨_, y, hy, e⟩ := HXA.out
                    exact HNO.out rfl y (by rw [HN2R.out, List.take_length]; exact hy) e
            · obtain rfl : k = n1 := by omega
              go_wp2_with fail
              go_ret
              exact ⟨rfl, HFIN.out _ (below_then HB11.out HB.out)⟩
        · obtain ⟨k, rfl⟩ : ∃ k, m = k + 1 := ⟨m - 1, by omega⟩
          obtain rfl : z = (k : Int) := by omega
          have hk9 : k ≤ 1000 := by omega
          have hkl : (k : Int) < (nl : Int) := by omega
          have hkl2 : k < nl := by omega
          obtain ⟨x, hx⟩ : ∃ x, LS[k]? = some x := ⟨_, List.getElem?_eq_getElem (by rw [← HNL.out]; exact hkl2)⟩
          have HX := Lib.hid hx
          have hxm := List.mem_of_getElem? hx
          obtain ⟨⟨r1, r2⟩, r3, r4⟩ := rightLk_in ((rightPat_iff.1 HRT.out.symm).2.2 x hxm)
          rw [← HNN.out] at r2 r4
          obtain ⟨b, off, hlaeq, hat⟩ := (HQU.out wo2 HT.out.bel).2 (fun e => by rw [e] at hx; simp at hx)
          obtain ⟨x0, x1, x2⟩ := kLk_cells hat hx
          have xl := hat.lt
          obtain ⟨q0, q1, ql⟩ := HQC.out wo2 HT.out.bel
          rw [hlaeq] at q1
          obtain ⟨fr, tt, lab⟩ := x
          simp only at r1 r2 r3 r4 x0 x1 x2
          have HKN := HK.out
          have a1 : IntKind.i64.wrap (fr - (K : Int)) = fr - K := IntWalk.i64_in _ (by have := HN4.out; omega)
          have a2 : IntKind.i64.wrap (fr - (K : Int) + (j : Int)) = fr - K + j := IntWalk.i64_in _ (by have := HN4.out; omega)
          have a4 : IntKind.i64.wrap (tt - (K : Int)) = tt - K := IntWalk.i64_in _ (by have := HN4.out; omega)
          have a5 : IntKind.i64.wrap (tt - (K : Int) + (j : Int)) = tt - K + j := IntWalk.i64_in _ (by have := HN4.out; omega)
          have hjp : (0 : Int) < (j : Int) := by omega
          obtain ⟨F, hF⟩ : ∃ F, F = (fr - (K : Int) + (j : Int)).tmod (j : Int) := ⟨_, rfl⟩
          obtain ⟨T, hT⟩ : ∃ T, T = (tt - (K : Int) + (j : Int)).tmod (j : Int) := ⟨_, rfl⟩
          have g1 := Int.tmod_lt_of_pos (fr - (K : Int) + j) hjp
          have g2 := Int.lt_tmod_of_pos (fr - (K : Int) + j) hjp
          have g3 := Int.tmod_lt_of_pos (tt - (K : Int) + j) hjp
          have g4 := Int.lt_tmod_of_pos (tt - (K : Int) + j) hjp
          rw [← hF] at g1 g2
          rw [← hT] at g3 g4
          have a3 : IntKind.i64.wrap F = F := IntWalk.i64_in _ (by have := HN4.out; omega)
          have a6 : IntKind.i64.wrap T = T := IntWalk.i64_in _ (by have := HN4.out; omega)
          have HY : Hid (turnK j K LS k = turnK j K LS (k + 1) ++ [⟨F, T, lab⟩]) := Lib.hid (by rw [turnK_succ j K LS k HX.out, hF, hT]; rfl)
          have hF2 := hF.symm
          have hT2 := hT.symm
          have hz : ((j : Int) == 0) = false := by simp; omega
          have hz2 : (j : Int) ≠ 0 := by omega
          have hz3 : j ≠ 0 := by omega
          have HJ : Hid (k < nl) := Lib.hid hkl2
          clear hx hxm r1 r2 r3 r4 hat hF hT g1 g2 g3 g4 HKN hkl2 hpos hzm hlaeq
          go_upto_region 15 with fail
          obtain ⟨wl, hwl⟩ : ∃ u, u = wo2.alloc (.cells #[.int .i64 fr, .int .i64 tt, .string lab] 128) := ⟨_, rfl⟩
          rw [← hwl]
          have he := heap_new wo2 (.cells #[.int .i64 fr, .int .i64 tt, .string lab] 128)
          rw [← hwl] at he
          have e0 : wl.cell? ⟨wo2.heap.size, 0, none⟩ = some (.int .i64 fr) := by rw [cell_of_blk he]; rfl
          have e1 : wl.cell? ⟨wo2.heap.size, 1, none⟩ = some (.int .i64 tt) := by rw [cell_of_blk he]; rfl
          have e2 : wl.cell? ⟨wo2.heap.size, 2, none⟩ = some (.string lab) := by rw [cell_of_blk he]; rfl
          have el : wo2.heap.size < wl.heap.size := (Array.getElem?_eq_some_iff.1 he).1
          have HTL : Hid (TnI w5 wl tb (turnN NS K j) (turnK j K LS (k + 1)) xa ya xc yc) := Lib.hid (by rw [hwl]; exact HT.out.below (below_box _ _))
          obtain ⟨ny, hny⟩ : ∃ k', k' = LS.length - (k + 1) := ⟨_, rfl⟩
          have HNY : Hid ((turnK j K LS (k + 1)).length = ny ∧ ny ≤ 16) := Lib.hid ⟨by rw [turnK_len, hny], by have := HN1.out; have := HNL.out; omega⟩
          have z1 : wl.cell? ⟨tb, 1, none⟩ = some (.slice ya ny yc) := by rw [cell_of_blk HTL.out.blk, HNY.out.1]; rfl
          have zl := HTL.out.lt
          have hny9 : ny ≤ 1000 := by have := HNY.out; omega
          have HU8 : Hid (TnI w5 (wl.drew.alloc (.cells #[.int .i64 F, .int .i64 T, .string lab] 128)) tb (turnN NS K j) (turnK j K LS (k + 1)) xa ya xc yc) := Lib.hid ((HTL.out.below (below_drewN (Below.refl _ _) 1)).below (below_box _ _))
          have HO8 : Hid (kLk.Own (wl.drew.alloc (.cells #[.int .i64 F, .int .i64 T, .string lab] 128)) w5.heap.size (.slice ya ny yc) (turnK j K LS (k + 1))) := Lib.hid (by have := HU8.out.oy; rw [HNY.out.1] at this; exact this)
          have HV8 : Hid (kLk.V (wl.drew.alloc (.cells #[.int .i64 F, .int .i64 T, .string lab] 128)) (some ⟨wl.drew.heap.size, 0, none⟩) [⟨F, T, lab⟩]) := Lib.hid (fun _ => ⟨_, 0, rfl, RowK.new_at (k := kLk) (heap_new _ _) (by simp [RowK.cells, kLk, Lk.enc])⟩)
          have HB8 : Hid (w5.heap.size ≤ (wl.drew.alloc (.cells #[.int .i64 F, .int .i64 T, .string lab] 128)).heap.size) := Lib.hid HU8.out.bel.size
          clear he hwl hny x0 x1 x2 xl q0 q1 ql
          go_region_law (first
            | (refine RowK.step_app (k := kLk) (B := w5.heap.size) (v := .slice ya ny yc) (l := turnK j K LS (k + 1)) rfl (.tmp 99) (.tmp 119) rfl rfl HO8.out (some ⟨wl.drew.heap.size, 0, none⟩) 1 [⟨F, T, lab⟩] 1 rfl rfl HV8.out (fun e => by cases e) (by have := HNY.out; simp; omega) HB8.out ?_; intro v8 w8 hA; obtain ⟨a8, c8, hv8⟩ := hA.1.shape; rw [List.length_append, List.length_singleton, HNY.out.1] at hv8; subst hv8; have hE := HU8.out.pushY (ya' := a8) (yc' := c8) (u' := w8) (y := ⟨F, T, lab⟩) (by rw [HNY.out.1]; exact hA); have y0 := (World.cell?_of_block (a := ⟨tb, 1, none⟩) hE.1).trans (cell_of_blk HU8.out.blk 1); have g0 := frozen_of_blk (hE.1.trans HU8.out.blk) 1; have zr : tb < w8.heap.size := (Array.getElem?_eq_some_iff.1 (hE.1.trans HU8.out.blk)).1; have HE : Hid (TnI w5 (w8.setCell ⟨tb, 1, none⟩ (.slice a8 (ny + 1) c8)) tb (turnN NS K j) (turnK j K LS k) xa a8 xc c8) := Lib.hid (by rw [HY.out]; have h := hE.2; rw [HNY.out.1] at h; exact h); clear hA hE)
            | fail)
          all_goals
            go_wp2_with fail
            exact ⟨⟨k, (k : Int) - 1, a8, c8, rfl, rfl, by have := HJ.out; omega, HE⟩, by simp [intOf]⟩
end Go.Proofs.YtonilojjahfboaaGreat
