/- Law MatchLess: the walk. Conditions: small bulk. -/
import Derived.Test.YtonilojjahfboaaGreatMq3
namespace Go.Proofs.YtonilojjahfboaaGreat
open Go.RowKit Go.Maps

theorem bareN_len (NS : List Nd) : (bareN NS).length = NS.length := by unfold bareN; simp
theorem bareN_succ {NS : List Nd} {j : Nat} {x : Nd} (h : NS[j]? = some x) : bareN (NS.take (j + 1)) = bareN (NS.take j) ++ [⟨x.lab, ⟨#[]⟩, ⟨0, 0, ⟨#[]⟩⟩, ⟨0, 0, ⟨#[]⟩⟩⟩] := by
  rw [List.take_add_one, h]
  unfold bareN
  simp
theorem bareN_ok {NS : List Nd} (h : ∀ x ∈ NS, x.Ok) : ∀ x ∈ bareN NS, x.Ok := fun x hx => by
  unfold bareN at hx
  obtain ⟨y, hy, rfl⟩ := List.mem_map.1 hx
  have h0 : Vl.Ok ⟨0, 0, ⟨#[]⟩⟩ := ⟨by show I64 0; unfold I64; omega, by show I64 0; unfold I64; omega, by show (0 : Nat) ≤ _; omega⟩
  exact ⟨(h y hy).1, by show (0 : Nat) ≤ _; omega, h0, h0⟩
theorem lessK_ok {LS : List Lk} {k : Nat} (h : ∀ x ∈ LS, x.Ok) : ∀ x ∈ LS.take k ++ LS.drop (k + 1), x.Ok := fun x hx => by
  rcases List.mem_append.1 hx with hx | hx
  · exact h x (List.mem_of_mem_take hx)
  · exact h x (List.mem_of_mem_drop hx)
/-- the links left, as far as they have come -/
structure LsI (w5 u : World) (v : Value) (X : List Lk) : Prop where
  o : kLk.Own u w5.heap.size v X
  bel : Below w5.heap.size w5 u
/-- the same, the pattern's box laid -/
structure LsB (w5 u : World) (v : Value) (X : List Lk) (tb : Nat) : Prop where
  i : LsI w5 u v X
  blk : u.heap[tb]? = some (.cells #[.slice none 0 0, .slice none 0 0] 116 (0, 0))
  tb5 : w5.heap.size ≤ tb
theorem LsI.step {w5 u u' : World} {v v' : Value} {X Y : List Lk} (h : LsI w5 u v X) (hA : kLk.App u w5.heap.size v (X ++ Y) v' u') (n : Nat) (hn : (X ++ Y).length = n) : ∃ a c, v' = .slice a n c ∧ LsI w5 u' (.slice a n c) (X ++ Y) := by
  obtain ⟨a, c, e⟩ := hA.1.shape
  rw [hn] at e
  subst e
  exact ⟨a, c, rfl, hA.1, app_below h.o hA h.bel (Nat.le_refl _) (Nat.le_refl _)⟩
theorem LsB.step {w5 u u' : World} {v v' : Value} {X Y : List Lk} {tb : Nat} (h : LsB w5 u v X tb) (hA : kLk.App u w5.heap.size v (X ++ Y) v' u') (n : Nat) (hn : (X ++ Y).length = n) : ∃ a c, v' = .slice a n c ∧ LsB w5 u' (.slice a n c) (X ++ Y) tb := by
  obtain ⟨a, c, e, h2⟩ := h.i.step hA n hn
  exact ⟨a, c, e, h2, (hA.2.1.block tb (Array.getElem?_eq_some_iff.1 h.blk).1 (fun e => own_ne_tb h.i.o h.blk (by decide) tb e.symm rfl)).trans h.blk, h.tb5⟩
theorem LsI.alloc {w5 u : World} {v : Value} {X : List Lk} (h : LsI w5 u v X) : LsB w5 (u.alloc (.cells #[.slice none 0 0, .slice none 0 0] 116)) v X u.heap.size :=
  ⟨⟨h.o.alloc _, below_then h.bel (below_box _ _)⟩, heap_new _ _, h.bel.size⟩
theorem LsB.facts {w5 u : World} {v : Value} {X : List Lk} {tb : Nat} (h : LsB w5 u v X tb) : u.cell? ⟨tb, 0, none⟩ = some (.slice none 0 0) ∧ u.cell? ⟨tb, 1, none⟩ = some (.slice none 0 0) ∧ u.frozen? ⟨tb, 0, none⟩ = false ∧ u.frozen? ⟨tb, 1, none⟩ = false ∧ tb < u.heap.size :=
  ⟨by rw [cell_of_blk h.blk]; rfl, by rw [cell_of_blk h.blk]; rfl, frozen_of_blk h.blk 0, frozen_of_blk h.blk 1, (Array.getElem?_eq_some_iff.1 h.blk).1⟩
theorem LsB.fin {w5 u : World} {a : Option Addr} {n c : Nat} {X : List Lk} {tb : Nat} (h : LsB w5 u (.slice a n c) X tb) (hn : X.length = n) :
    TnI w5 ((u.setCell ⟨tb, 0, none⟩ (.slice none 0 0)).setCell ⟨tb, 1, none⟩ (.slice a n c)) tb [] X none a 0 c := by
  subst hn
  have hne := own_ne_tb h.i.o h.blk (by decide)
  have hc : Chg u ((u.setCell ⟨tb, 0, none⟩ (.slice none 0 0)).setCell ⟨tb, 1, none⟩ (.slice a X.length c)) (fun i => i = tb) := ((Chg.refl u (fun i => i = tb)).setCell (p := ⟨tb, 0, none⟩) (fun _ => rfl) _).setCell (p := ⟨tb, 1, none⟩) (fun _ => rfl) _
  refine ⟨?_, RowK.Own.nil kNd _ _, RowK.Own.chg h.i.o hc (fun j hj e => hne j hj e), ?_, h.tb5⟩
  · rw [blk_setCell (blk_setCell h.blk _)]
    simp
  · exact h.i.bel.trans ((Below.setCell (p := ⟨tb, 1, none⟩) (Below.setCell (p := ⟨tb, 0, none⟩) (Below.refl _ _) h.tb5 _) h.tb5 _))
theorem LsI.fin {w5 u : World} {a : Option Addr} {n c : Nat} {X : List Lk} (h : LsI w5 u (.slice a n c) X) (hn : X.length = n) :
    TnI w5 (u.alloc (.cells #[.slice none 0 0, .slice a n c] 116)) u.heap.size [] X none a 0 c := by
  subst hn
  exact ⟨heap_new _ _, RowK.Own.nil kNd _ _, h.o.alloc _, below_then h.bel (below_box _ _), h.bel.size⟩
theorem ls_emp {w5 u : World} {b : Nat} (hu : Below w5.heap.size w5 u) (hb : u.heap[b]? = some (.cells #[] 128 (0, 0))) (hbw : w5.heap.size ≤ b) : LsI w5 u (.slice (some ⟨b, 0, none⟩) 0 0) [] :=
  ⟨RowK.Own.new (k := kLk) (l := []) hb hbw rfl (Nat.zero_le _), hu⟩
set_option maxRecDepth 100000 in
set_option maxHeartbeats 16000000 in
theorem mless_law (va ea na la : Option Addr) (vc ec nc lc : Nat) (VL : List Vr) (EL : List Er) (NS : List Nd) (LS : List Lk) (n : Int) (w : World) (h1 : kVr.V w va VL) (h2 : kEr.V w ea EL) (h3 : ∀ x ∈ VL, VrOk w x) (h4 : ∀ x ∈ EL, ErOk w x) (h5 : kNd.V w na NS) (h6 : kLk.V w la LS) (on : ∀ x ∈ NS, x.Ok) (ol : ∀ x ∈ LS, x.Ok) (g1 : NS.length ≤ maxLen) (g2 : LS.length ≤ maxLen) (g3 : LS.length ≤ lc) :
    Calls Tryz.prog 9 #[.agg #[.slice va VL.length vc, .slice ea EL.length ec], .agg #[.slice na NS.length nc, .slice la LS.length lc], .int .i64 n] w fun e w' => e = .returned (.bool true) ∧ Below w.heap.size w w' := by
  have HLC : Hid (LS.length ≤ lc) := Lib.hid g3
  clear g3
  obtain ⟨nv, hnv⟩ : ∃ n, n = VL.length := ⟨_, rfl⟩
  obtain ⟨ne, hne⟩ : ∃ n, n = EL.length := ⟨_, rfl⟩
  obtain ⟨nn, hnn⟩ : ∃ n, n = NS.length := ⟨_, rfl⟩
  obtain ⟨nl, hnl⟩ : ∃ n, n = LS.length := ⟨_, rfl⟩
  have HNV := Lib.hid hnv
  have HNE := Lib.hid hne
  have HNN := Lib.hid hnn
  have HNL := Lib.hid hnl
  have HSM : Hid (∀ u, Below w.heap.size w u → Calls Tryz.prog 47 #[.agg #[.slice va nv vc, .slice ea ne ec]] u (fun e w' => e = .returned (.bool (small8B VL EL)) ∧ Below u.heap.size u w')) := Lib.hid (fun u hu => by rw [hnv, hne]; exact small18_any va ea vc ec VL EL u (h1.below hu) (h2.below hu))
  have HPA : Hid (∀ u, Below w.heap.size w u → Calls Tryz.prog 48 #[.agg #[.slice na nn nc, .slice la nl lc]] u (fun e w' => e = .returned (.bool (smallPat NS LS)) ∧ Below u.heap.size u w')) := Lib.hid (fun u hu => by rw [hnn, hnl]; exact pattern18_any na la nc lc NS LS u (h5.below hu) (h6.below hu) g1 g2)
  have HPT : Hid (small8B VL EL = true → PtIn w va ea VL EL) := Lib.hid (fun hs => ptIn8_of h1 h2 h3 h4 hs)
  have HQT : Hid (∀ u, Below w.heap.size w u → kNd.V u na NS ∧ kLk.V u la LS) := Lib.hid (fun u hu => ⟨h5.below hu, h6.below hu⟩)
  have HQB : Hid ((∀ b off, na = some ⟨b, off, none⟩ → NS ≠ [] → b < w.heap.size) ∧ ∀ b off, la = some ⟨b, off, none⟩ → LS ≠ [] → b < w.heap.size) := Lib.hid ⟨fun b off e hne => by
    obtain ⟨b', off', e', hat⟩ := h5 hne
    rw [e] at e'
    cases e'
    exact hat.lt, fun b off e hne => by
    obtain ⟨b', off', e', hat⟩ := h6 hne
    rw [e] at e'
    cases e'
    exact hat.lt⟩
  have HQO : Hid ((∀ x ∈ NS, x.Ok) ∧ ∀ x ∈ LS, x.Ok) := Lib.hid ⟨on, ol⟩
  rw [← hnv, ← hne, ← hnn, ← hnl]
  clear hnv hne hnn hnl h1 h2 h3 h4 h5 h6 on ol g1 g2
  obtain ⟨pb, hpb⟩ : ∃ pb, pb = w.heap.size := ⟨_, rfl⟩
  obtain ⟨qb, hqb⟩ : ∃ qb, qb = w.heap.size + 1 := ⟨_, rfl⟩
  obtain ⟨W, hW⟩ : ∃ W, W = (w.alloc (.cells #[.slice va nv vc, .slice ea ne ec] 112)).alloc (.cells #[.slice na nn nc, .slice la nl lc] 116) := ⟨_, rfl⟩
  have HWW : Hid (Below w.heap.size w W) := Lib.hid (by rw [hW]; exact below_then (below_box _ _) (below_box _ _))
  have HBX : Hid (∀ u, Below W.heap.size W u → (u.cell? ⟨pb, 0, none⟩ = some (.slice va nv vc) ∧ u.cell? ⟨pb, 1, none⟩ = some (.slice ea ne ec) ∧ pb < u.heap.size) ∧ u.cell? ⟨qb, 0, none⟩ = some (.slice na nn nc) ∧ u.cell? ⟨qb, 1, none⟩ = some (.slice la nl lc) ∧ qb < u.heap.size) := Lib.hid (fun u hu => by
    have p1 : W.heap[pb]? = some (.cells #[.slice va nv vc, .slice ea ne ec] 112 (0, 0)) := by rw [hW, hpb]; exact (Below.heap_alloc _ _ _ (by simp)).trans (heap_new w _)
    have p2 : W.heap[qb]? = some (.cells #[.slice na nn nc, .slice la nl lc] 116 (0, 0)) := by rw [hW, hqb]; exact heap_new2 w _ _
    have q1 := (hu.block _ (Array.getElem?_eq_some_iff.1 p1).1).trans p1
    have q2 := (hu.block _ (Array.getElem?_eq_some_iff.1 p2).1).trans p2
    exact ⟨⟨by rw [cell_of_blk q1]; rfl, by rw [cell_of_blk q1]; rfl, (Array.getElem?_eq_some_iff.1 q1).1⟩, by rw [cell_of_blk q2]; rfl, by rw [cell_of_blk q2]; rfl, (Array.getElem?_eq_some_iff.1 q2).1⟩)
  have HW := Lib.hid hW.symm
  have HE := Lib.hid (And.intro hpb.symm hqb.symm)
  clear hW hpb hqb
  go_enter Tryz.func9, Tryz.ntmps9
  go_wp2_with fail
  rw [HW.out, HE.out.2, HE.out.1]
  refine (awake18_any W).mono ?_
  rintro e w1 ⟨rfl, b1⟩
  have HBL := Lib.hid b1
  obtain ⟨⟨p0, p1, pl⟩, q0, q1, ql⟩ := HBX.out w1 b1
  clear b1
  go_wp2_with fail
  refine (HSM.out w1 (below_then HWW.out HBL.out)).mono ?_
  rintro e w2 ⟨rfl, b2⟩
  replace HBL : Hid (Below W.heap.size W w2) := Lib.hid (below_then HBL.out b2)
  clear b2 p0 p1 pl q0 q1 ql
  cases hs : small8B VL EL
  case false =>
    clear hs
    go_wp2_with fail
    refine (awake18_any _).mono ?_
    rintro e w9 ⟨rfl, b9⟩
    have HB9 : Hid (Below W.heap.size W w9) := Lib.hid (below_then HBL.out b9)
    clear b9
    go_wp2_with fail
    go_ret
    exact ⟨rfl, below_then HWW.out HB9.out⟩
  have HS := Lib.hid hs
  clear hs
  obtain ⟨⟨p0, p1, pl⟩, q0, q1, ql⟩ := HBX.out w2 HBL.out
  go_wp2_with fail
  refine (HPA.out w2 (below_then HWW.out HBL.out)).mono ?_
  rintro e w3 ⟨rfl, b3⟩
  replace HBL : Hid (Below W.heap.size W w3) := Lib.hid (below_then HBL.out b3)
  clear b3 p0 p1 pl q0 q1 ql
  cases hs : smallPat NS LS
  case false =>
    clear hs
    go_wp2_with fail
    refine (awake18_any _).mono ?_
    rintro e w9 ⟨rfl, b9⟩
    have HB9 : Hid (Below W.heap.size W w9) := Lib.hid (below_then HBL.out b9)
    clear b9
    go_wp2_with fail
    go_ret
    exact ⟨rfl, below_then HWW.out HB9.out⟩
  have HSP := Lib.hid (smallPat_len hs)
  clear hs
  obtain ⟨⟨p0, p1, pl⟩, q0, q1, ql⟩ := HBX.out w3 HBL.out
  have hnn9 : nn ≤ 1000 := by have := HSP.out; have := HNN.out; omega
  by_cases h4 : 4 < nn
  · have t1 : decide ((4 : Int) < (nn : Int)) = true := decide_eq_true (by omega)
    have t1' : decide (4 < nn) = true := decide_eq_true h4
    clear h4
    go_wp2_with fail
    refine (awake18_any _).mono ?_
    rintro e w9 ⟨rfl, b9⟩
    have HB9 : Hid (Below W.heap.size W w9) := Lib.hid (below_then HBL.out b9)
    clear b9
    go_wp2_with fail
    go_ret
    exact ⟨rfl, below_then HWW.out HB9.out⟩
  have t1 : decide ((4 : Int) < (nn : Int)) = false := decide_eq_false (by omega)
  have t1' : decide (4 < nn) = false := decide_eq_false h4
  have HN4 : Hid (nn ≤ 4) := Lib.hid (by omega)
  obtain ⟨rt, hrt⟩ : ∃ b, b = rightPat NS LS := ⟨_, rfl⟩
  have HRT := Lib.hid hrt
  have HRR : Hid (∀ u, Below W.heap.size W u → Calls Tryz.prog 49 #[.agg #[.slice na nn nc, .slice la nl lc]] u fun e w' => e = .returned (.bool rt) ∧ Below u.heap.size u w') := Lib.hid (fun u hu => by
    obtain ⟨h5, h6⟩ := HQT.out u (below_then HWW.out hu)
    rw [HNN.out, HNL.out, hrt]
    exact r18right_any na la nc lc NS LS u h5 h6 HQO.out.1 HQO.out.2 (by have := HSP.out; omega) (by have := HSP.out; omega))
  clear h4 hrt
  go_wp2_with fail
  refine (HRR.out w3 HBL.out).mono ?_
  rintro e w4 ⟨rfl, b4⟩
  replace HBL : Hid (Below W.heap.size W w4) := Lib.hid (below_then HBL.out b4)
  clear b4 p0 p1 pl q0 q1 ql t1 t1'
  cases rt
  case false =>
    go_wp2_with fail
    refine (awake18_any _).mono ?_
    rintro e w9 ⟨rfl, b9⟩
    have HB9 : Hid (Below W.heap.size W w9) := Lib.hid (below_then HBL.out b9)
    clear b9
    go_wp2_with fail
    go_ret
    exact ⟨rfl, below_then HWW.out HB9.out⟩
  obtain ⟨⟨p0, p1, pl⟩, q0, q1, ql⟩ := HBX.out w4 HBL.out
  have hnl9 : nl ≤ 1000 := by have := HSP.out; have := HNL.out; omega
  by_cases h0 : nl = 0
  · have t1 : ((nl : Int) == 0) = true := by simp; omega
    have t1' : (nl == 0) = true := by simp; omega
    clear h0
    go_wp2_with fail
    refine (awake18_any _).mono ?_
    rintro e w9 ⟨rfl, b9⟩
    have HB9 : Hid (Below W.heap.size W w9) := Lib.hid (below_then HBL.out b9)
    clear b9
    go_wp2_with fail
    go_ret
    exact ⟨rfl, below_then HWW.out HB9.out⟩
  have t1 : ((nl : Int) == 0) = false := by simp; omega
  have t1' : (nl == 0) = false := by simp; omega
  have HL1 : Hid (1 ≤ nl) := Lib.hid (by omega)
  clear h0
  go_wp2_with fail
  have HBT := built18_any va ea vc ec VL EL w4 ((HPT.out HS.out).below (below_then HWW.out HBL.out))
  rw [← HNV.out, ← HNE.out] at HBT
  refine HBT.mono ?_
  rintro e w5 ⟨gb, vb, eb, rb, B, rfl, hg, hr, b5⟩
  have hlen := built_len8 HS.out
  obtain ⟨V, hV⟩ : ∃ V, V = adV [] (VL.map Vr.v) := ⟨_, rfl⟩
  rw [← hV] at hg hr hlen
  obtain ⟨E, hE⟩ : ∃ E, E = adE V [] (EL.map Er.e) := ⟨_, rfl⟩
  rw [← hE] at hg hr hlen
  have HG := Lib.hid hg
  have HR := Lib.hid hr
  have HLN := Lib.hid hlen
  replace HBL : Hid (Below W.heap.size W w5) := Lib.hid (below_then HBL.out b5)
  clear hV hE hg hr hlen b5 HBT p0 p1 pl q0 q1 ql
  have HQC : Hid (∀ u, Below w5.heap.size w5 u → u.cell? ⟨qb, 0, none⟩ = some (.slice na nn nc) ∧ u.cell? ⟨qb, 1, none⟩ = some (.slice la nl lc) ∧ qb < u.heap.size) := Lib.hid (fun u hu => (HBX.out u (below_then HBL.out hu)).2)
  have HQU : Hid (∀ u, Below w5.heap.size w5 u → kNd.V u na NS ∧ kLk.V u la LS) := Lib.hid (fun u hu => HQT.out u (below_then HWW.out (below_then HBL.out hu)))
  have HFIN : Hid (∀ u, Below w5.heap.size w5 u → Below w.heap.size w u) := Lib.hid (fun u hu => below_then HWW.out (below_then HBL.out hu))
  have HN1 : Hid (1 ≤ nn ∧ nl ≤ 16) := Lib.hid (by have := rightPat_iff.1 HRT.out.symm; have := HNN.out; have := HNL.out; omega)
  obtain ⟨q0, q1, ql⟩ := HQC.out w5 (Below.refl _ _)
  have hnp : (0 : Int) < (nl : Int) := by have := HL1.out; omega
  have m1 := Int.lt_tmod_of_pos n hnp
  have m2 := Int.tmod_lt_of_pos n hnp
  obtain ⟨K, hK⟩ : ∃ K : Nat, (n.tmod nl + nl) % nl = (K : Int) := ⟨((n.tmod nl + nl) % nl).toNat, by have := Int.emod_nonneg (n.tmod nl + nl) (show (nl : Int) ≠ 0 by omega); omega⟩
  have hK3 : (n.tmod nl + nl).tmod nl = (K : Int) := by rw [Int.tmod_eq_emod_of_nonneg (by omega)]; exact hK
  have HK : Hid (K < nl) := Lib.hid (by have := Int.emod_lt_of_pos (n.tmod nl + nl) hnp; omega)
  have hz : ((nl : Int) == 0) = false := by simp; omega
  have hz2 : (nl : Int) ≠ 0 := by omega
  have hz3 : nl ≠ 0 := by omega
  have w1 : IntKind.i64.wrap (n.tmod nl) = n.tmod nl := IntWalk.i64_in _ (by omega)
  have w2 : IntKind.i64.wrap (n.tmod nl + nl) = n.tmod nl + nl := IntWalk.i64_in _ (by omega)
  have w3' : IntKind.i64.wrap (K : Int) = K := IntWalk.i64_in _ (by have := HK.out; omega)
  go_upto_region 4 with fail
  go_quiet (fail)
  go_upto_region 5 with fail
  obtain ⟨wq, hwq⟩ : ∃ u, u = w5.drewN nq := ⟨_, rfl⟩
  rw [← hwq]
  have hbq : Below w5.heap.size w5 wq := by rw [hwq]; exact below_drewN (Below.refl _ _) _
  clear q0 q1 ql hwq
  obtain ⟨q0, q1, ql⟩ := HQC.out wq hbq
  clear m1 m2 hK hK3 hz hz2 hz3 w1 w2 w3' hnp t1 t1'
  obtain ⟨pa, hpa⟩ : ∃ a, a = kLk.pfx la lc := ⟨_, rfl⟩
  obtain ⟨sa, hsa⟩ : ∃ a, a = kLk.sfx la lc (K + 1) := ⟨_, rfl⟩
  obtain ⟨n6, hn6⟩ : ∃ m, m = nl - (K + 1) := ⟨_, rfl⟩
  obtain ⟨c6, hc6⟩ : ∃ m, m = lc - (K + 1) := ⟨_, rfl⟩
  obtain ⟨ny, hny⟩ : ∃ m, m = K + n6 := ⟨_, rfl⟩
  have HTL : Hid ((LS.take K).length = K ∧ (LS.drop (K + 1)).length = n6 ∧ (LS.take K ++ LS.drop (K + 1)).length = ny ∧ K ≤ 16 ∧ n6 ≤ 16 ∧ ny ≤ 16) := Lib.hid (by have := HN1.out; have := HK.out; have := HNL.out; simp; omega)
  have hlc : nl ≤ lc := by have := HLC.out; have := HNL.out; omega
  have s1 : ∀ u : World, (Instr.sliceAt 114 (.slice la nl lc) none (some (.int .i64 (K : Int))) none).run Tryz.prog u = .ok (.slice pa K lc) u := fun u => by rw [hpa]; exact kLk.run_pfx la lc nl K (by have := HK.out; omega) u
  have s2 : ∀ u : World, (Instr.sliceAt 114 (.slice la nl lc) (some (.int .i64 ((K : Int) + 1))) none none).run Tryz.prog u = .ok (.slice sa n6 c6) u := fun u => by
    have h := kLk.run_sfx la lc nl (K + 1) (by have := HK.out; omega) u
    rw [hsa, hn6, hc6]
    push_cast at h
    exact h
  have s3 : IntKind.i64.wrap ((K : Int) + 1) = (K : Int) + 1 := IntWalk.i64_in _ (by have := HTL.out; omega)
  have HVP : Hid (∀ u, Below w5.heap.size w5 u → kLk.V u pa (LS.take K) ∧ kLk.V u sa (LS.drop (K + 1))) := Lib.hid (fun u hu => by
    have h := (HQU.out u hu).2
    rw [hpa, hsa]
    exact ⟨h.take K lc, h.drop HLC.out⟩)
  have hla : la = none → lc = 0 := fun e => by
    have h := (HQU.out w5 (Below.refl _ _)).2 (fun e => by have := HL1.out; have := HNL.out; rw [e] at this; simp at this; omega)
    obtain ⟨_, _, h, _⟩ := h
    rw [e] at h
    cases h
  have HPN : Hid ((pa = none → lc = 0) ∧ (sa = none → c6 = 0)) := Lib.hid ⟨fun e => by rw [hpa] at e; exact RowK.pfx_none hla e, fun e => by rw [hsa] at e; rw [hc6]; exact RowK.sfx_none hla e⟩
  have hdr : ∀ X, Below w5.heap.size w5 (wq.drew.alloc X) := fun X => below_then (below_then hbq (below_drewN (Below.refl _ _) 1)) (below_box _ X)
  have EA : Hid (LsI w5 (wq.drew.alloc (.cells #[] 128)) (.slice (some ⟨wq.heap.size, 0, none⟩) 0 0) []) := Lib.hid (ls_emp (hdr _) (heap_new wq.drew _) hbq.size)
  have EB : Hid (LsB w5 ((wq.drew.alloc (.cells #[.slice none 0 0, .slice none 0 0] 116)).alloc (.cells #[] 128)) (.slice (some ⟨wq.heap.size + 1, 0, none⟩) 0 0) [] wq.heap.size) := Lib.hid ⟨ls_emp (below_then (hdr _) (below_box _ _)) (heap_new2 wq.drew _ _) (by have := hbq.size; omega), (Below.heap_alloc _ _ _ (by simp)).trans (heap_new wq.drew _), hbq.size⟩
  have EC : Hid (LsB w5 ((wq.drew.alloc (.cells #[] 128)).alloc (.cells #[.slice none 0 0, .slice none 0 0] 116)) (.slice (some ⟨wq.heap.size, 0, none⟩) 0 0) [] (wq.heap.size + 1)) := Lib.hid ⟨ls_emp (below_then (hdr _) (below_box _ _)) ((Below.heap_alloc _ _ _ (by simp)).trans (heap_new wq.drew _)) hbq.size, heap_new2 wq.drew _ _, by have := hbq.size; omega⟩
  clear hdr hbq hla hpa hsa hn6 hc6 hny
  go_cut [10] from 71 to 83 (fun s10 wc => ∃ (tb : Nat) (ya : Option Addr) (yc : Nat) (u : World), s10 = .pointer (some ⟨tb, 0, none⟩) ∧ u = wc ∧ Hid (TnI w5 u tb [] (LS.take K ++ LS.drop (K + 1)) none ya 0 yc))
  case first =>
    go_region_law (first
      | (refine RowK.step_app (k := kLk) (B := w5.heap.size) (l := []) rfl (.tmp 71) (.tmp 75) rfl rfl EA.out.o pa K (LS.take K) lc rfl HTL.out.1 (HVP.out _ EA.out.bel).1 HPN.out.1 (by have := HTL.out; have := HN1.out; have := HNL.out; simp; omega) EA.out.bel.size ?_; intro v8 w8 hA; obtain ⟨a8, c8, hv8, hE⟩ := EA.out.step hA K HTL.out.1; subst hv8; have LI8 := Lib.hid (show LsI w5 w8 (.slice a8 K c8) (LS.take K) from hE); obtain ⟨r0, r1, rl⟩ := HQC.out w8 hE.bel; clear hA hE)
      | (refine RowK.step_app (k := kLk) (B := w5.heap.size) (l := []) rfl (.tmp 71) (.tmp 75) rfl rfl EB.out.i.o pa K (LS.take K) lc rfl HTL.out.1 (HVP.out _ EB.out.i.bel).1 HPN.out.1 (by have := HTL.out; have := HN1.out; have := HNL.out; simp; omega) EB.out.i.bel.size ?_; intro v8 w8 hA; obtain ⟨a8, c8, hv8, hE⟩ := EB.out.step hA K HTL.out.1; subst hv8; have LB8 := Lib.hid (show LsB w5 w8 (.slice a8 K c8) (LS.take K) _ from hE); obtain ⟨r0, r1, rl⟩ := HQC.out w8 hE.i.bel; clear hA hE)
      | (refine RowK.step_app (k := kLk) (B := w5.heap.size) (l := []) rfl (.tmp 71) (.tmp 75) rfl rfl EC.out.i.o pa K (LS.take K) lc rfl HTL.out.1 (HVP.out _ EC.out.i.bel).1 HPN.out.1 (by have := HTL.out; have := HN1.out; have := HNL.out; simp; omega) EC.out.i.bel.size ?_; intro v8 w8 hA; obtain ⟨a8, c8, hv8, hE⟩ := EC.out.step hA K HTL.out.1; subst hv8; have LB8 := Lib.hid (show LsB w5 w8 (.slice a8 K c8) (LS.take K) _ from hE); obtain ⟨r0, r1, rl⟩ := HQC.out w8 hE.i.bel; clear hA hE)
      | (refine RowK.step_app (k := kLk) (B := w5.heap.size) (l := LS.take K) rfl (.tmp 76) (.tmp 81) rfl rfl LI8.out.o sa n6 (LS.drop (K + 1)) c6 rfl HTL.out.2.1 (HVP.out _ LI8.out.bel).2 HPN.out.2 (by have := HTL.out; have := HN1.out; have := HNL.out; simp; omega) LI8.out.bel.size ?_; intro v8 w9 hA; obtain ⟨a9, c9, hv8, hE⟩ := LI8.out.step hA ny HTL.out.2.2.1; subst hv8; have LI9 := Lib.hid hE; clear hA hE)
      | (refine RowK.step_app (k := kLk) (B := w5.heap.size) (l := LS.take K) rfl (.tmp 76) (.tmp 81) rfl rfl (LI8.out.alloc).i.o sa n6 (LS.drop (K + 1)) c6 rfl HTL.out.2.1 (HVP.out _ (LI8.out.alloc).i.bel).2 HPN.out.2 (by have := HTL.out; have := HN1.out; have := HNL.out; simp; omega) (LI8.out.alloc).i.bel.size ?_; intro v8 w9 hA; obtain ⟨a9, c9, hv8, hE⟩ := (LI8.out.alloc).step hA ny HTL.out.2.2.1; subst hv8; have LB9 := Lib.hid hE; obtain ⟨y0, y1, g0, g1, zr⟩ := hE.facts; clear hA hE)
      | (refine RowK.step_app (k := kLk) (B := w5.heap.size) (l := LS.take K) rfl (.tmp 76) (.tmp 81) rfl rfl LB8.out.i.o sa n6 (LS.drop (K + 1)) c6 rfl HTL.out.2.1 (HVP.out _ LB8.out.i.bel).2 HPN.out.2 (by have := HTL.out; have := HN1.out; have := HNL.out; simp; omega) LB8.out.i.bel.size ?_; intro v8 w9 hA; obtain ⟨a9, c9, hv8, hE⟩ := LB8.out.step hA ny HTL.out.2.2.1; subst hv8; have LB9 := Lib.hid hE; obtain ⟨y0, y1, g0, g1, zr⟩ := hE.facts; clear hA hE)
      | fail)
    all_goals
      go_wp2_with fail
      go_meet
      first
        | exact ⟨_, _, _, _, rfl, rfl, Lib.hid (LI9.out.fin HTL.out.2.2.1)⟩
        | exact ⟨_, _, _, _, rfl, rfl, Lib.hid (LB9.out.fin HTL.out.2.2.1)⟩
  case rest =>
  obtain ⟨tb, ya, yc, w6, rfl, rfl, HT0⟩ := hcut
  clear s1 s2 s3 hlc
  go_wp2_with fail
  go_loopw [11] (fun i wr => ∃ (j : Nat) (xa : Option Addr) (xc : Nat), i = .int .i64 j ∧ j ≤ nn ∧ Hid (TnI w5 wr tb (bareN (NS.take j)) (LS.take K ++ LS.drop (K + 1)) xa ya xc yc)) (fun i _ => nn - (intOf i).toNat)
  case atStart => exact ⟨0, none, 0, rfl, Nat.zero_le _, Lib.hid (by rw [List.take_zero]; exact HT0.out)⟩
  case round =>
    clear HT0
    obtain ⟨j, xa, xc, rfl, hj, HT⟩ := hrel
    obtain ⟨wo, rfl⟩ : ∃ wo : World, wo = wr := ⟨_, rfl⟩
    have hj9 : j ≤ 1000 := by have := HN4.out; omega
    have HBN : Hid ((bareN (NS.take j)).length = j) := Lib.hid (by rw [bareN_len, List.length_take]; have := HNN.out; omega)
    by_cases hlt : j < nn
    · obtain ⟨x, hx⟩ : ∃ x, NS[j]? = some x := ⟨_, List.getElem?_eq_getElem (by rw [← HNN.out]; exact hlt)⟩
      have HX : Hid (NS[j]? = some x) := Lib.hid hx
      obtain ⟨b, off, hnaeq, hat⟩ := (HQU.out wo HT.out.bel).1 (fun e => by rw [e] at hx; simp at hx)
      obtain ⟨x0, _⟩ := kNd_cells hat hx
      have xl := hat.lt
      obtain ⟨q0, q1, ql⟩ := HQC.out wo HT.out.bel
      rw [hnaeq] at q0
      have z0 : wo.cell? ⟨tb, 0, none⟩ = some (.slice xa j xc) := by rw [cell_of_blk HT.out.blk, HBN.out]; rfl
      have zl := HT.out.lt
      have hPi : (j : Int) < (nn : Int) := by omega
      obtain ⟨lab, key, low, high⟩ := x
      simp only at x0
      have HJ := Lib.hid hlt
      have HU8 : Hid (TnI w5 (wo.drew.alloc (.cells #[.string lab, .string ⟨#[]⟩, .int .i64 0, .int .i64 0, .string ⟨#[]⟩, .int .i64 0, .int .i64 0, .string ⟨#[]⟩] 100)) tb (bareN (NS.take j)) (LS.take K ++ LS.drop (K + 1)) xa ya xc yc) := Lib.hid ((HT.out.below (below_drewN (Below.refl _ _) 1)).below (below_box _ _))
      have HO8 : Hid (kNd.Own (wo.drew.alloc (.cells #[.string lab, .string ⟨#[]⟩, .int .i64 0, .int .i64 0, .string ⟨#[]⟩, .int .i64 0, .int .i64 0, .string ⟨#[]⟩] 100)) w5.heap.size (.slice xa j xc) (bareN (NS.take j))) := Lib.hid (by have := HU8.out.ox; rw [HBN.out] at this; exact this)
      have HV8 : Hid (kNd.V (wo.drew.alloc (.cells #[.string lab, .string ⟨#[]⟩, .int .i64 0, .int .i64 0, .string ⟨#[]⟩, .int .i64 0, .int .i64 0, .string ⟨#[]⟩] 100)) (some ⟨wo.drew.heap.size, 0, none⟩) [⟨lab, ⟨#[]⟩, ⟨0, 0, ⟨#[]⟩⟩, ⟨0, 0, ⟨#[]⟩⟩⟩]) := Lib.hid (fun _ => ⟨_, 0, rfl, RowK.new_at (k := kNd) (heap_new _ _) (by simp [RowK.cells, kNd, Nd.enc])⟩)
      have HB8 : Hid (w5.heap.size ≤ (wo.drew.alloc (.cells #[.string lab, .string ⟨#[]⟩, .int .i64 0, .int .i64 0, .string ⟨#[]⟩, .int .i64 0, .int .i64 0, .string ⟨#[]⟩] 100)).heap.size) := Lib.hid HU8.out.bel.size
      clear hx hat hnaeq hlt
      go_upto_region 9 with fail
      go_region_law (first
        | (refine RowK.step_app (k := kNd) (B := w5.heap.size) (v := .slice xa j xc) (l := bareN (NS.take j)) rfl (.tmp 92) (.tmp 100) rfl rfl HO8.out (some ⟨wo.drew.heap.size, 0, none⟩) 1 [⟨lab, ⟨#[]⟩, ⟨0, 0, ⟨#[]⟩⟩, ⟨0, 0, ⟨#[]⟩⟩⟩] 1 rfl rfl HV8.out (fun e => by cases e) (by have := HJ.out; rw [HBN.out]; simp; omega) HB8.out ?_; intro v8 w8 hA; obtain ⟨a8, c8, hv8⟩ := hA.1.shape; rw [List.length_append, List.length_singleton, HBN.out] at hv8; subst hv8; have hE := HU8.out.pushX (xa' := a8) (xc' := c8) (u' := w8) (x := ⟨lab, ⟨#[]⟩, ⟨0, 0, ⟨#[]⟩⟩, ⟨0, 0, ⟨#[]⟩⟩⟩) (by rw [HBN.out]; exact hA); have y0 := (World.cell?_of_block (a := ⟨tb, 0, none⟩) hE.1).trans (cell_of_blk HU8.out.blk 0); have g0 := frozen_of_blk (hE.1.trans HU8.out.blk) 0; have zr : tb < w8.heap.size := (Array.getElem?_eq_some_iff.1 (hE.1.trans HU8.out.blk)).1; have HE : Hid (TnI w5 (w8.setCell ⟨tb, 0, none⟩ (.slice a8 (j + 1) c8)) tb (bareN (NS.take (j + 1))) (LS.take K ++ LS.drop (K + 1)) a8 ya c8 yc) := Lib.hid (by rw [bareN_succ HX.out]; have h := hE.2; rw [HBN.out] at h; exact h); clear hA hE)
        | fail)
      all_goals
        go_wp2_with fail
        exact ⟨⟨j + 1, a8, c8, by go_num, HJ.out, HE⟩, by simp [intOf]; have := HJ.out; omega⟩
    · obtain rfl : j = nn := by omega
      clear hlt
      obtain ⟨q0, q1, ql⟩ := HQC.out wo HT.out.bel
      have HT1 : Hid (TnI w5 wo tb (bareN NS) (LS.take K ++ LS.drop (K + 1)) xa ya xc yc) := Lib.hid (by
        have h := HT.out
        rw [List.take_of_length_le (by rw [HNN.out]; exact Nat.le_refl _)] at h
        exact h)
      replace HT := HT1
      clear HT1
      replace HBN : Hid ((bareN NS).length = j) := Lib.hid (by rw [bareN_len, ← HNN.out])
      go_wp2_with fail
      refine (wnew_any gb 1073741824 wo).mono ?_
      rintro e w8 hp
      unfold WnPost at hp
      rw [if_neg (by omega)] at hp
      obtain ⟨rfl, hw⟩ := hp
      obtain ⟨wa, hwa⟩ : ∃ b, b = wo.heap.size := ⟨_, rfl⟩
      rw [← hwa] at hw ⊢
      have HA8 : Hid (WkS wo w8 wa gb (some 1073741824)) := Lib.hid hw
      have HWA : Hid (wa = wo.heap.size) := Lib.hid hwa
      clear hw hwa q0 q1 ql
      go_wp2_with fail
      refine (wnew_any gb 1073741824 w8).mono ?_
      rintro e w9 hp
      unfold WnPost at hp
      rw [if_neg (by omega)] at hp
      obtain ⟨rfl, hw⟩ := hp
      obtain ⟨wb, hwb⟩ : ∃ b, b = w8.heap.size := ⟨_, rfl⟩
      rw [← hwb] at hw ⊢
      have HA9 : Hid (WkS wo w9 wa gb (some 1073741824)) := Lib.hid (HA8.out.below hw.bel)
      have HB9 : Hid (WkS wo w9 wb gb (some 1073741824)) := Lib.hid ⟨HA8.out.bel.trans (hw.bel.mono HA8.out.bel.size), by have := HA8.out.bel.size; omega, hw.blk, hw.small⟩
      have HAB : Hid (wa < wb ∧ wb < w9.heap.size ∧ wo.heap.size ≤ wa) := Lib.hid ⟨by have := HA8.out.lt; omega, hw.lt, by rw [HWA.out]; exact Nat.le_refl _⟩
      have HG7 : Hid (GrC wo gb vb eb V E) := Lib.hid (HG.out.below HT.out.bel)
      have HW5 : Hid (w.heap.size ≤ w5.heap.size ∧ w5.heap.size ≤ wo.heap.size) := Lib.hid ⟨(HFIN.out _ (Below.refl _ _)).size, HT.out.bel.size⟩
      clear hw hwb
      have hB9 : Below w5.heap.size w5 w9 := HT.out.bel.trans (HA9.out.bel.mono HT.out.bel.size)
      obtain ⟨q0, q1, ql⟩ := HQC.out w9 hB9
      have HRA : Hid (Calls Tryz.prog 51 #[.pointer (some ⟨wa, 0, none⟩), .agg #[.slice na j nc, .slice la nl lc], .int .i64 4096] w9 (RnP wo w9 wa gb (some 1073741824) V E NS LS 4096)) := Lib.hid (by
        rw [HNN.out, HNL.out]
        exact mrun_any wo w9 wa gb vb eb V E na la nc lc NS LS (some 1073741824) 4096 HG7.out HA9.out (HQU.out w9 hB9).1 (HQU.out w9 hB9).2 (fun b off e hne => by have := HQB.out.1 b off e hne; have := HW5.out; have := HAB.out; omega) (fun b off e hne => by have := HQB.out.2 b off e hne; have := HW5.out; have := HAB.out; omega) HQO.out.1 HQO.out.2 HRT.out.symm (by omega) (by have := HLN.out; omega) (by have := HLN.out; omega))
      clear hB9
      go_wp2_with fail
      refine HRA.out.mono ?_
      rintro e w10 ⟨a1, c1, R1, code1, st1, rfl, hT1, hO1, hF1, hW1, hC1⟩
      obtain ⟨n1, hn1⟩ : ∃ k, k = R1.length := ⟨_, rfl⟩
      rw [← hn1]
      have HB10 : Hid (WkS wo w10 wb gb (some 1073741824)) := Lib.hid (HB9.out.chgM hC1 (fun e => by have := HAB.out.1; omega) (fun j e => by rw [e]; exact HAB.out.2.2))
      have HN1R : Hid (n1 = R1.length) := Lib.hid hn1
      have HO1 := Lib.hid hO1
      have HF1 := Lib.hid hF1
      have HT10 : Hid (TnI w5 w10 tb (bareN NS) (LS.take K ++ LS.drop (K + 1)) xa ya xc yc) := Lib.hid ⟨(hW1.bel.block _ HT.out.lt).trans HT.out.blk, ownsRow_of_block HT.out.ox (fun i hi => hW1.bel.block i (HT.out.ox.lt i hi).2), ownsRow_of_block HT.out.oy (fun i hi => hW1.bel.block i (HT.out.oy.lt i hi).2), HT.out.bel.trans (hW1.bel.mono HT.out.bel.size), HT.out.tb5⟩
      have HTR : Hid (rightPat (bareN NS) (LS.take K ++ LS.drop (K + 1)) = true) := Lib.hid (less_right HRT.out.symm)
      have HP1 : Hid ((code1 = 32 ∧ R1.map Ws.l = [] ∧ 4096 < (rowsP V E NS LS).length) ∨ (code1 = 0 ∧ R1.map Ws.l = rowsP V E NS LS ∧ (rowsP V E NS LS).length ≤ 4096)) := Lib.hid (runT_big HRT.out.symm HLN.out.1 HLN.out.2 hT1)
      have z0 : w10.cell? ⟨tb, 0, none⟩ = some (.slice xa j xc) := by rw [cell_of_blk HT10.out.blk, HBN.out]; rfl
      have z1 : w10.cell? ⟨tb, 1, none⟩ = some (.slice ya ny yc) := by rw [cell_of_blk HT10.out.blk, HTL.out.2.2.1]; rfl
      have zl := HT10.out.lt
      have HRB2 : Hid (Calls Tryz.prog 51 #[.pointer (some ⟨wb, 0, none⟩), .agg #[.slice xa j xc, .slice ya ny yc], .int .i64 4096] w10 (RnP wo w10 wb gb (some 1073741824) V E (bareN NS) (LS.take K ++ LS.drop (K + 1)) 4096)) := Lib.hid (by
        have h := mrun_any wo w10 wb gb vb eb V E xa ya xc yc (bareN NS) (LS.take K ++ LS.drop (K + 1)) (some 1073741824) 4096 HG7.out HB10.out HT10.out.ox.toV HT10.out.oy.toV
          (fun b off e _ e2 => by
            have h1 : (Value.slice xa (bareN NS).length xc).ownBlock = some b := by rw [e]; rfl
            have := (HT.out.ox.lt b h1).2
            have := HAB.out
            omega) (fun b off e _ e2 => by
            have h1 : (Value.slice ya (LS.take K ++ LS.drop (K + 1)).length yc).ownBlock = some b := by rw [e]; rfl
            have := (HT.out.oy.lt b h1).2
            have := HAB.out
            omega) (bareN_ok HQO.out.1) (lessK_ok HQO.out.2) HTR.out (by omega) (by have := HLN.out; omega) (by have := HLN.out; omega)
        rw [HBN.out, HTL.out.2.2.1] at h
        exact h)
      clear hT1 hO1 hF1 hW1 hC1 hn1 q0 q1 ql
      go_wp2_with fail
      refine HRB2.out.mono ?_
      rintro e w11 ⟨a2, c2, R2, code2, st2, rfl, hT2, hO2, hF2, hW2, hC2⟩
      obtain ⟨n2, hn2⟩ : ∃ k, k = R2.length := ⟨_, rfl⟩
      rw [← hn2]
      have HN2R : Hid (n2 = R2.length) := Lib.hid hn2
      have hP2 := runT_big HTR.out HLN.out.1 HLN.out.2 hT2
      have hrl := less_rows (E := E) (k := K) HG7.out.ok.sv HRT.out.symm
      have HC : Hid ((code1 = 32 ∧ code2 = 32) ∨ (code1 = 0 ∧ code2 = 32) ∨ (code1 = 0 ∧ code2 = 0 ∧ n1 ≤ n2 ∧ n2 ≤ 4096)) := Lib.hid (by
        have e1 : n1 = (R1.map Ws.l).length := by rw [List.length_map]; exact HN1R.out
        have e2 : n2 = (R2.map Ws.l).length := by rw [List.length_map]; exact hn2
        rcases HP1.out with ⟨h1, h2, h3⟩ | ⟨h1, h2, h3⟩ <;> rcases hP2 with ⟨g1, g2, g3⟩ | ⟨g1, g2, g3⟩ <;> rw [h2] at e1 <;> rw [g2] at e2
        · exact .inl ⟨h1, g1⟩
        · omega
        · exact .inr (.inl ⟨h1, g1⟩)
        · exact .inr (.inr ⟨h1, g1, by omega, by omega⟩))
      have HALL : Hid (code2 = 0 → ∀ x ∈ R1, ∃ y ∈ R2, y.l = x.l) := Lib.hid (fun hc x hx => by
        have hx2 : x.l ∈ R1.map Ws.l := List.mem_map.2 ⟨x, hx, rfl⟩
        rcases hP2 with ⟨g1, g2, g3⟩ | ⟨g1, g2, g3⟩
        · omega
        rcases HP1.out with ⟨h1, h2, h3⟩ | ⟨h1, h2, h3⟩
        · rw [h2] at hx2; cases hx2
        · rw [h2] at hx2
          have h4 := less_mem (k := K) HRT.out.symm hx2
          rw [← g2] at h4
          obtain ⟨y, hy, e⟩ := List.mem_map.1 h4
          exact ⟨y, hy, e⟩)
      have HL1X : Hid (∀ x ∈ R1, x.l.length ≤ 4) := Lib.hid (fun x hx => by
        have hx2 : x.l ∈ R1.map Ws.l := List.mem_map.2 ⟨x, hx, rfl⟩
        rcases HP1.out with ⟨h1, h2, h3⟩ | ⟨h1, h2, h3⟩
        · rw [h2] at hx2; cases hx2
        · rw [h2] at hx2
          have h := row_len HRT.out.symm hx2
          have := HN4.out
          have := HNN.out
          omega)
      have HV1 : Hid (kW2.V w11 a1 R1 ∧ ∀ x ∈ R1, kI.V w11 x.a x.l) := Lib.hid ⟨(HO1.out.chg hC2 (fun i hi e => by
        have h1 := (HO1.out.lt i hi).1
        have := HAB.out
        omega)).toV, fun x hx => ((HF1.out x hx).chg hC2 (fun i e => by have := HAB.out; omega)).toV⟩
      have HV2 : Hid (kW2.V w11 a2 R2 ∧ ∀ x ∈ R2, kI.V w11 x.a x.l) := Lib.hid ⟨hO2.toV, fun x hx => (hF2 x hx).toV⟩
      have HB11 : Hid (Below w5.heap.size w5 w11) := Lib.hid (HT.out.bel.trans (hW2.bel.mono HT.out.bel.size))
      clear hT2 hO2 hF2 hW2 hC2 hn2 hP2 hrl z0 z1 zl
      rcases HC.out with ⟨rfl, rfl⟩ | ⟨rfl, rfl⟩ | ⟨rfl, rfl, h12, h2m⟩
      · go_wp2_with fail
        go_ret
        exact ⟨rfl, HFIN.out _ HB11.out⟩
      · go_wp2_with fail
        go_ret
        exact ⟨rfl, HFIN.out _ HB11.out⟩
      go_wp2_with fail
      go_loopw [20] (fun i wr => ∃ k : Nat, i = .int .i64 k ∧ k ≤ n1 ∧ Hid (Below w11.heap.size w11 wr)) (fun i _ => n1 - (intOf i).toNat)
      case atStart => exact ⟨0, rfl, Nat.zero_le _, Lib.hid (Below.refl _ _)⟩
      case round =>
        obtain ⟨k, rfl, hk, HB⟩ := hrel
        obtain ⟨wo3, rfl⟩ : ∃ wo : World, wo = wr := ⟨_, rfl⟩
        have hk9 : k ≤ 1000000 := by omega
        by_cases hlt : k < n1
        · obtain ⟨x, hx⟩ : ∃ x, R1[k]? = some x := ⟨_, List.getElem?_eq_getElem (by rw [← HN1R.out]; exact hlt)⟩
          have hxm := List.mem_of_getElem? hx
          have HX := Lib.hid hx
          have HXA := Lib.hid (HALL.out trivial x hxm)
          have HXL := Lib.hid (HL1X.out x hxm)
          have HXV := Lib.hid (HV1.out.2 x hxm)
          have HKL := Lib.hid hlt
          clear hx hxm
          go_wp2_with fail
          go_loopw [21, 22] (fun f jv wr => ∃ (b : Bool) (m : Nat), f = .bool b ∧ jv = .int .i64 m ∧ m ≤ n2 ∧ Hid (b = false → ∀ y ∈ R2.take m, y.l ≠ x.l) ∧ Hid (Below w11.heap.size w11 wr)) (fun _ jv _ => n2 - (intOf jv).toNat)
          case atStart => exact ⟨false, 0, rfl, rfl, Nat.zero_le _, Lib.hid (fun _ y hy => by simp at hy), HB⟩
          case round =>
            obtain ⟨b, m, rfl, rfl, hm, HNO, HBm⟩ := hrel
            obtain ⟨wo4, rfl⟩ : ∃ wo : World, wo = wr := ⟨_, rfl⟩
            have hm9 : m ≤ 1000000 := by omega
            by_cases hlm : m < n2
            · obtain ⟨y, hy⟩ : ∃ y, R2[m]? = some y := ⟨_, List.getElem?_eq_getElem (by rw [← HN2R.out]; exact hlm)⟩
              have hym := List.mem_of_getElem? hy
              have HY := Lib.hid hy
              have HYV := Lib.hid (HV2.out.2 y hym)
              have HLM := Lib.hid hlm
              obtain ⟨b1, o1, ha1, hat1⟩ := HV1.out.1 (fun e => by have := HX.out; rw [e] at this; simp at this)
              obtain ⟨b2, o2, ha2, hat2⟩ := HV2.out.1 (fun e => by rw [e] at hy; simp at hy)
              subst ha1 ha2
              have HFC : Hid (∀ u, Below wo4.heap.size wo4 u → Below wo4.heap.size wo4 u ∧ u.cell? ⟨b1, o1 + k, none⟩ = some (.slice x.a x.l.length x.c) ∧ u.cell? ⟨b2, o2 + m, none⟩ = some (.slice y.a y.l.length y.c) ∧ b1 < u.heap.size ∧ b2 < u.heap.size) := Lib.hid (fun u hu => by
                have h1 := hat1.below (below_then HBm.out hu)
                have h2 := hat2.below (below_then HBm.out hu)
                have z1 := h1.cells k x HX.out 0 _ rfl
                have z2 := h2.cells m y HY.out 0 _ rfl
                simp [kW2] at z1 z2
                exact ⟨hu, z1, z2, h1.lt, h2.lt⟩)
              obtain ⟨q, hq⟩ : ∃ q, decide (x.l = y.l) = q := ⟨_, rfl⟩
              have HIS : Hid (∀ u, Below wo4.heap.size wo4 u → Calls Tryz.prog 44 #[.slice x.a x.l.length x.c, .slice y.a y.l.length y.c] u fun e w' => e = .returned (.bool q) ∧ Below u.heap.size u w') := Lib.hid (fun u hu => by
                have hb := below_then HBm.out hu
                rw [← hq]
                exact ints10_any x.a y.a x.c y.c x.l y.l u (HXV.out.below hb) (HYV.out.below hb) (by have := HXL.out; omega))
              have HQ := Lib.hid hq
              have hkn : (k : Int) < (n1 : Int) := by have := HKL.out; omega
              have hmn : (m : Int) < (n2 : Int) := by omega
              clear hy hym hat1 hat2 hq
              cases b
              case true =>
                clear hlm
                go_upto_region 23 with fail
                go_quiet (fail)
                go_wp2_with fail
                exact ⟨⟨true, m + 1, rfl, by go_num, HLM.out, Lib.hid (fun e => by cases e), Lib.hid (below_drewN HBm.out _)⟩, by simp [intOf]; have := HLM.out; omega⟩
              case false =>
                clear hlm
                go_upto_region 23 with fail
                have HNX : Hid (q = false → ∀ y' ∈ R2.take (m + 1), y'.l ≠ x.l) := Lib.hid (fun e y' hy' => by
                  rw [List.take_add_one, HY.out] at hy'
                  rcases List.mem_append.1 hy' with hy' | hy'
                  · exact HNO.out rfl y' hy'
                  · simp at hy'
                    rw [hy']
                    have h1 := HQ.out
                    rw [e] at h1
                    exact fun e2 => of_decide_eq_false h1 e2.symm)
                go_region_held3 (fun u => Below wo4.heap.size wo4 u ∧ u.cell? ⟨b1, o1 + k, none⟩ = some (.slice x.a x.l.length x.c) ∧ u.cell? ⟨b2, o2 + m, none⟩ = some (.slice y.a y.l.length y.c) ∧ b1 < u.heap.size ∧ b2 < u.heap.size)
                  (first | exact HFC.out _ (Below.refl _ _).drew | exact HFC.out _ HBC.out)
                  ((go_at_call 44; (refine (HIS.out _ (by go_split_ands; assumption)).mono ?_); rintro e wc ⟨rfl, hbc⟩; have HBC := Lib.hid (below_then (show Below wo4.heap.size wo4 _ by go_split_ands; assumption) hbc)))
                all_goals
                  go_wp2_with fail
                  exact ⟨⟨q, m + 1, rfl, by go_num, HLM.out, HNX, Lib.hid (below_then HBm.out HBC.out)⟩, by simp [intOf]; have := HLM.out; omega⟩
            · obtain rfl : m = n2 := by omega
              cases b
              case false =>
                exfalso
                obtain ⟨y, hy, e⟩ := HXA.out
                exact HNO.out rfl y (by rw [HN2R.out, List.take_length]; exact hy) e
              case true =>
                go_wp2_with fail
                exact ⟨⟨k + 1, by go_num, HKL.out, HBm⟩, by simp [intOf]; have := HKL.out; omega⟩
        · obtain rfl : k = n1 := by omega
          have t1 : decide ((k : Int) ≤ (n2 : Int)) = true := decide_eq_true (by omega)
          have t2 : decide ((n2 : Int) < (k : Int)) = false := decide_eq_false (by omega)
          go_wp2_with fail
          go_ret
          exact ⟨rfl, HFIN.out _ (below_then HB11.out HB.out)⟩
end Go.Proofs.YtonilojjahfboaaGreat
