/- Law PathBack: turned edges and wide ones in memory. Conditions: each lemma's own premises. Law PathBack: the walk. Conditions: small bulk. Layer 19: the arguments of PathBack. Conditions: each lemma's own premises. -/
import Derived.Test.YtaanohgkdpohhaaPartsLaw
import Derived.BigQuiet
import Derived.BigRegion
import Derived.Test.YtaanohgkdpohhaaPtRead
namespace Go.Proofs.Ytaanohgkdpohhaa
open Go.RowKit Go.Maps

theorem own_emp {u : World} {B b : Nat} (hb : u.heap[b]? = some (.cells #[] 86 (0, 0))) (hB : B ≤ b) : kEr.Own u B (.slice (some ⟨b, 0, none⟩) 0 0) [] :=
  RowK.Own.new (k := kEr) (l := []) hb hB rfl (Nat.zero_le _)
abbrev parts0 (va : Option Addr) (nv vc : Nat) (v : Value) : Obj := .cells #[.slice va nv vc, v] 105 (0, 0)
/-- an append to an empty row that was just laid -/
structure EmpS (w3 u : World) (D b : Nat) (ea : Option Addr) (EL : List Er) : Prop where
  o : kEr.Own u D (.slice (some ⟨b, 0, none⟩) 0 0) []
  v : kEr.V u ea EL
  s : D ≤ u.heap.size
  bel : Below w3.heap.size w3 u
theorem EmpS.mk' {w3 u : World} {D b : Nat} {ea : Option Addr} {EL : List Er} (hu : Below w3.heap.size w3 u) (hD : D ≤ w3.heap.size) (hb : u.heap[b]? = some (.cells #[] 86 (0, 0))) (hbw : w3.heap.size ≤ b) (hv : kEr.V w3 ea EL) : EmpS w3 u D b ea EL :=
  ⟨own_emp hb (Nat.le_trans hD hbw), hv.below hu, Nat.le_trans hD hu.size, hu⟩
theorem EmpS.kept {u w8 : World} {D b hb : Nat} {EL : List Er} {v8 : Value} {X : Obj} (hA : kEr.App u D (.slice (some ⟨b, 0, none⟩) 0 0) ([] ++ EL) v8 w8) (hx : u.heap[hb]? = some X) (hne : hb ≠ b) : w8.heap[hb]? = some X :=
  (hA.2.1.block hb (Array.getElem?_eq_some_iff.1 hx).1 (fun e => hne (by injection e))).trans hx
theorem EmpS.bel8 {W w3 u w8 : World} {b : Nat} {ea : Option Addr} {EL : List Er} {v8 : Value} (h : EmpS w3 u W.heap.size b ea EL) (hB : Below W.heap.size W w3) (hA : kEr.App u W.heap.size (.slice (some ⟨b, 0, none⟩) 0 0) ([] ++ EL) v8 w8) : Below W.heap.size W w8 :=
  (hB.trans (h.bel.mono hB.size)).trans (below_grownR h.o hA.2.1 h.s)
def trn (x : Er) : Er := ⟨turn x.e, x.a, x.c⟩
def TL (EL : List Er) (i : Nat) : List Er := (EL.take i).map trn
theorem TL_len {EL : List Er} {i : Nat} (h : i ≤ EL.length) : (TL EL i).length = i := by unfold TL; rw [List.length_map, List.length_take]; omega
theorem TL_succ {EL : List Er} {i : Nat} {y : Er} (h : EL[i]? = some y) : TL EL (i + 1) = TL EL i ++ [trn y] := by
  unfold TL
  rw [List.take_add_one, h, List.map_append]
  rfl
theorem TL_all (EL : List Er) : (TL EL EL.length).map Er.e = (EL.map Er.e).map turn := by
  unfold TL
  rw [List.take_of_length_le (Nat.le_refl _), List.map_map, List.map_map]
  rfl
structure BkW (W u : World) (bb hb T : Nat) (va : Option Addr) (nv vc : Nat) (bv hv : Value) (BL HL : List Er) : Prop where
  bel : Below W.heap.size W u
  back : u.heap[bb]? = some (parts0 va nv vc bv)
  wide : u.heap[hb]? = some (parts0 va nv vc hv)
  ob : kEr.Own u T bv BL
  oh : kEr.Own u W.heap.size hv HL
  hT : ∀ j, hv.ownBlock = some j → j < T
  lt : bb < T ∧ hb < T ∧ W.heap.size ≤ bb ∧ W.heap.size ≤ hb ∧ T ≤ u.heap.size
  ne : bb ≠ hb
section
variable {W w3 u w8 : World} {b bb hb T : Nat} {va ea : Option Addr} {nv vc : Nat} {bv hv bv' hv' : Value} {BL HL EL : List Er} {x : Er}
theorem emp_back (hE : EmpS w3 u W.heap.size b ea EL) (hA : kEr.App u W.heap.size (.slice (some ⟨b, 0, none⟩) 0 0) ([] ++ EL) hv w8) (hb0 : w3.heap.size ≤ b) {X : Obj} (hbk : w3.heap[bb]? = some X) : w8.heap[bb]? = some X := by
  have h1 := (Array.getElem?_eq_some_iff.1 hbk).1
  exact (hA.2.1.block bb (Nat.lt_of_lt_of_le h1 hE.bel.size) (fun e => by injection e with e; have e2 : bb = b := e; omega)).trans ((hE.bel.block bb h1).trans hbk)
theorem BkW.mkA (hE : EmpS w3 u W.heap.size b ea EL) (hB : Below W.heap.size W w3) (hA : kEr.App u W.heap.size (.slice (some ⟨b, 0, none⟩) 0 0) ([] ++ EL) hv w8) (hb0 : w3.heap.size ≤ b) (hbk : w3.heap[bb]? = some (parts0 va nv vc (.slice none 0 0))) (hbw : W.heap.size ≤ bb) :
    BkW W (w8.alloc (parts0 va nv vc hv)) bb w8.heap.size (w8.heap.size + 1) va nv vc (.slice none 0 0) hv [] EL := by
  have h1 := (Array.getElem?_eq_some_iff.1 hbk).1
  have h2 : w3.heap.size ≤ w8.heap.size := Nat.le_trans hE.bel.size hA.2.1.size
  have h8 := hE.bel8 hB hA
  refine ⟨h8.alloc h8.size _, (Below.heap_alloc _ _ _ (by omega)).trans (emp_back hE hA hb0 hbk), heap_new _ _, RowK.Own.nil kEr _ _, hA.1.alloc _, fun j hj => ?_, ⟨by omega, by omega, hbw, h8.size, by simp⟩, by omega⟩
  have := (hA.1.lt j hj).2
  omega
theorem BkW.mkB (hE : EmpS w3 u W.heap.size b ea EL) (hB : Below W.heap.size W w3) (hA : kEr.App u W.heap.size (.slice (some ⟨b, 0, none⟩) 0 0) ([] ++ EL) hv w8) (hb0 : w3.heap.size ≤ b) (hbk : w3.heap[bb]? = some (parts0 va nv vc (.slice none 0 0))) (hbw : W.heap.size ≤ bb)
    (hx : w8.heap[hb]? = some (.cells #[.slice none 0 0, .slice none 0 0] 105 (0, 0))) (hb3 : w3.heap.size ≤ hb) :
    BkW W ((w8.setCell ⟨hb, 0, none⟩ (.slice va nv vc)).setCell ⟨hb, 1, none⟩ hv) bb hb w8.heap.size va nv vc (.slice none 0 0) hv [] EL := by
  have h1 := (Array.getElem?_eq_some_iff.1 hbk).1
  have h2 : w3.heap.size ≤ w8.heap.size := Nat.le_trans hE.bel.size hA.2.1.size
  have h8 := hE.bel8 hB hA
  have hz := (Array.getElem?_eq_some_iff.1 hx).1
  have hw : W.heap.size ≤ w3.heap.size := hB.size
  have hc : Chg w8 ((w8.setCell ⟨hb, 0, none⟩ (.slice va nv vc)).setCell ⟨hb, 1, none⟩ hv) (fun i => i = hb) := ((Chg.refl w8 (fun i => i = hb)).setCell (p := ⟨hb, 0, none⟩) (fun _ => rfl) _).setCell (p := ⟨hb, 1, none⟩) (fun _ => rfl) _
  have hn : some hb ≠ hv.ownBlock := own_ty hA.1 hx (by decide)
  refine ⟨(h8.setCell (p := ⟨hb, 0, none⟩) (by show W.heap.size ≤ hb; omega) _).setCell (p := ⟨hb, 1, none⟩) (by show W.heap.size ≤ hb; omega) _, (hc.block bb (by omega) (by omega)).trans (emp_back hE hA hb0 hbk), ?_, RowK.Own.nil kEr _ _, RowK.Own.chg hA.1 hc (fun j hj e => hn (by rw [hj, e])), fun j hj => ?_, ⟨by omega, by omega, hbw, by omega, by simp⟩, by omega⟩
  · rw [blk_setCell (blk_setCell hx _)]
    simp
  · have := (hA.1.lt j hj).2
    omega
theorem BkW.below {u' : World} (h : BkW W u bb hb T va nv vc bv hv BL HL) (hb' : Below u.heap.size u u') : BkW W u' bb hb T va nv vc bv hv BL HL := by
  obtain ⟨l1, l2, l3, l4, l5⟩ := h.lt
  exact ⟨h.bel.trans (hb'.mono h.bel.size), (hb'.block _ (by omega)).trans h.back, (hb'.block _ (by omega)).trans h.wide, h.ob.below hb', h.oh.below hb', h.hT, ⟨l1, l2, l3, l4, Nat.le_trans l5 hb'.size⟩, h.ne⟩
theorem BkW.put (h : BkW W u bb hb T va nv vc bv hv BL HL) (hA : kEr.App u T bv (BL ++ [x]) bv' w8) :
    w8.heap[bb]? = some (parts0 va nv vc bv) ∧ BkW W (w8.setCell ⟨bb, 1, none⟩ bv') bb hb T va nv vc bv' hv (BL ++ [x]) HL := by
  obtain ⟨l1, l2, l3, l4, l5⟩ := h.lt
  obtain ⟨o1, g1, _⟩ := hA
  have hs := g1.size
  have n1 : some bb ≠ bv.ownBlock := fun e => by have := (h.ob.lt bb e.symm).1; omega
  have n2 : some hb ≠ bv.ownBlock := fun e => by have := (h.ob.lt hb e.symm).1; omega
  have hbk := (g1.block bb (by omega) n1).trans h.back
  have hwd := (g1.block hb (by omega) n2).trans h.wide
  have hc : Chg w8 (w8.setCell ⟨bb, 1, none⟩ bv') (fun i => i = bb) := (Chg.refl w8 (fun i => i = bb)).setCell (p := ⟨bb, 1, none⟩) (fun _ => rfl) _
  have hoh := h.oh.grown g1 (fun j hj e => by have := h.hT j hj; have := (h.ob.lt j e.symm).1; omega)
  refine ⟨hbk, (h.bel.grown g1 h.bel.size (fun j hj => by have := (h.ob.lt j hj).1; omega)).setCell (p := ⟨bb, 1, none⟩) l3 _, by rw [blk_setCell hbk]; simp, (hc.block hb (by omega) (fun e => h.ne e.symm)).trans hwd, o1.chg hc (fun j hj e => by have := (o1.lt j hj).1; omega), hoh.chg hc (fun j hj e => ?_), h.hT, ⟨l1, l2, l3, l4, by rw [size_setCell]; omega⟩, h.ne⟩
  exact own_ty hoh hbk (by decide) (by rw [hj, e])
/-- both are laid -/
structure FnW (W u : World) (bb hb : Nat) (va : Option Addr) (nv vc : Nat) (bv hv : Value) (BL HL : List Er) : Prop where
  bel : Below W.heap.size W u
  back : u.heap[bb]? = some (parts0 va nv vc bv)
  wide : u.heap[hb]? = some (parts0 va nv vc hv)
  ob : kEr.Own u W.heap.size bv BL
  oh : kEr.Own u W.heap.size hv HL
theorem FnW.below {u' : World} (h : FnW W u bb hb va nv vc bv hv BL HL) (hb' : Below u.heap.size u u') : FnW W u' bb hb va nv vc bv hv BL HL :=
  ⟨h.bel.trans (hb'.mono h.bel.size), (hb'.block _ (Array.getElem?_eq_some_iff.1 h.back).1).trans h.back, (hb'.block _ (Array.getElem?_eq_some_iff.1 h.wide).1).trans h.wide, h.ob.below hb', h.oh.below hb'⟩
theorem BkW.putW (h : BkW W u bb hb T va nv vc bv hv BL HL) (hA : kEr.App u W.heap.size hv (HL ++ [x]) hv' w8) :
    w8.heap[hb]? = some (parts0 va nv vc hv) ∧ FnW W (w8.setCell ⟨hb, 1, none⟩ hv') bb hb va nv vc bv hv' BL (HL ++ [x]) := by
  obtain ⟨l1, l2, l3, l4, l5⟩ := h.lt
  obtain ⟨o1, g1, _⟩ := hA
  have hs := g1.size
  have n1 : some bb ≠ hv.ownBlock := own_ty h.oh h.back (by decide)
  have n2 : some hb ≠ hv.ownBlock := own_ty h.oh h.wide (by decide)
  have hbk := (g1.block bb (by omega) n1).trans h.back
  have hwd := (g1.block hb (by omega) n2).trans h.wide
  have hc : Chg w8 (w8.setCell ⟨hb, 1, none⟩ hv') (fun i => i = hb) := (Chg.refl w8 (fun i => i = hb)).setCell (p := ⟨hb, 1, none⟩) (fun _ => rfl) _
  have hob := h.ob.grown g1 (fun j hj e => by have := h.hT j e.symm; have := (h.ob.lt j hj).1; omega)
  refine ⟨hwd, (h.bel.grown g1 h.bel.size (fun j hj => (h.oh.lt j hj).1)).setCell (p := ⟨hb, 1, none⟩) l4 _, (hc.block bb (by omega) h.ne).trans hbk, by rw [blk_setCell hwd]; simp, (hob.chg hc (fun j hj e => ?_)).mono (by omega), o1.chg hc (fun j hj e => ?_)⟩
  · exact own_ty hob hwd (by decide) (by rw [hj, e])
  · exact own_ty o1 hwd (by decide) (by rw [hj, e])
theorem ptIn_back {VL : List Vr} {ea' : Option Addr} (h : PtIn u va ea VL EL) (hv : kEr.V u ea' (TL EL EL.length)) : PtIn u va ea' VL (TL EL EL.length) :=
  ⟨h.vV, hv, h.pv, fun x hx => by
    obtain ⟨y, hy, rfl⟩ := List.mem_map.1 hx
    obtain ⟨g1, g2, ⟨g3, g4, g5⟩, g6⟩ := h.pe y (List.mem_of_mem_take hy)
    exact ⟨g1, g2, ⟨g3, g5, g4⟩, g6⟩, h.nv, by rw [TL_len (Nat.le_refl _)]; exact h.ne⟩
theorem ptIn_wide {VL : List Vr} {ea' : Option Addr} (h : PtIn u va ea VL EL) (hv : kEr.V u ea' (EL ++ [x])) (hx : x.e.ps = [] ∧ x.a = none ∧ x.c = 0) (hi : I64 x.e.id ∧ I64 x.e.fr ∧ I64 x.e.to) (hl : x.e.label.size ≤ 2000000) (hn : EL.length < 1000) : PtIn u va ea' VL (EL ++ [x]) :=
  ⟨h.vV, hv, h.pv, fun y hy => by
    rcases List.mem_append.1 hy with hy | hy
    · exact h.pe y hy
    · obtain rfl : y = x := by simpa using hy
      obtain ⟨e1, e2, e3⟩ := hx
      rw [e1, e2, e3]
      exact ⟨psA_nil _, by simp, hi, hl⟩, h.nv, by simp; omega⟩
end
end Go.Proofs.Ytaanohgkdpohhaa
namespace Go.Proofs.Ytaanohgkdpohhaa
open Go.RowKit Go.Maps

set_option maxRecDepth 100000 in
set_option maxHeartbeats 16000000 in
theorem pback_any (va ea : Option Addr) (vc ec : Nat) (VL : List Vr) (EL : List Er) (a : PA) (m0 m1 : Int) (w : World) (h1 : kVr.V w va VL) (h2 : kEr.V w ea EL) (h3 : ∀ x ∈ VL, VrOk w x) (h4 : ∀ x ∈ EL, ErOk w x) (hf : I64 a.fr) (ht : I64 a.t) (hl : a.lab.size ≤ 1048576) (hm0 : I64 m0) (hm1 : I64 m1) (hec : ea = none → ec = 0) :
    Calls Try.prog 11 #[.agg #[.slice va VL.length vc, .slice ea EL.length ec], a.val, .agg #[.int .i64 m0, .int .i64 m1]] w fun e w' => e = .returned (.bool true) ∧ Below w.heap.size w w' := by
  obtain ⟨nv, hnv⟩ : ∃ n, n = VL.length := ⟨_, rfl⟩
  obtain ⟨ne, hne⟩ : ∃ n, n = EL.length := ⟨_, rfl⟩
  have HNV := Lib.hid hnv
  have HNE := Lib.hid hne
  have HSM : Hid (∀ u, Below w.heap.size w u → Calls Try.prog 53 #[.agg #[.slice va nv vc, .slice ea ne ec]] u (fun e w' => e = .returned (.bool (smallB VL EL)) ∧ Below u.heap.size u w')) := Lib.hid (fun u hu => by rw [hnv, hne]; exact small19_any va ea vc ec VL EL u (h1.below hu) (h2.below hu))
  have HPT : Hid (smallB VL EL = true → PtIn w va ea VL EL) := Lib.hid (fun hs => ptIn_of h1 h2 h3 h4 hs)
  rw [← hnv, ← hne]
  clear hnv hne h1 h2 h3 h4
  obtain ⟨pb, hpb⟩ : ∃ pb, pb = w.heap.size := ⟨_, rfl⟩
  obtain ⟨ab, hab⟩ : ∃ ab, ab = w.heap.size + 1 := ⟨_, rfl⟩
  obtain ⟨mb, hmb⟩ : ∃ mb, mb = w.heap.size + 2 := ⟨_, rfl⟩
  have HMB := Lib.hid hmb.symm
  obtain ⟨W, hW⟩ : ∃ W, W = ((w.alloc (.cells #[.slice va nv vc, .slice ea ne ec] 105)).alloc (.cells #[.int .i64 a.fr, .int .i64 a.t, .string a.lab, .int .i64 a.most] 107)).alloc (.cells #[.int .i64 m0, .int .i64 m1] 117) := ⟨_, rfl⟩
  have HWW : Hid (Below w.heap.size w W) := Lib.hid (by rw [hW]; exact (((Below.refl w.heap.size w).alloc (Nat.le_refl _) _).alloc (by simp) _).alloc (by simp; omega) _)
  have HP0 : Hid (W.heap[pb]? = some (.cells #[.slice va nv vc, .slice ea ne ec] 105 (0, 0)) ∧ W.heap[ab]? = some (.cells #[.int .i64 a.fr, .int .i64 a.t, .string a.lab, .int .i64 a.most] 107 (0, 0))) := Lib.hid (by
    rw [hW, hpb, hab]
    exact ⟨(Below.heap_alloc _ _ _ (by simp; omega)).trans ((Below.heap_alloc _ _ _ (by simp)).trans (heap_new w _)), (Below.heap_alloc _ _ _ (by simp)).trans (heap_new2 w _ _)⟩)
  have HM0 : Hid (∀ u, Below W.heap.size W u → u.heap[mb]? = some (.cells #[.int .i64 m0, .int .i64 m1] 117 (0, 0))) := Lib.hid (fun u hu => by
    have e : W.heap[mb]? = some (.cells #[.int .i64 m0, .int .i64 m1] 117 (0, 0)) := by
      rw [hW, hmb]
      exact (show w.heap.size + 2 = ((w.alloc (.cells #[.slice va nv vc, .slice ea ne ec] 105)).alloc (.cells #[.int .i64 a.fr, .int .i64 a.t, .string a.lab, .int .i64 a.most] 107)).heap.size by simp) ▸ heap_new _ _
    exact (hu.block _ (Array.getElem?_eq_some_iff.1 e).1).trans e)
  have HBX : Hid (∀ u, Below W.heap.size W u → u.heap[pb]? = some (.cells #[.slice va nv vc, .slice ea ne ec] 105 (0, 0)) ∧ u.heap[ab]? = some (.cells #[.int .i64 a.fr, .int .i64 a.t, .string a.lab, .int .i64 a.most] 107 (0, 0))) := Lib.hid (fun u hu => ⟨(hu.block _ (Array.getElem?_eq_some_iff.1 HP0.out.1).1).trans HP0.out.1, (hu.block _ (Array.getElem?_eq_some_iff.1 HP0.out.2).1).trans HP0.out.2⟩)
  have HW := Lib.hid hW.symm
  have HQB := Lib.hid (And.intro hpb.symm hab.symm)
  have HF := Lib.hid hf
  have HT := Lib.hid ht
  have HL := Lib.hid hl
  clear hW hf ht hl
  have HM12 := Lib.hid (And.intro hm0 hm1)
  have HEC := Lib.hid hec
  clear hm0 hm1 hec
  unfold PA.val
  go_enter Try.func11, Try.ntmps11
  go_wp2_with fail
  rw [HW.out, HMB.out, HQB.out.2, HQB.out.1]
  clear hpb hab hmb
  refine (awake19_any W).mono ?_
  rintro e w1 ⟨rfl, b1⟩
  have HB1 := Lib.hid b1
  obtain ⟨p1, p2⟩ := HBX.out w1 b1
  have p0 := cell_of_blk p1 0
  have p1 := cell_of_blk p1 1
  have zp : pb < w1.heap.size := by have := (Array.getElem?_eq_some_iff.1 (HBX.out w1 b1).1).1; exact this
  simp at p0 p1
  clear b1 p2
  go_wp2_with fail
  refine (HSM.out w1 (HWW.out.trans (HB1.out.mono HWW.out.size))).mono ?_
  rintro e w2 ⟨rfl, b2⟩
  have HB2 : Hid (Below W.heap.size W w2) := Lib.hid (HB1.out.trans (b2.mono HB1.out.size))
  clear b2 p0 p1 zp
  cases hs : smallB VL EL
  case false =>
    clear hs
    go_wp2_with fail
    refine (awake19_any _).mono ?_
    rintro e w9 ⟨rfl, b9⟩
    have HB9 : Hid (Below W.heap.size W w9) := Lib.hid (HB2.out.trans (b9.mono HB2.out.size))
    clear b9
    go_wp2_with fail
    go_ret
    exact ⟨rfl, HWW.out.trans (HB9.out.mono HWW.out.size)⟩

  have HS := Lib.hid hs
  clear hs
  obtain ⟨p1, p2⟩ := HBX.out w2 HB2.out
  have a2 := cell_of_blk p2 2
  have za : ab < w2.heap.size := (Array.getElem?_eq_some_iff.1 p2).1
  simp at a2
  clear p1 p2
  by_cases hll : 200 < a.lab.size
  · have tl : decide ((200 : Int) < (a.lab.size : Int)) = true := decide_eq_true (by omega)
    go_wp2_with fail
    refine (awake19_any _).mono ?_
    rintro e w9 ⟨rfl, b9⟩
    have HB9 : Hid (Below W.heap.size W w9) := Lib.hid (HB2.out.trans (b9.mono HB2.out.size))
    clear b9
    go_wp2_with fail
    go_ret
    exact ⟨rfl, HWW.out.trans (HB9.out.mono HWW.out.size)⟩

  have tl : decide ((200 : Int) < (a.lab.size : Int)) = false := decide_eq_false (by omega)
  have HLL : Hid (a.lab.size ≤ 200) := Lib.hid (by omega)
  obtain ⟨p1, p2⟩ := HBX.out w2 HB2.out
  have p0 := cell_of_blk p1 0
  have p1 := cell_of_blk p1 1
  simp at p0 p1
  clear p2

  go_upto_region 4 with fail
  obtain ⟨bb, hbb⟩ : ∃ bb, bb = w2.heap.size := ⟨_, rfl⟩
  obtain ⟨w3, hw3⟩ : ∃ w3, w3 = w2.alloc (.cells #[.slice va nv vc, .slice none 0 0] 105) := ⟨_, rfl⟩
  rw [← hw3, ← hbb]
  have HB3 : Hid (Below W.heap.size W w3) := Lib.hid (by rw [hw3]; exact HB2.out.alloc HB2.out.size _)
  have HBK : Hid (w3.heap[bb]? = some (.cells #[.slice va nv vc, .slice none 0 0] 105 (0, 0))) := Lib.hid (by rw [hw3, hbb]; exact heap_new _ _)
  have HPI : Hid (PtIn w3 va ea VL EL) := Lib.hid ((HPT.out HS.out).below (HWW.out.trans (HB3.out.mono HWW.out.size)))
  have HBBW : Hid (W.heap.size ≤ bb) := Lib.hid (by rw [hbb]; exact HB2.out.size)
  clear hw3 hbb p0 p1 a2 za
  obtain ⟨p1, p2⟩ := HBX.out w3 HB3.out
  have p0 := cell_of_blk p1 0
  have zp : pb < w3.heap.size := (Array.getElem?_eq_some_iff.1 p1).1
  have p1 := cell_of_blk p1 1
  simp at p0 p1
  clear p2
  have hdr : ∀ X, Below w3.heap.size w3 (w3.drew.alloc X) := fun X => (below_drewN (Below.refl _ _) 1).alloc (Nat.le_refl _) X
  have EA : Hid (EmpS w3 (w3.drew.alloc (.cells #[] 86)) W.heap.size w3.heap.size ea EL) := Lib.hid (.mk' (hdr _) HB3.out.size (heap_new w3.drew _) (Nat.le_refl _) HPI.out.vE)
  have EB : Hid (EmpS w3 ((w3.drew.alloc (.cells #[.slice none 0 0, .slice none 0 0] 105)).alloc (.cells #[] 86)) W.heap.size (w3.heap.size + 1) ea EL) := Lib.hid (.mk' ((hdr _).alloc (by simp) _) HB3.out.size (heap_new2 w3.drew _ _) (by omega) HPI.out.vE)
  have EC : Hid (EmpS w3 ((w3.drew.alloc (.cells #[] 86)).alloc (.cells #[.slice none 0 0, .slice none 0 0] 105)) W.heap.size w3.heap.size ea EL) := Lib.hid (.mk' ((hdr _).alloc (by simp) _) HB3.out.size ((Below.heap_alloc _ _ _ (by simp)).trans (heap_new w3.drew _)) (Nat.le_refl _) HPI.out.vE)
  clear hdr
  have HLE : Hid (EL.length = ne ∧ ne ≤ 60) := Lib.hid (by
    have h := HS.out
    unfold smallB at h
    obtain ⟨_, s2, _⟩ := of_decide_eq_true h
    have := HNE.out
    omega)
  have HEN : Hid (ea = none → ec = 0) := Lib.hid HEC.out
  have HBW2 : Hid (W.heap.size ≤ bb) := HBBW
  go_cut [8] from 41 to 47 (fun s8 wc => ∃ (hb T : Nat) (ha : Option Addr) (hc : Nat) (u : World), s8 = .pointer (some ⟨hb, 0, none⟩) ∧ u = wc ∧ Hid (BkW W u bb hb T va nv vc (.slice none 0 0) (.slice ha ne hc) [] EL))
  case first =>
    go_region_law (first
      | (refine RowK.step_app (k := kEr) (B := W.heap.size) (l := []) rfl (.tmp 43) (.tmp 45) rfl rfl EA.out.o ea ne EL ec rfl HLE.out.1 EA.out.v (fun e => HEN.out e) (by have := HLE.out; simp; omega) EA.out.s ?_; intro v8 w8 hA; have HW8 := Lib.hid (EA.out.bel8 HB3.out hA); have hp8 := (HBX.out w8 HW8.out).1; have q0 := cell_of_blk hp8 0; have q1 := cell_of_blk hp8 1; have zq := (Array.getElem?_eq_some_iff.1 hp8).1; simp at q0 q1; clear hp8; obtain ⟨ha8, hc8, hv8⟩ := hA.1.shape; rw [show (([] : List Er) ++ EL).length = ne from HLE.out.1] at hv8; subst hv8; have HA8 := Lib.hid hA; clear hA)
      | (refine RowK.step_app (k := kEr) (B := W.heap.size) (l := []) rfl (.tmp 43) (.tmp 45) rfl rfl EB.out.o ea ne EL ec rfl HLE.out.1 EB.out.v (fun e => HEN.out e) (by have := HLE.out; simp; omega) EB.out.s ?_; intro v8 w8 hA; have HW8 := Lib.hid (EB.out.bel8 HB3.out hA); have hp8 := (HBX.out w8 HW8.out).1; have q0 := cell_of_blk hp8 0; have q1 := cell_of_blk hp8 1; have zq := (Array.getElem?_eq_some_iff.1 hp8).1; simp at q0 q1; clear hp8; obtain ⟨ha8, hc8, hv8⟩ := hA.1.shape; rw [show (([] : List Er) ++ EL).length = ne from HLE.out.1] at hv8; subst hv8; have hP := EmpS.kept (hb := w3.heap.size) hA ((Below.heap_alloc _ _ _ (by simp)).trans (heap_new w3.drew _)) (by omega); have y0 := cell_of_blk hP 0; have y1 := cell_of_blk hP 1; have f0 := frozen_of_blk hP 0; have f1 := frozen_of_blk hP 1; have z0 := (Array.getElem?_eq_some_iff.1 hP).1; simp at y0 y1; have HP := Lib.hid hP; clear hP; have HA8 := Lib.hid hA; clear hA)
      | (refine RowK.step_app (k := kEr) (B := W.heap.size) (l := []) rfl (.tmp 43) (.tmp 45) rfl rfl EC.out.o ea ne EL ec rfl HLE.out.1 EC.out.v (fun e => HEN.out e) (by have := HLE.out; simp; omega) EC.out.s ?_; intro v8 w8 hA; have HW8 := Lib.hid (EC.out.bel8 HB3.out hA); have hp8 := (HBX.out w8 HW8.out).1; have q0 := cell_of_blk hp8 0; have q1 := cell_of_blk hp8 1; have zq := (Array.getElem?_eq_some_iff.1 hp8).1; simp at q0 q1; clear hp8; obtain ⟨ha8, hc8, hv8⟩ := hA.1.shape; rw [show (([] : List Er) ++ EL).length = ne from HLE.out.1] at hv8; subst hv8; have hP := EmpS.kept (hb := w3.heap.size + 1) hA (heap_new2 w3.drew _ _) (by omega); have y0 := cell_of_blk hP 0; have y1 := cell_of_blk hP 1; have f0 := frozen_of_blk hP 0; have f1 := frozen_of_blk hP 1; have z0 := (Array.getElem?_eq_some_iff.1 hP).1; simp at y0 y1; have HP := Lib.hid hP; clear hP; have HA8 := Lib.hid hA; clear hA)
      | fail)

    · go_wp2_with fail
      go_meet
      exact ⟨_, _, _, _, _, rfl, rfl, Lib.hid (BkW.mkA EA.out HB3.out HA8.out (Nat.le_refl _) HBK.out HBW2.out)⟩
    all_goals (
      go_wp2_with fail
      go_meet
      first
        | exact ⟨_, _, _, _, _, rfl, rfl, Lib.hid (BkW.mkB EB.out HB3.out HA8.out (by omega) HBK.out HBW2.out HP.out (Nat.le_refl _))⟩
        | exact ⟨_, _, _, _, _, rfl, rfl, Lib.hid (BkW.mkB EC.out HB3.out HA8.out (Nat.le_refl _) HBK.out HBW2.out HP.out (by omega))⟩
        | exact ⟨_, _, _, _, _, rfl, rfl, Lib.hid (BkW.mkA EA.out HB3.out HA8.out (Nat.le_refl _) HBK.out HBW2.out)⟩)
  case rest =>
  obtain ⟨hb, T, ha, hc, w4, rfl, rfl, HK4⟩ := hcut
  clear EA EB EC p0 p1 zp
  have HVE : Hid (∀ u, Below W.heap.size W u → PtIn u va ea VL EL) := Lib.hid (fun u hu => (HPT.out HS.out).below (HWW.out.trans (hu.mono HWW.out.size)))
  clear HEN HPI HBK
  go_wp2_with fail
  go_loopw [9] (fun iv wr => ∃ (i : Nat) (ba : Option Addr) (bc : Nat), iv = .int .i64 (i : Int) ∧ i ≤ ne ∧ Hid (BkW W wr bb hb T va nv vc (.slice ba i bc) (.slice ha ne hc) (TL EL i) EL)) (fun iv _ => ne - (intOf iv).toNat)
  case atStart => exact ⟨0, none, 0, rfl, Nat.zero_le _, HK4⟩
  case round =>
    obtain ⟨i, ba, bc, rfl, hi, HK⟩ := hrel
    have HBel : Hid (Below W.heap.size W wr) := Lib.hid HK.out.bel
    have hn6 := HLE.out.2
    obtain ⟨p1, p2⟩ := HBX.out wr HBel.out
    have p0 := cell_of_blk p1 0
    have zp : pb < wr.heap.size := (Array.getElem?_eq_some_iff.1 p1).1
    have p1 := cell_of_blk p1 1
    simp at p0 p1
    clear p2
    by_cases hlt : i < ne
    · obtain ⟨y, hy⟩ : ∃ y, EL[i]? = some y := ⟨_, List.getElem?_eq_getElem (by have := HLE.out.1; omega)⟩
      obtain ⟨eb, eo, hea, hat⟩ := (HVE.out wr HBel.out).vE (fun e => by rw [e] at hy; simp at hy)
      subst hea
      have x0 := hat.cells i y hy 0 _ rfl
      have x1 := hat.cells i y hy 1 _ rfl
      have x2 := hat.cells i y hy 2 _ rfl
      have x3 := hat.cells i y hy 3 _ rfl
      have x4 := hat.cells i y hy 4 _ rfl
      have ze := hat.lt
      simp [kEr] at x0 x1 x2 x3 x4
      have HY := Lib.hid hy
      clear hat hy
      go_upto_region 10 with fail
      clear x0 x1 x2 x3 x4 ze p0 p1 zp
      obtain ⟨W1, hW1⟩ : ∃ W1, W1 = wr.alloc (.cells #[.int .i64 y.e.id, .string y.e.label, .int .i64 y.e.to, .int .i64 y.e.fr, .slice y.a y.e.ps.length y.c] 86) := ⟨_, rfl⟩
      obtain ⟨yb, hyb⟩ : ∃ yb, yb = wr.heap.size := ⟨_, rfl⟩
      rw [← hW1, ← hyb]
      have HK1 : Hid (BkW W W1 bb hb T va nv vc (.slice ba i bc) (.slice ha ne hc) (TL EL i) EL) := Lib.hid (by rw [hW1]; exact HK.out.below (below_box wr _))
      have hx : W1.heap[yb]? = some (.cells #[.int .i64 y.e.id, .string y.e.label, .int .i64 y.e.to, .int .i64 y.e.fr, .slice y.a y.e.ps.length y.c] 86 (0, 0)) := by rw [hW1, hyb]; exact heap_new _ _
      obtain ⟨W2, hW2⟩ : ∃ W2, W2 = W1.alloc (.cells #[.int .i64 y.e.id, .string y.e.label, .int .i64 y.e.to, .int .i64 y.e.fr, .slice y.a y.e.ps.length y.c] 86) := ⟨_, rfl⟩
      have HK2 : Hid (BkW W W2 bb hb T va nv vc (.slice ba i bc) (.slice ha ne hc) (TL EL i) EL) := Lib.hid (by rw [hW2]; exact HK1.out.below (below_box W1 _))
      have HXV : Hid (kEr.V W2 (some ⟨W1.heap.size, 0, none⟩) [trn y]) := Lib.hid (by rw [hW2]; exact fun _ => ⟨_, 0, rfl, RowK.new_at (k := kEr) (heap_new W1 _) (by simp [RowK.cells, kEr, Er.enc, trn, turn])⟩)
      have HW2 := Lib.hid hW2.symm
      have x0 := cell_of_blk hx 0
      have x1 := cell_of_blk hx 1
      have x2 := cell_of_blk hx 2
      have x3 := cell_of_blk hx 3
      have x4 := cell_of_blk hx 4
      have zx := (Array.getElem?_eq_some_iff.1 hx).1
      have b1 := cell_of_blk HK1.out.back 1
      have zb := (Array.getElem?_eq_some_iff.1 HK1.out.back).1
      simp at x0 x1 x2 x3 x4 b1
      clear hW1 hyb hx hW2
      go_wp2_with (first | (at_builtin; rw [HW2.out]; refine RowK.wpList_app (k := kEr) (B := T) (v := .slice ba i bc) (l := TL EL i) rfl (.tmp 67) (.tmp 69) rfl rfl HK2.out.ob (some ⟨W1.heap.size, 0, none⟩) 1 [trn y] 1 rfl rfl HXV.out (fun e => by cases e) (by rw [TL_len (by have := HLE.out; omega)]; have := HLE.out; simp; omega) HK2.out.lt.2.2.2.2 ?_; intro v8 w8 hA; obtain ⟨ba8, bc8, hv8⟩ := hA.1.shape; rw [show (TL EL i ++ [trn y]).length = i + 1 by rw [List.length_append, TL_len (by have := HLE.out; omega)]; rfl] at hv8; subst hv8; have hP := HK2.out.put hA; have y0 := cell_of_blk hP.1 1; have f0 := frozen_of_blk hP.1 1; have z0 : bb < w8.heap.size := (Array.getElem?_eq_some_iff.1 hP.1).1; simp at y0; have HP := Lib.hid hP.2; clear hA hP) | fail)
      exact ⟨⟨i + 1, ba8, bc8, by simp, hlt, Lib.hid (by rw [TL_succ HY.out]; exact HP.out)⟩, by simp [intOf]; omega⟩
    · have hin : i = ne := by omega
      have ti : decide ((i : Int) < (ne : Int)) = false := decide_eq_false (by omega)
      have HK9 : Hid (BkW W wr bb hb T va nv vc (.slice ba ne bc) (.slice ha ne hc) (TL EL ne) EL) := Lib.hid (by have h := HK.out; rw [hin] at h; exact h)
      clear hlt
      obtain ⟨p1, p2⟩ := HBX.out wr HBel.out
      have a0 := cell_of_blk p2 0
      have a1 := cell_of_blk p2 1
      have a2 := cell_of_blk p2 2
      have a3 := cell_of_blk p2 3
      have za : ab < wr.heap.size := (Array.getElem?_eq_some_iff.1 p2).1
      simp at a0 a1 a2 a3
      clear p1 p2

      go_upto_if 75 with fail
      clear hin ti p0 p1 zp hi a0 a1 a3
      obtain ⟨wo, hwo⟩ : ∃ wo : World, wo = wr := ⟨_, rfl⟩
      have HWO := Lib.hid hwo
      clear hwo
      go_cut [11] from 74 to 75 (fun s11 wc => ∃ (L : ByteArray) (u : World), s11 = .string L ∧ u = wc ∧ Hid (u = wr) ∧ Hid (L.size ≤ 1048576))
      case first =>
        go_wp2_with fail
        all_goals (
          go_meet
          first
            | exact ⟨_, _, rfl, rfl, Lib.hid rfl, HL⟩
            | exact ⟨_, _, rfl, rfl, Lib.hid rfl, Lib.hid (by decide)⟩)
      case rest =>
      obtain ⟨L, w5, rfl, rfl, HU5, HLB⟩ := hcut
      have HK5 : Hid (BkW W w5 bb hb T va nv vc (.slice ba ne bc) (.slice ha ne hc) (TL EL ne) EL) := Lib.hid (by rw [HU5.out]; exact HK9.out)
      clear a2 za
      obtain ⟨x, hx⟩ : ∃ x : Er, x = ⟨⟨1073741824, L, m0, m1, []⟩, none, 0⟩ := ⟨_, rfl⟩
      have HX := Lib.hid hx
      obtain ⟨W5, hW5⟩ : ∃ W5, W5 = w5.alloc (.cells #[.int .i64 1073741824, .string L, .int .i64 m0, .int .i64 m1, .slice none 0 0] 86) := ⟨_, rfl⟩
      have HK6 : Hid (BkW W W5 bb hb T va nv vc (.slice ba ne bc) (.slice ha ne hc) (TL EL ne) EL) := Lib.hid (by rw [hW5]; exact HK5.out.below (below_box w5 _))
      have HXV : Hid (kEr.V W5 (some ⟨w5.heap.size, 0, none⟩) [x]) := Lib.hid (by rw [hW5, hx]; exact fun _ => ⟨_, 0, rfl, RowK.new_at (k := kEr) (heap_new w5 _) (by simp [RowK.cells, kEr, Er.enc])⟩)
      have HW5 := Lib.hid hW5.symm
      have b1 := cell_of_blk HK5.out.wide 1
      have zb := (Array.getElem?_eq_some_iff.1 HK5.out.wide).1
      have hmm := HM0.out w5 HK5.out.bel
      have c0 := cell_of_blk hmm 0
      have c1 := cell_of_blk hmm 1
      have zm := (Array.getElem?_eq_some_iff.1 hmm).1
      simp at b1 c0 c1
      clear hW5 hx hmm
      go_upto_region 15 with (first | (at_builtin; rw [HW5.out]; refine RowK.wpList_app (k := kEr) (B := W.heap.size) (v := .slice ha ne hc) (l := EL) rfl (.tmp 77) (.tmp 84) rfl rfl HK6.out.oh (some ⟨w5.heap.size, 0, none⟩) 1 [x] 1 rfl rfl HXV.out (fun e => by cases e) (by have := HLE.out; simp; omega) HK6.out.bel.size ?_; intro v8 w8 hA; obtain ⟨ha8, hc8, hv8⟩ := hA.1.shape; rw [show (EL ++ [x]).length = ne + 1 by rw [List.length_append, HLE.out.1]; rfl] at hv8; subst hv8; have hP := HK6.out.putW hA; have y0 := cell_of_blk hP.1 1; have f0 := frozen_of_blk hP.1 1; have z0 : hb < w8.heap.size := (Array.getElem?_eq_some_iff.1 hP.1).1; simp at y0; have HP := Lib.hid hP.2; clear hA hP) | fail)
      clear y0 f0 z0 b1 zb c0 c1 zm
      obtain ⟨w6, hw6⟩ : ∃ w6, w6 = w8.setCell ⟨hb, 1, none⟩ (.slice ha8 (ne + 1) hc8) := ⟨_, rfl⟩
      rw [← hw6] at HP ⊢
      clear hw6
      have HB6 : Hid (Below W.heap.size W w6) := Lib.hid HP.out.bel
      obtain ⟨p1, p2⟩ := HBX.out w6 HB6.out
      have p0 := cell_of_blk p1 0
      have zp : pb < w6.heap.size := (Array.getElem?_eq_some_iff.1 p1).1
      have p1 := cell_of_blk p1 1
      simp at p0 p1
      clear p2
      have HBT := built19_any va ea vc ec VL EL w6 (HVE.out w6 HB6.out)
      rw [← HNV.out, HLE.out.1] at HBT
      go_wp2_with fail
      refine HBT.mono ?_
      rintro e w7 ⟨gb, vb, eb, rb, B, rfl, hg, _, b7⟩
      have HF7 := Lib.hid (HP.out.below b7)
      have HB7 : Hid (Below W.heap.size W w7) := Lib.hid HF7.out.bel
      have HG7 := Lib.hid hg
      clear hg b7 HBT p0 p1 zp
      have p0 := cell_of_blk HF7.out.back 0
      have p1 := cell_of_blk HF7.out.back 1
      have zp := (Array.getElem?_eq_some_iff.1 HF7.out.back).1
      simp at p0 p1
      have HBT := built19_any va ba vc bc VL (TL EL EL.length) w7 (ptIn_back (HVE.out w7 HB7.out) (by rw [HLE.out.1]; exact HF7.out.ob.toV))
      rw [← HNV.out, TL_len (Nat.le_refl _), HLE.out.1] at HBT
      go_wp2_with fail
      refine HBT.mono ?_
      rintro e w9 ⟨gb2, vb2, eb2, rb2, B2, rfl, hg, _, b7⟩
      have HF9 := Lib.hid (HF7.out.below b7)
      have HB9 : Hid (Below W.heap.size W w9) := Lib.hid HF9.out.bel
      have HG9 := Lib.hid (HG7.out.below b7)
      have HH9 := Lib.hid hg
      clear hg b7 HBT p0 p1 zp
      have p0 := cell_of_blk HF9.out.wide 0
      have p1 := cell_of_blk HF9.out.wide 1
      have zp := (Array.getElem?_eq_some_iff.1 HF9.out.wide).1
      simp at p0 p1
      have HBT := built19_any va ha8 vc hc8 VL (EL ++ [x]) w9 (ptIn_wide (HVE.out w9 HB9.out) HF9.out.oh.toV (by rw [HX.out]; exact ⟨rfl, rfl, rfl⟩) (by rw [HX.out]; exact ⟨by show I64 1073741824; unfold I64; omega, HM12.out.1, HM12.out.2⟩) (by rw [HX.out]; have := HLB.out; show L.size ≤ 2000000; omega) (by have := HLE.out; omega))
      rw [← HNV.out, List.length_append, HLE.out.1] at HBT
      change Calls _ _ #[.agg #[.slice va nv vc, .slice ha8 (ne + 1) hc8]] _ _ at HBT
      go_wp2_with fail
      refine HBT.mono ?_
      rintro e w10 ⟨gb3, vb3, eb3, rb3, B3, rfl, hg, _, b7⟩
      have hlen := built_len HS.out
      have hE2 : adE (adV [] (VL.map Vr.v)) [] ((TL EL ne).map Er.e) = (adE (adV [] (VL.map Vr.v)) [] (EL.map Er.e)).map turn := by
        rw [show TL EL ne = TL EL EL.length by rw [HLE.out.1], TL_all]
        exact adE_turn _ _ []
      have hE3 : adE (adV [] (VL.map Vr.v)) [] ((EL ++ [x]).map Er.e) = (addE (adV [] (VL.map Vr.v)) (adE (adV [] (VL.map Vr.v)) [] (EL.map Er.e)) x.e).2 := by
        rw [List.map_append]
        exact adE_snoc _ _ _ _
      rw [hE3] at hg
      rw [hE2] at HH9
      clear hE2 hE3
      obtain ⟨V, hV⟩ : ∃ V, V = adV [] (VL.map Vr.v) := ⟨_, rfl⟩
      rw [← hV] at hg hlen HH9 HG9
      obtain ⟨E, hE⟩ : ∃ E, E = adE V [] (EL.map Er.e) := ⟨_, rfl⟩
      rw [← hE] at hg hlen HH9 HG9
      have hl3 := addE_len V E x.e
      have HLN := Lib.hid hlen
      have HL3 : Hid ((addE V E x.e).2.length ≤ 61) := Lib.hid (by omega)
      have HG10 := Lib.hid (HG9.out.below b7)
      have HH10 := Lib.hid (HH9.out.below b7)
      have HI10 := Lib.hid hg
      have HB10 : Hid (Below W.heap.size W w10) := Lib.hid (HB9.out.trans (b7.mono HB9.out.size))
      clear hg b7 HBT p0 p1 zp hV hE hlen hl3
      obtain ⟨p1, p2⟩ := HBX.out w10 HB10.out
      have a0 := cell_of_blk p2 0
      have a1 := cell_of_blk p2 1
      have a2 := cell_of_blk p2 2
      have a3 := cell_of_blk p2 3
      have za : ab < w10.heap.size := (Array.getElem?_eq_some_iff.1 p2).1
      simp at a0 a1 a2 a3
      clear p1 p2

      go_wp2_with fail
      refine (run19_w gb vb eb V E a.fr a.t a.lab a.most 1048576 w10 HG10.out ⟨HLN.out.1, by have := HLN.out.2; omega⟩ HF.out HT.out HL.out (Nat.le_refl _)).mono ?_
      rintro e w11 ⟨v1, l, ce, rfl, o1, b7, r1⟩
      obtain ⟨s1, c1, rfl⟩ := o1.shape
      have HR1 := Lib.hid r1
      have HH11 := Lib.hid (HH10.out.below b7)
      have HI11 := Lib.hid (HI10.out.below b7)
      have HB11 : Hid (Below W.heap.size W w11) := Lib.hid (HB10.out.trans (b7.mono HB10.out.size))
      clear o1 r1 b7 a0 a1 a2 a3 za
      obtain ⟨p1, p2⟩ := HBX.out w11 HB11.out
      have a0 := cell_of_blk p2 0
      have a1 := cell_of_blk p2 1
      have a2 := cell_of_blk p2 2
      have a3 := cell_of_blk p2 3
      have za : ab < w11.heap.size := (Array.getElem?_eq_some_iff.1 p2).1
      simp at a0 a1 a2 a3
      clear p1 p2

      go_wp2_with fail
      refine (run19_w gb2 vb2 eb2 V (E.map turn) a.t a.fr a.lab a.most 1048576 w11 HH11.out ⟨HLN.out.1, by rw [List.length_map]; have := HLN.out.2; omega⟩ HT.out HF.out HL.out (Nat.le_refl _)).mono ?_
      rintro e w12 ⟨v2, m, cf, rfl, o1, b7, r1⟩
      obtain ⟨s2, c2, rfl⟩ := o1.shape
      have HR2 := Lib.hid r1
      have HI12 := Lib.hid (HI11.out.below b7)
      have HB12 : Hid (Below W.heap.size W w12) := Lib.hid (HB11.out.trans (b7.mono HB11.out.size))
      clear o1 r1 b7 a0 a1 a2 a3 za
      obtain ⟨p1, p2⟩ := HBX.out w12 HB12.out
      have a0 := cell_of_blk p2 0
      have a1 := cell_of_blk p2 1
      have a2 := cell_of_blk p2 2
      have a3 := cell_of_blk p2 3
      have za : ab < w12.heap.size := (Array.getElem?_eq_some_iff.1 p2).1
      simp at a0 a1 a2 a3
      clear p1 p2

      go_wp2_with fail
      refine (run19_w gb3 vb3 eb3 V (addE V E x.e).2 a.fr a.t a.lab a.most 1048576 w12 HI12.out ⟨HLN.out.1, HL3.out⟩ HF.out HT.out HL.out (Nat.le_refl _)).mono ?_
      rintro e w13 ⟨v3, n, co, rfl, o1, b7, r1⟩
      obtain ⟨s3, c3, rfl⟩ := o1.shape
      obtain ⟨q1, q2, q3⟩ := back_law HLN.out.1 HLN.out.2 HR1.out HR2.out r1
      have HB13 : Hid (Below W.heap.size W w13) := Lib.hid (HB12.out.trans (b7.mono HB12.out.size))
      clear o1 r1 b7 a0 a1 a2 a3 za HR1 HR2
      subst q1
      rw [← q2]
      have t1 : (ce == ce) = true := by simp
      have t2 : ((l.length : Int) == (l.length : Int)) = true := by simp
      have t2' : (l.length == l.length) = true := by simp
      clear q2
      by_cases hce : ce = 0
      · obtain ⟨q4, q5⟩ := q3 hce
        subst q4
        have t4 : (ce != 0) = false := by simp [hce]
        have t5 : decide ((n.length : Int) ≤ (l.length : Int)) = true := decide_eq_true (by omega)
        have t6 : decide (n.length ≤ l.length) = true := decide_eq_true q5
        clear q3 q5 hce
        go_wp2_with fail
        go_ret
        exact ⟨rfl, HWW.out.trans (HB13.out.mono HWW.out.size)⟩
      · have t4 : (ce != 0) = true := by simpa using hce
        clear q3 hce
        go_wp2_with fail
        go_ret
        exact ⟨rfl, HWW.out.trans (HB13.out.mono HWW.out.size)⟩
end Go.Proofs.Ytaanohgkdpohhaa
namespace Go.Proofs.Ytaanohgkdpohhaa
open Go.RowKit Go.Maps

set_option maxRecDepth 100000 in
theorem partsU2 {w : World} {cs : List Value} (h : MemU bulkM Try.prog w 105 cs) : ∃ (va : Option Addr) (VL : List Vr) (vc : Nat) (ea : Option Addr) (EL : List Er) (ec : Nat), cs = [.slice va VL.length vc, .slice ea EL.length ec] ∧ kVr.V w va VL ∧ kEr.V w ea EL ∧ (∀ x ∈ VL, VrOk w x) ∧ (∀ x ∈ EL, ErOk w x) ∧ (ea = none → ec = 0) := by
  obtain ⟨hl, hf⟩ := h.struct Try.underlying105
  have e0 : Try.prog.cellsOf 105 = 2 := by kernel_rfl
  have e1 : Try.prog.cellsOf 78 = 1 := by kernel_rfl
  have e2 : Try.prog.cellsOf 79 = 1 := by kernel_rfl
  rw [e0] at hl
  obtain ⟨va, VL, vc, h1, _, _, h4, h5⟩ := rowU kVr Try.underlying78 (by kernel_rfl) (VrOk w) (vertexU w) (hf 0 _ rfl)
  obtain ⟨ea, EL, ec, g1, _, g3, g4, g5⟩ := rowU kEr Try.underlying79 (by kernel_rfl) (ErOk w) (edgeU w) (hf 1 _ rfl)
  obtain ⟨p, q, rfl⟩ : ∃ p q, cs = [p, q] := by
    match cs, hl with
    | [p, q], _ => exact ⟨p, q, rfl⟩
  simp [e1, e2] at h1 g1
  subst h1 g1
  exact ⟨va, VL, vc, ea, EL, ec, rfl, h4, g4, h5, g5, fun e => (g3 e).2⟩
set_option maxRecDepth 100000 in
theorem ints2U {w : World} {cs : List Value} (h : MemU bulkM Try.prog w 117 cs) : ∃ a b : Int, cs = [.int .i64 a, .int .i64 b] ∧ I64 a ∧ I64 b := by
  obtain ⟨hl, hf⟩ := h.array Try.underlying117
  have e0 : Try.prog.cellsOf 117 = 2 := by kernel_rfl
  have e1 : Try.prog.cellsOf 3 = 1 := by kernel_rfl
  rw [e0] at hl
  obtain ⟨x, hx, wx⟩ := (hf 0 (by decide)).mem.int Try.underlying3
  obtain ⟨y, hy, wy⟩ := (hf 1 (by decide)).mem.int Try.underlying3
  obtain ⟨p, q, rfl⟩ : ∃ p q, cs = [p, q] := by
    match cs, hl with
    | [p, q], _ => exact ⟨p, q, rfl⟩
  simp [e1] at hx hy
  subst hx hy
  exact ⟨x, y, rfl, I64.of_wf wx, I64.of_wf wy⟩
theorem okWide_arr {P : Program} {w : World} {r : Reach} {base : Nat} {t : TypeId} {v : Value} {n : Nat} {e : TypeId} (ht : P.underlying t = some (.array n e)) (h : Value.okWide P w r base t v) : ∃ cs, v = .agg cs ∧ cs.size = P.cellsOf t := by
  simp only [Value.okWide, ht] at h
  obtain ⟨cs, h1, h2, _⟩ := h
  exact ⟨cs, h1, h2⟩
end Go.Proofs.Ytaanohgkdpohhaa
