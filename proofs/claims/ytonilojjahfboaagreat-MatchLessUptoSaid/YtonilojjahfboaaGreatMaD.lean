/- (*match.run).linked: is there an edge from one of a row to another? Conditions: the contract's own premises. (*match.run).linked: is there an edge from one of a row to another? Conditions: the contract's own premises. (*match.run).fits: do the links hold whose later end is the last of the row? Conditions: the contract's own premises. How a row, and the rows that fit, grow in memory. Conditions: each lemma's own premises. -/
import Derived.Test.YtonilojjahfboaaGreatMaB
import Derived.BigRegion
import Derived.Deep.Cut
import Derived.Deep.CutRange
import Derived.Deep.RegionHeld3
namespace Go.Proofs.YtonilojjahfboaaGreat
open Go.RowKit Go.Maps

open Classical in
def LkdPost (q : Mq) (w : World) (l : Lk) (r : Nat) (C : Ca) (row : List Int) (vr : Value) (out : List Ws) (vo : Value) (e : Ending) (w' : World) : Prop :=
  ∃ b st' C', e = .returned (.bool b) ∧ FitR (decide (linkP q.E row l)) b (some r) st' (potQ q C) (potQ q C') ∧ MrI q w' st' C' row vr out vo ∧ Chg w w' (fun j => j = q.wb ∨ j = q.mb)
theorem zeroInts (w : World) : (zeroValue 42).run Tryz.prog w = .ok (.slice none 0 0) w := Tryz.zeroValue42 w
section
variable {q : Mq} {u u' : World} {st st' : Option Nat} {C C' : Ca} {row : List Int} {vr : Value} {out : List Ws} {vo : Value}
theorem MrI.look (h : MrI q u st C row vr out vo) {id : Int} {lab : ByteArray} (h1 : I64 id) (h2 : lab.size ≤ maxLen) (W : World) (hW : W.heap[q.mb]? = u.heap[q.mb]?) (c : Bool) :
    (Instr.lookup 220 (.map (some q.mb)) (.agg #[.int .i64 id, .string lab]) c).run Tryz.prog W = .ok (if c then .tuple #[((lookC C (id, lab)).map (fun x => Value.slice x.a x.l.length x.c)).getD (.slice none 0 0), .bool (lookC C (id, lab)).isSome] else ((lookC C (id, lab)).map (fun x => Value.slice x.a x.l.length x.c)).getD (.slice none 0 0)) W := by
  obtain ⟨f, m, hf⟩ := h.mp
  cases c
  · have := (m.of_block hW).look lawSt Tryz.underlying220 (zeroInts _) (keySt h1 h2)
    rw [hf id lab h1 h2] at this
    exact this
  · have := (m.of_block hW).look_ok lawSt Tryz.underlying220 (zeroInts _) (keySt h1 h2)
    rw [hf id lab h1 h2] at this
    rw [if_pos rfl, show (lookC C (id, lab)).isSome = ((lookC C (id, lab)).map (fun x => Value.slice x.a x.l.length x.c)).isSome by cases lookC C (id, lab) <;> rfl]
    exact this
set_option maxRecDepth 100000 in
/-- who is next is noted -/
theorem MrI.note (hq : q.Ok) (h : MrI q u st C row vr out vo) {id : Int} {lab : ByteArray} (h1 : I64 id) (h2 : lab.size ≤ maxLen) (hu : (id, lab) ∈ uniP q.V q.LS) (hn : lookC C (id, lab) = none) {a : Option Addr} {c : Nat} {L : List Int} (hf : FreshI u.heap.size u' a L) (hc : Chg u u' (fun j => j = q.wb)) (wk : WkS q.w0 u' q.wb q.gb st')
    (hl : L.length ≤ 1000) (hst : st'.isSome = true → st.isSome = true) (hL : st'.isSome = true → L = nextL q.E true lab id) :
    ∃ w', (Instr.mapUpdate 220 (.map (some q.mb)) (.agg #[.int .i64 id, .string lab]) (.slice a L.length c)).run Tryz.prog u' = .ok () w' ∧ MrI q w' st' (((id, lab), ⟨a, c, L⟩) :: C) row vr out vo ∧ Chg u w' (fun j => j = q.wb ∨ j = q.mb) := by
  have hwr : q.wb ≠ q.rb := fun e => by have := hq.wbB; have := hq.rbB; omega
  have hwm : q.wb ≠ q.mb := fun e => by have := hq.wbB; have := hq.mbB; omega
  have hne : q.rb ≠ q.mb := fun e => by
    obtain ⟨es, cl, hm⟩ := h.mapB
    have hb := h.blk
    rw [e, hm] at hb
    cases hb
  obtain ⟨f, m, hff⟩ := h.mp
  have m' := m.of_block (hc.block q.mb m.lt (fun e => hwm e.symm))
  have hk : (keysC C).length ≤ (uniP q.V q.LS).length := by
    have := @nodup_lenG _ _ (keysC C) (uniP q.V q.LS) h.kn h.ku
    exact this
  have hC : C.length < maxLen := by
    have e1 : (keysC C).length = C.length := by unfold keysC; simp
    have e2 : (uniP q.V q.LS).length ≤ 100 * 1000 := by
      unfold uniP
      rw [List.length_flatMap]
      have : ∀ l : List Lk, (l.map (fun l => (q.V.map (fun v => (v.id, l.lab))).length)).sum = l.length * q.V.length := by
        intro l
        induction l with
        | nil => simp
        | cons x l ih => rw [List.map_cons, List.sum_cons, ih, List.length_map, List.length_cons, Nat.succ_mul]; omega
      rw [this]
      exact Nat.mul_le_mul hq.ll hq.vl
    unfold maxLen
    omega
  obtain ⟨w', hrun, hm2, ht⟩ := m'.store (val := .slice a L.length c) lawSt Tryz.underlying220 hC (keySt h1 h2)
  have hnone : f (stLit id lab) = none := by rw [hff id lab h1 h2, hn]; rfl
  rw [hnone] at hm2
  have hsz := turned_size ht
  have hcc : Chg u w' (fun j => j = q.wb ∨ j = q.mb) := (hc.mono (fun j _ e => .inl e)).turned ht (fun _ => .inr rfl)
  have hlt : q.wb < u.heap.size := h.wk.lt
  have ki : ∀ (g : Nat) (cur : Array Value), u'.heap[g]? = some (.cells cur 3 (0, 0)) → w'.heap[g]? = some (.cells cur 3 (0, 0)) := fun g cur hg => (turned_block ht (fun e => by
    obtain ⟨es, clk, es', clk', hb, _⟩ := ht
    rw [← e, hg] at hb
    cases hb)).trans hg
  have kd : ∀ (g : Nat) (cur : Array Value), u.heap[g]? = some (.cells cur 3 (0, 0)) → w'.heap[g]? = some (.cells cur 3 (0, 0)) := fun g cur hg => ki g cur ((hc.block g (Array.getElem?_eq_some_iff.1 hg).1 (fun e => (h.int_ne hg).2.1 e)).trans hg)
  refine ⟨w', hrun, h.turn hcc hne hwr ?_ ⟨_, hm2, ?_⟩ ?_ ?_ ?_ ?_ ?_, hcc⟩
  · refine wk.chgM ((Chg.refl u' (fun j => j = q.mb)).turned ht (fun _ => rfl)) hwm (fun j hj => ?_)
    have := wk.new
    have := hq.wbB
    have := hq.mbB
    omega
  · intro id' lab' g1 g2
    rw [lookC_cons]
    unfold upd
    by_cases e : (id', lab') = (id, lab)
    · rw [if_pos e]
      injection e with e1 e2
      subst e1 e2
      rw [if_pos rfl]
      rfl
    · rw [if_neg e, if_neg (fun e' => e (by obtain ⟨a1, a2⟩ := stLit_inj g1 g2 h1 h2 e'; rw [a1, a2]))]
      exact hff id' lab' g1 g2
  · intro p hp
    rcases List.mem_cons.1 hp with rfl | hp
    · refine FrX.keep (u := u') ?_ (fun g cur hg _ => ki g cur hg) (.inl rfl)
      refine (FrX.of_fresh (x := ⟨a, c, L⟩) (B := u.heap.size) hf (fun g hg => by obtain ⟨cur, hb⟩ := ownI_block h.rowo hg; exact (Array.getElem?_eq_some_iff.1 hb).1)).mono ?_
      have := h.lt
      have := hq.rbB
      omega
    · exact (h.mc p hp).keep (fun g cur hg _ => kd g cur hg) (.inl rfl)
  · intro hs p hp
    rcases List.mem_cons.1 hp with rfl | hp
    · exact hL hs
    · exact h.mr (hst hs) p hp
  · intro p hp
    rcases List.mem_cons.1 hp with rfl | hp
    · exact hl
    · exact h.ml p hp
  · exact List.nodup_cons.2 ⟨lookC_none.1 hn, h.kn⟩
  · intro p hp
    rcases List.mem_cons.1 hp with rfl | hp
    · exact hu
    · exact h.ku p hp
end
end Go.Proofs.YtonilojjahfboaaGreat
namespace Go.Proofs.YtonilojjahfboaaGreat
open Go.RowKit Go.Maps

open Classical in
set_option maxRecDepth 100000 in
set_option maxHeartbeats 4000000 in
theorem linked_any (q : Mq) (hq : q.Ok) (w : World) (r : Nat) (C : Ca) (row : List Int) (vr : Value) (out : List Ws) (vo : Value) (l : Lk) (hl : l ∈ q.LS) (hk : max l.fr l.tt + 1 = row.length) (h : MrI q w (some r) C row vr out vo) :
    Calls Tryz.prog 312 #[.pointer (some ⟨q.rb, 0, none⟩), .agg #[.int .i64 l.fr, .int .i64 l.tt, .string l.lab]] w (LkdPost q w l r C row vr out vo) := by
  obtain ⟨⟨a1, a2⟩, a3, a4⟩ := rightLk_in (hq.lr l hl)
  obtain ⟨fr, tt, lab⟩ := l
  simp only at hk a1 a2 a3 a4 ⊢
  obtain ⟨i, rfl⟩ : ∃ i : Nat, fr = i := ⟨fr.toNat, by omega⟩
  obtain ⟨j, rfl⟩ : ∃ i : Nat, tt = i := ⟨tt.toNat, by omega⟩
  have hi : i < row.length := by omega
  have hj : j < row.length := by omega
  obtain ⟨x, hx⟩ : ∃ x, row[i]? = some x := ⟨_, List.getElem?_eq_getElem hi⟩
  obtain ⟨y, hy⟩ : ∃ y, row[j]? = some y := ⟨_, List.getElem?_eq_getElem hj⟩
  have hxv := h.rv x (List.mem_of_getElem? hx)
  have HXI : Hid (I64 x) := Lib.hid (by
    obtain ⟨v, hv, rfl⟩ := List.mem_map.1 hxv
    exact checkR_ids (hq.g.ok.v v hv) (by simp))
  have HLZ : Hid (lab.size ≤ maxLen) := Lib.hid (hq.ls _ hl)
  have HUN : Hid ((x, lab) ∈ uniP q.V q.LS) := Lib.hid (by
    obtain ⟨v, hv, rfl⟩ := List.mem_map.1 hxv
    exact List.mem_flatMap.2 ⟨_, hl, List.mem_map.2 ⟨v, hv, rfl⟩⟩)
  have HLP : Hid (linkP q.E row ⟨i, j, lab⟩ ↔ edB q.E lab x y) := Lib.hid (by
    unfold linkP
    simp only [Int.toNat_natCast, List.getD_eq_getElem?_getD, hx, hy, Option.getD_some])
  obtain ⟨W, hW⟩ : ∃ W, W = (w.alloc (.cells #[.int .i64 i, .int .i64 j, .string lab] 128)) := ⟨_, rfl⟩
  obtain ⟨lb, hlb⟩ : ∃ b, b = w.heap.size := ⟨_, rfl⟩
  have eL : W.heap[lb]? = some (.cells #[.int .i64 i, .int .i64 j, .string lab] 128 (0, 0)) := by rw [hW, hlb]; exact heap_new w _
  have hBW : Below w.heap.size w W := by rw [hW]; exact below_box w _
  have h1 := h.below hBW
  obtain ⟨a, cap, rfl⟩ := h1.rowo.shape
  obtain ⟨g, cp, hv, hgB, hcp, hat⟩ := h1.rowo.at' (fun e => by rw [e] at hi; simp at hi)
  injection hv with e1 e2 e3
  subst e1 e3
  have r0 := kI_cell hat hx
  have r1 := kI_cell hat hy
  rw [Nat.zero_add] at r0 r1
  have hgl := hat.lt
  obtain ⟨n, hn⟩ : ∃ n, n = row.length := ⟨_, rfl⟩
  have HN : Hid (n = row.length) := Lib.hid hn
  obtain ⟨c0, c1, c2, c3, c4, c5, c6, c7, cl⟩ := h1.cells
  rw [← hn] at c5
  have l0 : W.cell? ⟨lb, 0, none⟩ = some (.int .i64 i) := by rw [cell_of_blk eL]; rfl
  have l1 : W.cell? ⟨lb, 1, none⟩ = some (.int .i64 j) := by rw [cell_of_blk eL]; rfl
  have l2 : W.cell? ⟨lb, 2, none⟩ = some (.string lab) := by rw [cell_of_blk eL]; rfl
  have ll := (Array.getElem?_eq_some_iff.1 eL).1
  have HIJ : Hid (i < n ∧ j < n) := Lib.hid ⟨by omega, by omega⟩
  have hin : (i : Int) < (n : Int) := by omega
  have hjn : (j : Int) < (n : Int) := by omega
  have H1 := Lib.hid h1
  have HW := Lib.hid hW
  have HLB := Lib.hid hlb
  have HBW := Lib.hid hBW
  have HQ := Lib.hid hq
  have HEL := Lib.hid eL
  clear hk a1 a2 a3 a4 hl hi hj hx hy hxv h hW hlb eL hBW h1 hgB hcp hat hn e2 hq
  go_enter Tryz.func312, Tryz.ntmps312
  go_upto_region 1 with fail
  rw [← HW.out, ← HLB.out]
  go_region
  obtain ⟨U, hU⟩ : ∃ U, U = (W.alloc (.cells #[.int .i64 x, .string lab] 465)).drew := ⟨_, rfl⟩
  obtain ⟨sb, hsb⟩ : ∃ b, b = W.heap.size := ⟨_, rfl⟩
  have hBU : Below W.heap.size W U := by rw [hU]; exact (below_box _ _).drew
  have eS : U.heap[sb]? = some (.cells #[.int .i64 x, .string lab] 465 (0, 0)) := by rw [hU, hsb]; exact heap_new W _
  rw [← hU, ← hsb]
  have hu := H1.out.below hBU
  have HSC : Hid (∀ u, Chg U u (fun j => j = q.wb ∨ j = q.mb) → u.cell? ⟨sb, 0, none⟩ = some (.int .i64 x) ∧ u.cell? ⟨sb, 1, none⟩ = some (.string lab) ∧ u.cell? ⟨lb, 1, none⟩ = some (.int .i64 j) ∧ u.cell? ⟨g, j, none⟩ = some (.int .i64 y) ∧ sb < u.heap.size ∧ lb < u.heap.size ∧ g < u.heap.size) := Lib.hid (fun u hcu => by
    have hs1 := H1.out.wk.lt
    obtain ⟨es, cl0, hm0⟩ := hu.mapB
    have g1 := (hcu.block sb (Array.getElem?_eq_some_iff.1 eS).1 (fun e => by
      rcases e with e | e
      · rw [e] at hsb; omega
      · rw [← e, eS] at hm0; cases hm0)).trans eS
    have eL := (hBU.block _ (Array.getElem?_eq_some_iff.1 HEL.out).1).trans HEL.out
    have g2 := (hcu.block lb (Array.getElem?_eq_some_iff.1 eL).1 (fun e => by
      rcases e with e | e
      · rw [e] at eL; exact cells_ne eL hu.wk.blk (by decide)
      · rw [← e, eL] at hm0; cases hm0)).trans eL
    have hgb : u.heap[g]? = U.heap[g]? := hcu.block g (Nat.lt_of_lt_of_le hgl hBU.size) (fun e => by
      obtain ⟨cur, hg⟩ := ownI_block hu.rowo (j := g) rfl
      have := hu.int_ne hg
      rcases e with e | e
      · exact this.2.1 e
      · exact this.2.2 e)
    have r1u := (hBU.cell (p := ⟨g, j, none⟩) hgl).trans r1
    exact ⟨by rw [cell_of_blk g1]; rfl, by rw [cell_of_blk g1]; rfl, by rw [cell_of_blk g2]; rfl, (World.cell?_of_block (a := ⟨g, j, none⟩) hgb).trans r1u, (Array.getElem?_eq_some_iff.1 g1).1, (Array.getElem?_eq_some_iff.1 g2).1, Nat.lt_of_lt_of_le (Nat.lt_of_lt_of_le hgl hBU.size) hcu.size⟩)
  have HU := Lib.hid hu
  have HBU : Hid (Below w.heap.size w U) := Lib.hid (below_then HBW.out hBU)
  clear hU hsb hBU eS hu c0 c1 c2 c3 c4 c5 c6 c7 cl l0 l1 l2 ll r0 r1 hgl
  obtain ⟨c0, c1, c2, c3, c4, c5, c6, c7, cl⟩ := HU.out.cells
  rw [← HN.out] at c5
  obtain ⟨s0, s1, s2, s3, sl, ll, hgl⟩ := HSC.out U (Chg.refl _ _)
  have hlk : ∀ nq, (Instr.lookup 220 (.map (some q.mb)) (.agg #[.int .i64 x, .string lab]) true).run Tryz.prog (U.drewN nq) = _ := fun nq => HU.out.look HXI.out HLZ.out (U.drewN nq) rfl true
  simp only [if_true] at hlk
  obtain ⟨o, ho⟩ : ∃ o, lookC C (x, lab) = o := ⟨_, rfl⟩
  have HO := Lib.hid ho
  rw [ho] at hlk
  clear ho
  cases o with
  | some ws =>
    simp only [Option.map_some, Option.getD_some, Option.isSome_some] at hlk
    go_upto_region 2 with fail
    go_quiet (fail)
    obtain ⟨X, hX⟩ : ∃ X, X = U.drewN nq := ⟨_, rfl⟩
    have HX : Hid (MrI q X (some r) C row (.slice (some ⟨g, 0, none⟩) row.length cap) out vo) := Lib.hid (by rw [hX]; exact HU.out.below (below_drewN (Below.refl _ _) _))
    have HXC : Hid (Chg U X (fun j => j = q.wb ∨ j = q.mb)) := Lib.hid (by rw [hX]; exact Chg.of_below (below_drewN (Below.refl _ _) _) _)
    have HXW : Hid (Chg w X (fun j => j = q.wb ∨ j = q.mb)) := Lib.hid (by rw [hX]; exact Chg.of_below (below_drewN HBU.out _) _)
    have HLK := HO
    rw [← hX]
    clear hlk hX c0 c1 c2 c3 c4 c5 c6 c7 cl s0 s1 s2 s3 sl ll hgl
    go_upto_region 5 with fail
    obtain ⟨c0, c1, c2, c3, c4, c5, c6, c7, cl⟩ := HX.out.cells
    rw [← HN.out] at c5
    obtain ⟨s0, s1, s2, s3, sl, ll, hgl⟩ := HSC.out X HXC.out
    have hlk : ∀ nq, (Instr.lookup 220 (.map (some q.mb)) (.agg #[.int .i64 x, .string lab]) false).run Tryz.prog (X.drewN nq) = _ := fun nq => HX.out.look HXI.out HLZ.out (X.drewN nq) rfl false
    rw [HLK.out] at hlk
    simp only [Option.map_some, Option.getD_some, Bool.false_eq_true, if_false] at hlk
    have HCT : Hid (∀ k, Calls Tryz.prog 224 #[.slice ws.a ws.l.length ws.c, .int .i64 y] (X.drewN k) fun e w' => e = .returned (.bool (ws.l.contains y)) ∧ ∃ i, w' = X.drewN i) := Lib.hid (fun k => by
      have hm := HX.out.mc _ (lookC_mem HLK.out)
      have hl := HX.out.ml _ (lookC_mem HLK.out)
      refine (contI_any ws.a ws.c ws.l y (X.drewN k) (hm.fresh.toV.below (below_drewN (Below.refl _ _) k)) (by simp only at hl; omega)).mono ?_
      rintro e w' ⟨rfl, rfl⟩
      exact ⟨rfl, k, rfl⟩)
    go_quiet ((go_at_call 224; exact HCT.out _))
    go_wp2_with fail
    go_ret
    refine ⟨_, _, _, rfl, ?_, HX.out.below (below_drewN (Below.refl _ _) _), HXW.out.trans (Chg.of_below (below_drewN (Below.refl _ _) _) (fun _ => False)) (fun _ _ e => e.elim)⟩
    have hr := HX.out.mr rfl _ (lookC_mem HLK.out)
    simp only at hr
    refine .inr ⟨r, r, rfl, rfl, by omega, ?_⟩
    rw [hr, List.contains_eq_mem]
    exact decide_eq_decide.2 ((mem_next HQ.out.g.ok.se).trans (by simp [HLP.out]))
  | none =>
    simp only [Option.map_none, Option.getD_none, Option.isSome_none] at hlk
    go_upto_region 2 with fail
    go_quiet (fail)
    obtain ⟨Y, hY⟩ : ∃ X, X = U.drewN nq := ⟨_, rfl⟩
    have HY : Hid (MrI q Y (some r) C row (.slice (some ⟨g, 0, none⟩) row.length cap) out vo) := Lib.hid (by rw [hY]; exact HU.out.below (below_drewN (Below.refl _ _) _))
    have HYC : Hid (Below U.heap.size U Y) := Lib.hid (by rw [hY]; exact below_drewN (Below.refl _ _) _)
    rw [← hY]
    clear hlk hY c0 c1 c2 c3 c4 c5 c6 c7 cl s0 s1 s2 s3 sl ll hgl
    go_upto_region 4 with fail
    obtain ⟨cst, hcst⟩ : ∃ n, n = 1 + (idsE q.E (sideP true x)).length := ⟨_, rfl⟩
    have HCST := Lib.hid hcst
    have HNX : Hid (Calls Tryz.prog 40 #[.pointer (some ⟨q.wb, 0, none⟩), .int .i64 x, .bool true, .string lab] Y.drew (fun e w2 => ∃ (a : Option Addr) (c : Nat) (L : List Int), e = .returned (.slice a L.length c) ∧ Chg Y w2 (fun j => j = q.wb) ∧ ∃ w3, (Instr.mapUpdate 220 (.map (some q.mb)) (.agg #[.int .i64 x, .string lab]) (.slice a L.length c)).run Tryz.prog w2 = .ok () w3 ∧ (MrI q w3 (payS (some r) cst) (((x, lab), ⟨a, c, L⟩) :: C) row (.slice (some ⟨g, 0, none⟩) row.length cap) out vo ∧ Chg Y w3 (fun j => j = q.wb ∨ j = q.mb) ∧ L = (if (payS (some r) cst).isSome then nextL q.E true lab x else [])))) := Lib.hid (by
      refine (wnext_any q.w0 Y.drew q.wb q.gb q.vb q.eb q.V q.E (some r) x true lab HQ.out.g (HY.out.wk.below (below_drewN (Below.refl _ _) 1)) (by have := HQ.out.el; omega)).mono ?_
      rintro e w2 ⟨v, rfl, o2, s2, k2⟩
      rw [← HCST.out] at o2 s2
      obtain ⟨a, c, rfl⟩ := o2.shape
      have hk2 : Chg Y w2 (fun j => j = q.wb) := (Chg.refl Y (fun j => j = q.wb)).drew.trans k2 (fun _ _ e => e)
      have hlen : (if (payS (some r) cst).isSome = true then nextL q.E true lab x else []).length ≤ 1000 := by
        split
        · exact Nat.le_trans (next_len _ _ _ _) HQ.out.el
        · exact Nat.zero_le _
      obtain ⟨w3, hrun, hm3, hc3⟩ := HY.out.note HQ.out (c := c) HXI.out HLZ.out HUN.out HO.out (FreshI.of_own o2) hk2 s2 hlen (fun _ => rfl) (fun hs => by rw [if_pos hs])
      exact ⟨a, c, _, rfl, hk2, w3, hrun, hm3, hc3, rfl⟩)
    have HS1 : Hid (∀ u, Chg Y u (fun j => j = q.wb ∨ j = q.mb) → u.cell? ⟨q.rb, 0, none⟩ = some (.pointer (some ⟨q.wb, 0, none⟩)) ∧ u.cell? ⟨q.rb, 4, none⟩ = some (.map (some q.mb)) ∧ u.cell? ⟨sb, 0, none⟩ = some (.int .i64 x) ∧ u.cell? ⟨sb, 1, none⟩ = some (.string lab) ∧ q.rb < u.heap.size ∧ sb < u.heap.size) := Lib.hid (fun u hu => by
      have hb := (hu.block q.rb HY.out.lt (fun e => by
        rcases e with e | e
        · have := HQ.out.wbB; have := HQ.out.rbB; omega
        · obtain ⟨es, cl0, hm0⟩ := HY.out.mapB
          have hb := HY.out.blk
          rw [e, hm0] at hb
          cases hb)).trans HY.out.blk
      obtain ⟨s0, s1, _, _, sl, _, _⟩ := HSC.out u ((Chg.of_below HYC.out _).trans hu (fun _ _ e => e))
      exact ⟨by rw [cell_of_blk hb]; rfl, by rw [cell_of_blk hb]; rfl, s0, s1, (Array.getElem?_eq_some_iff.1 hb).1, sl⟩)
    go_cut [5] from 30 to 43 (fun s5 wc => ∃ (a : Option Addr) (c : Nat) (L : List Int) (u : World), u = wc ∧ s5 = .pointer (some ⟨sb, 0, none⟩) ∧ Hid (MrI q u (payS (some r) cst) (((x, lab), ⟨a, c, L⟩) :: C) row (.slice (some ⟨g, 0, none⟩) row.length cap) out vo ∧ Chg Y u (fun j => j = q.wb ∨ j = q.mb) ∧ L = (if (payS (some r) cst).isSome then nextL q.E true lab x else [])))
    case first =>
      go_region_held3 (fun u => u.cell? ⟨q.rb, 0, none⟩ = some (.pointer (some ⟨q.wb, 0, none⟩)) ∧ u.cell? ⟨q.rb, 4, none⟩ = some (.map (some q.mb)) ∧ u.cell? ⟨sb, 0, none⟩ = some (.int .i64 x) ∧ u.cell? ⟨sb, 1, none⟩ = some (.string lab) ∧ q.rb < u.heap.size ∧ sb < u.heap.size)
        (first | exact HS1.out _ (Chg.refl _ _).drew | exact HS1.out _ HK2.out | exact HS1.out _ H3.out.2.1)
        ((go_at_call 40; (with_reducible refine HNX.out.mono ?_); rintro e w2 ⟨a, c, L, rfl, hk2, w3, hrun, h3⟩; have HK2 : Hid (Chg Y w2 (fun j => j = q.wb ∨ j = q.mb)) := Lib.hid (hk2.mono (fun _ _ e => Or.inl e)); have H3 := Lib.hid h3; clear hk2 h3))
      all_goals
        go_wp2_with fail
        go_meet
        exact ⟨_, _, _, _, rfl, rfl, H3⟩
    case rest =>
    obtain ⟨a, c, L, X, rfl, rfl, H3⟩ := hcut
    obtain ⟨ws, hws⟩ : ∃ ws : Ws, ws = ⟨a, c, L⟩ := ⟨_, rfl⟩
    obtain ⟨C2, hC2⟩ : ∃ C2, C2 = (((x, lab), ws) :: C) := ⟨_, rfl⟩
    obtain ⟨st2, hst2⟩ : ∃ s, s = payS (some r) cst := ⟨_, rfl⟩
    have h3 := H3.out
    rw [← hws, ← hC2, ← hst2] at h3
    have HX := Lib.hid h3.1
    have HXC : Hid (Chg U X (fun j => j = q.wb ∨ j = q.mb)) := Lib.hid ((Chg.of_below HYC.out _).trans h3.2.1 (fun _ _ e => e))
    have HXW : Hid (Chg w X (fun j => j = q.wb ∨ j = q.mb)) := Lib.hid ((Chg.of_below HBU.out _).trans HXC.out (fun _ _ e => e))
    have HLK : Hid (lookC C2 (x, lab) = some ws) := Lib.hid (by rw [hC2, lookC_cons, if_pos rfl])
    have HWS : Hid (ws.l = (if st2.isSome then nextL q.E true lab x else [])) := Lib.hid (by rw [hws]; exact h3.2.2)
    have HPOT : Hid (potQ q C2 + cst ≤ potQ q C) := Lib.hid (by
      rw [hC2, HCST.out]
      exact pot_add (costP q.E) (lookC_none.1 HO.out) HUN.out)
    have HST2 := Lib.hid hst2
    clear hws hC2 hst2 h3 H3 HY HYC HNX HS1
    apply_assumption
    go_upto_region 5 with fail
    obtain ⟨c0, c1, c2, c3, c4, c5, c6, c7, cl⟩ := HX.out.cells
    rw [← HN.out] at c5
    obtain ⟨s0, s1, s2, s3, sl, ll, hgl⟩ := HSC.out X HXC.out
    have hlk : ∀ nq, (Instr.lookup 220 (.map (some q.mb)) (.agg #[.int .i64 x, .string lab]) false).run Tryz.prog (X.drewN nq) = _ := fun nq => HX.out.look HXI.out HLZ.out (X.drewN nq) rfl false
    rw [HLK.out] at hlk
    simp only [Option.map_some, Option.getD_some, Bool.false_eq_true, if_false] at hlk
    have HCT : Hid (∀ k, Calls Tryz.prog 224 #[.slice ws.a ws.l.length ws.c, .int .i64 y] (X.drewN k) fun e w' => e = .returned (.bool (ws.l.contains y)) ∧ ∃ i, w' = X.drewN i) := Lib.hid (fun k => by
      have hm := HX.out.mc _ (lookC_mem HLK.out)
      have hl := HX.out.ml _ (lookC_mem HLK.out)
      refine (contI_any ws.a ws.c ws.l y (X.drewN k) (hm.fresh.toV.below (below_drewN (Below.refl _ _) k)) (by simp only at hl; omega)).mono ?_
      rintro e w' ⟨rfl, rfl⟩
      exact ⟨rfl, k, rfl⟩)
    go_quiet ((go_at_call 224; exact HCT.out _))
    go_wp2_with fail
    go_ret
    refine ⟨_, _, _, rfl, ?_, HX.out.below (below_drewN (Below.refl _ _) _), HXW.out.trans (Chg.of_below (below_drewN (Below.refl _ _) _) (fun _ => False)) (fun _ _ e => e.elim)⟩
    cases hs : st2 with
    | none =>
      have hw := HWS.out
      rw [hs] at hw
      have h1 := HST2.out
      rw [hs] at h1
      refine .inl ⟨rfl, by rw [hw]; rfl, fun r' e => ?_⟩
      cases e
      have := HPOT.out
      have h2 : ¬ cst ≤ r := fun h => by
        unfold payS at h1
        simp [h] at h1
      omega
    | some r' =>
      have hw := HWS.out
      rw [hs] at hw
      have h1 := HST2.out
      rw [hs] at h1
      simp only [Option.isSome_some, if_true] at hw
      have h2 : cst ≤ r ∧ r' = r - cst := by
        by_cases hle : cst ≤ r
        · rw [payS_le hle] at h1
          exact ⟨hle, by simpa using h1⟩
        · rw [payS_lt (by omega)] at h1
          cases h1
      refine .inr ⟨r, r', rfl, rfl, by have := HPOT.out; omega, ?_⟩
      rw [hw, List.contains_eq_mem]
      exact decide_eq_decide.2 ((mem_next HQ.out.g.ok.se).trans (by simp [HLP.out]))
end Go.Proofs.YtonilojjahfboaaGreat
namespace Go.Proofs.YtonilojjahfboaaGreat
open Go.RowKit Go.Maps

/-- does a link hold, if its later end is the last? -/
def tieL (E : List Eg) (row : List Int) (l : Lk) : Prop := max l.fr l.tt + 1 = (row.length : Int) → linkP E row l
def TieF (q : Mq) (w : World) (r : Nat) (C : Ca) (row : List Int) (vr : Value) (out : List Ws) (vo : Value) (w' : World) : Prop :=
  ∃ r' C', MrI q w' (some r') C' row vr out vo ∧ r + potQ q C' ≤ r' + potQ q C ∧ Chg w w' (fun j => j = q.wb ∨ j = q.mb)
def TieT (q : Mq) (w : World) (r : Nat) (C : Ca) (row : List Int) (vr : Value) (out : List Ws) (vo : Value) (no : Prop) (w' : World) : Prop :=
  ∃ st' C', MrI q w' st' C' row vr out vo ∧ Chg w w' (fun j => j = q.wb ∨ j = q.mb) ∧ ((st' = none ∧ r < potQ q C) ∨ ∃ r', st' = some r' ∧ r + potQ q C' ≤ r' + potQ q C ∧ no)
open Classical in
set_option maxRecDepth 100000 in
set_option maxHeartbeats 4000000 in
theorem fits1_any (q : Mq) (hq : q.Ok) (w : World) (r : Nat) (C : Ca) (row : List Int) (vr : Value) (out : List Ws) (vo : Value) (l : Lk) (hl : l ∈ q.LS) (k kb bb : Nat) (hk : k + 1 = row.length) (h : MrI q w (some r) C row vr out vo) (h1 : w.cell? ⟨kb, 0, none⟩ = some (.int .i64 k)) (h2 : w.cell? ⟨bb, 0, none⟩ = some (.pointer (some ⟨q.rb, 0, none⟩))) :
    Calls Tryz.prog 311 #[.agg #[.int .i64 l.fr, .int .i64 l.tt, .string l.lab], .pointer (some ⟨kb, 0, none⟩), .pointer (some ⟨bb, 0, none⟩)] w
      fun e w' => (e = .returned (.bool false) ∧ TieF q w r C row vr out vo w' ∧ tieL q.E row l) ∨ (e = .returned (.bool true) ∧ TieT q w r C row vr out vo (¬ tieL q.E row l) w') := by
  obtain ⟨⟨a1, a2⟩, a3, a4⟩ := rightLk_in (hq.lr l hl)
  have hlk := fun u => linked_any q hq u r C row vr out vo l hl
  obtain ⟨fr, tt, lab⟩ := l
  simp only at a1 a2 a3 a4 hlk ⊢
  obtain ⟨W, hW⟩ : ∃ W, W = (w.alloc (.cells #[.int .i64 fr, .int .i64 tt, .string lab] 128)) := ⟨_, rfl⟩
  obtain ⟨lb, hlb⟩ : ∃ b, b = w.heap.size := ⟨_, rfl⟩
  have eL : W.heap[lb]? = some (.cells #[.int .i64 fr, .int .i64 tt, .string lab] 128 (0, 0)) := by rw [hW, hlb]; exact heap_new w _
  have hBW : Below w.heap.size w W := by rw [hW]; exact below_box w _
  have hw1 := h.below hBW
  have hkl := block_lt_of_cell h1
  have hbl := block_lt_of_cell h2
  have k0 : W.cell? ⟨kb, 0, none⟩ = some (.int .i64 k) := (hBW.cell (p := ⟨kb, 0, none⟩) hkl).trans h1
  have b0 : W.cell? ⟨bb, 0, none⟩ = some (.pointer (some ⟨q.rb, 0, none⟩)) := (hBW.cell (p := ⟨bb, 0, none⟩) hbl).trans h2
  have hkl' := Nat.lt_of_lt_of_le hkl hBW.size
  have hbl' := Nat.lt_of_lt_of_le hbl hBW.size
  have l0 : W.cell? ⟨lb, 0, none⟩ = some (.int .i64 fr) := by rw [cell_of_blk eL]; rfl
  have l1 : W.cell? ⟨lb, 1, none⟩ = some (.int .i64 tt) := by rw [cell_of_blk eL]; rfl
  have l2 : W.cell? ⟨lb, 2, none⟩ = some (.string lab) := by rw [cell_of_blk eL]; rfl
  have ll := (Array.getElem?_eq_some_iff.1 eL).1
  have H1 := Lib.hid hw1
  have HW := Lib.hid hW
  have HLB := Lib.hid hlb
  have HBW := Lib.hid hBW
  have HLK := Lib.hid hlk
  have HK := Lib.hid hk
  have hmx : (max fr tt == (k : Int)) = decide (max fr tt + 1 = (row.length : Int)) := by
    by_cases e : max fr tt = k
    · rw [e]; simp; omega
    · rw [show (max fr tt == (k : Int)) = false by simpa using e]
      exact (decide_eq_false (by omega)).symm
  clear a1 a2 a3 a4 hl h1 h2 hkl hbl hlk hk h hW hlb eL hBW hw1
  by_cases he : max fr tt + 1 = (row.length : Int)
  · have HE := Lib.hid he
    rw [decide_eq_true he] at hmx
    clear he
    go_enter Tryz.func311, Tryz.ntmps311
    go_upto_region 1 with fail
    rw [← HW.out, ← HLB.out]
    go_wp2_with fail
    refine (HLK.out W HE.out H1.out).mono ?_
    rintro e w1 ⟨b, st', C', rfl, hf, hm, hc⟩
    have HM := Lib.hid hm
    have HC : Hid (Chg w w1 (fun j => j = q.wb ∨ j = q.mb)) := Lib.hid ((Chg.of_below HBW.out _).trans hc (fun _ _ e => e))
    rcases hf with ⟨e1, e2, e3⟩ | ⟨r1, r', e1, e2, e3, e4⟩
    · have HR := Lib.hid (e3 r rfl)
      have HS := Lib.hid e1
      subst e2
      clear hm hc e1 e3
      go_wp2_with fail
      go_ret
      exact .inr ⟨rfl, st', C', HM.out, HC.out, .inl ⟨HS.out, HR.out⟩⟩
    · cases e1
      have HS := Lib.hid e2
      have HR := Lib.hid e3
      have HD := Lib.hid e4
      clear hm hc e2 e3 e4
      cases b
      · have HN : Hid (¬ tieL q.E row ⟨fr, tt, lab⟩) := Lib.hid (fun ht => by
          have h1 := HD.out
          rw [decide_eq_true (ht HE.out)] at h1
          cases h1)
        go_wp2_with fail
        go_ret
        exact .inr ⟨rfl, st', C', HM.out, HC.out, .inr ⟨r', HS.out, HR.out, HN.out⟩⟩
      · have HY : Hid (tieL q.E row ⟨fr, tt, lab⟩) := Lib.hid (fun _ => of_decide_eq_true HD.out.symm)
        go_wp2_with fail
        go_ret
        exact .inl ⟨rfl, ⟨r', C', by rw [← HS.out]; exact HM.out, HR.out, HC.out⟩, HY.out⟩
  · have HE := Lib.hid he
    rw [decide_eq_false he] at hmx
    clear he
    go_enter Tryz.func311, Tryz.ntmps311
    go_upto_region 1 with fail
    rw [← HW.out, ← HLB.out]
    go_wp2_with fail
    go_ret
    exact .inl ⟨rfl, ⟨r, C, H1.out, Nat.le_refl _, Chg.of_below HBW.out _⟩, fun e => absurd e HE.out⟩
def FtsPost (q : Mq) (w : World) (r : Nat) (C : Ca) (row : List Int) (vr : Value) (out : List Ws) (vo : Value) (e : Ending) (w' : World) : Prop :=
  ∃ b st' C', e = .returned (.bool b) ∧ FitR (tiedP q.E q.LS row) b (some r) st' (potQ q C) (potQ q C') ∧ MrI q w' st' C' row vr out vo ∧ Chg w w' (fun j => j = q.wb ∨ j = q.mb)
set_option maxRecDepth 100000 in
set_option maxHeartbeats 4000000 in
theorem fits_any (q : Mq) (hq : q.Ok) (w : World) (r : Nat) (C : Ca) (row : List Int) (vr : Value) (out : List Ws) (vo : Value) (hr : row ≠ []) (h : MrI q w (some r) C row vr out vo) (hkp : q.Kp w) :
    Calls Tryz.prog 225 #[.pointer (some ⟨q.rb, 0, none⟩)] w (FtsPost q w r C row vr out vo) := by
  obtain ⟨k, hk⟩ : ∃ k, row.length = k + 1 := ⟨row.length - 1, by have := List.length_pos_iff.2 hr; omega⟩
  obtain ⟨W, hW⟩ : ∃ W, W = (w.alloc (.cells #[.pointer (some ⟨q.rb, 0, none⟩)] 219)).alloc (.cells #[.int .i64 k] 3) := ⟨_, rfl⟩
  obtain ⟨bb, hbb⟩ : ∃ b, b = w.heap.size := ⟨_, rfl⟩
  have e1 : W.heap[bb]? = some (.cells #[.pointer (some ⟨q.rb, 0, none⟩)] 219 (0, 0)) := by rw [hW, hbb]; exact (Below.heap_alloc _ _ _ (by simp)).trans (heap_new w _)
  have e2 : W.heap[bb + 1]? = some (.cells #[.int .i64 k] 3 (0, 0)) := by rw [hW, hbb]; exact heap_new2 w _ _
  have hBW : Below w.heap.size w W := by rw [hW]; exact below_then (below_box _ _) (below_box _ _)
  have hm := h.below hBW
  have hwb : bb ≠ q.wb := fun e => by have := h.wk.lt; omega
  have hmb : bb ≠ q.mb ∧ bb + 1 ≠ q.mb := by
    obtain ⟨es, cl, hb⟩ := h.mapB
    have := (Array.getElem?_eq_some_iff.1 hb).1
    exact ⟨by omega, by omega⟩
  have hwb2 : bb + 1 ≠ q.wb := fun e => by have := h.wk.lt; omega
  have HBX : Hid (∀ u, Chg W u (fun j => j = q.wb ∨ j = q.mb) → u.cell? ⟨bb, 0, none⟩ = some (.pointer (some ⟨q.rb, 0, none⟩)) ∧ u.cell? ⟨bb + 1, 0, none⟩ = some (.int .i64 k) ∧ bb < u.heap.size) := Lib.hid (fun u hu => by
    have g1 := (hu.block _ (Array.getElem?_eq_some_iff.1 e1).1 (fun e => e.elim hwb hmb.1)).trans e1
    have g2 := (hu.block _ (Array.getElem?_eq_some_iff.1 e2).1 (fun e => e.elim hwb2 hmb.2)).trans e2
    exact ⟨by rw [cell_of_blk g1]; rfl, by rw [cell_of_blk g2]; rfl, (Array.getElem?_eq_some_iff.1 g1).1⟩)
  have hcon := conLk_st 311 #[.pointer (some ⟨bb + 1, 0, none⟩), .pointer (some ⟨bb, 0, none⟩)]
    (fun j u => ∃ r' C', MrI q u (some r') C' row vr out vo ∧ r + potQ q C' ≤ r' + potQ q C ∧ Chg W u (fun j => j = q.wb ∨ j = q.mb) ∧ ∀ l ∈ q.LS.take j, tieL q.E row l)
    (fun j u => TieT q W r C row vr out vo (¬ ∀ l ∈ q.LS, tieL q.E row l) u)
    q.la q.lc q.LS W (enters_of Tryz.func311 (by kernel_rfl) rfl) (by have := hq.ll; omega)
    ⟨r, C, hm, Nat.le_refl _, Chg.refl _ _, fun l hl => by simp at hl⟩
    (fun j u ⟨r', C', h1, _, h3, _⟩ => hkp u ((Chg.of_below hBW (fun j => j = q.wb ∨ q.B ≤ j)).trans h3 (fun _ _ e => e.elim .inl (fun e => .inr (by rw [e]; exact hq.mbB)))))
    (fun j u l hl ⟨r', C', h1, h2, h3, h4⟩ => by
      obtain ⟨x0, x1, _⟩ := HBX.out u h3
      refine (fits1_any q hq u r' C' row vr out vo l (List.mem_of_getElem? hl) k (bb + 1) bb hk.symm h1 x1 x0).mono ?_
      rintro e w' (⟨rfl, ⟨r2, C2, m2, p2, c2⟩, t2⟩ | ⟨rfl, st2, C2, m2, c2, t2⟩)
      · refine .inl ⟨rfl, r2, C2, m2, by omega, h3.trans c2 (fun _ _ e => e), fun y hy => ?_⟩
        rw [List.take_add_one, hl] at hy
        rcases List.mem_append.1 hy with hy | hy
        · exact h4 y hy
        · simp at hy; rw [hy]; exact t2
      · refine .inr ⟨rfl, st2, C2, m2, h3.trans c2 (fun _ _ e => e), ?_⟩
        rcases t2 with ⟨t2, t3⟩ | ⟨r2, t2, t3, t4⟩
        · exact .inl ⟨t2, by omega⟩
        · exact .inr ⟨r2, t2, by omega, fun hall => t4 (hall l (List.mem_of_getElem? hl))⟩)
  have HCN := Lib.hid hcon
  have HT : Hid (tiedP q.E q.LS row = true ↔ ∀ l ∈ q.LS, tieL q.E row l) := Lib.hid tiedP_iff
  obtain ⟨c0, c1, c2, c3, c4, c5, c6, c7, cl⟩ := h.cells
  obtain ⟨a, cap, rfl⟩ := h.rowo.shape
  rw [hk] at c5
  have HBW := Lib.hid hBW
  have HW := Lib.hid hW
  have HBB := Lib.hid hbb
  have hWc : ∀ i v, w.cell? ⟨q.rb, i, none⟩ = some v → W.cell? ⟨q.rb, i, none⟩ = some v := fun i v hv => (hBW.cell (p := ⟨q.rb, i, none⟩) cl).trans hv
  have d2 := hWc 2 _ c2
  have dl := Nat.lt_of_lt_of_le cl hBW.size
  obtain ⟨b0, _, bl⟩ := HBX.out W (Chg.refl _ _)
  have w5 := ((below_box w (.cells #[.pointer (some ⟨q.rb, 0, none⟩)] 219)).cell (p := ⟨q.rb, 5, none⟩) cl).trans c5
  have hk9 : k ≤ 1000 := by have := h.rl; omega
  clear hcon hk h hm hwb hmb hwb2 hW hbb e1 e2 hBW hWc hr hq c0 c1 c2 c3 c4 c6 c7
  go_enter Tryz.func225, Tryz.ntmps225
  go_upto_region 2 with fail
  rw [← HBB.out, ← HW.out]
  go_wp2_with fail
  refine HCN.out.mono ?_
  rintro e w1 (⟨rfl, r', C', m1, p1, c1, t1⟩ | ⟨j, hj, rfl, st', C', m1, c1, t1⟩)
  · have HM := Lib.hid m1
    have HP := Lib.hid p1
    have HC : Hid (Chg w w1 (fun j => j = q.wb ∨ j = q.mb)) := Lib.hid ((Chg.of_below HBW.out _).trans c1 (fun _ _ e => e))
    have HTT : Hid (tiedP q.E q.LS row = true) := Lib.hid (HT.out.2 (by rw [List.take_length] at t1; exact t1))
    clear m1 p1 c1 t1
    go_wp2_with fail
    go_ret
    exact ⟨true, some r', C', rfl, .inr ⟨r, r', rfl, rfl, HP.out, HTT.out.symm⟩, HM.out, HC.out⟩
  · have HM := Lib.hid m1
    have HC : Hid (Chg w w1 (fun j => j = q.wb ∨ j = q.mb)) := Lib.hid ((Chg.of_below HBW.out _).trans c1 (fun _ _ e => e))
    have HF : Hid (FitR (tiedP q.E q.LS row) false (some r) st' (potQ q C) (potQ q C')) := Lib.hid (by
      rcases t1 with ⟨t2, t3⟩ | ⟨r2, t2, t3, t4⟩
      · exact .inl ⟨t2, rfl, fun x hx => by cases hx; exact t3⟩
      · refine .inr ⟨r, r2, rfl, t2, t3, ?_⟩
        cases ht : tiedP q.E q.LS row
        · rfl
        · exact absurd (HT.out.1 ht) t4)
    clear m1 c1 t1 hj
    go_wp2_with fail
    go_ret
    exact ⟨false, st', C', rfl, HF.out, HM.out, HC.out⟩
end Go.Proofs.YtonilojjahfboaaGreat
namespace Go.Proofs.YtonilojjahfboaaGreat
open Go.RowKit Go.Maps

section
variable {q : Mq} {u u' : World} {st st' : Option Nat} {C C' : Ca} {row : List Int} {vr v' : Value} {out : List Ws} {vo : Value} {x : Int} {ws : Ws}
theorem set_blk (h : u.heap[q.rb]? = some (.cells #[.pointer (some ⟨q.wb, 0, none⟩), .slice q.na q.NS.length q.nc, .slice q.la q.LS.length q.lc, .slice q.oa q.OF.length q.oc, .map (some q.mb), vr, vo, .int .i64 q.most] 222 (0, 0))) :
    (u.setCell ⟨q.rb, 5, none⟩ v').heap[q.rb]? = some (.cells #[.pointer (some ⟨q.wb, 0, none⟩), .slice q.na q.NS.length q.nc, .slice q.la q.LS.length q.lc, .slice q.oa q.OF.length q.oc, .map (some q.mb), v', vo, .int .i64 q.most] 222 (0, 0)) ∧
    (u.setCell ⟨q.rb, 6, none⟩ v').heap[q.rb]? = some (.cells #[.pointer (some ⟨q.wb, 0, none⟩), .slice q.na q.NS.length q.nc, .slice q.la q.LS.length q.lc, .slice q.oa q.OF.length q.oc, .map (some q.mb), vr, v', .int .i64 q.most] 222 (0, 0)) := by
  constructor
  · rw [blk_setCell h _]; simp
  · rw [blk_setCell h _]; simp
/-- a number behind a row -/
theorem MrI.push (h : MrI q u st C row vr out vo) (hq : q.Ok) (hA : kI.App u q.B vr (row ++ [x]) v' u') (hx : x ∈ q.V.map Vt.id) (hl : row.length < 8) :
    (u'.heap[q.rb]? = u.heap[q.rb]?) ∧ MrI q (u'.setCell ⟨q.rb, 5, none⟩ v') st C (row ++ [x]) v' out vo ∧ Chg u (u'.setCell ⟨q.rb, 5, none⟩ v') (fun j => j = q.wb ∨ q.B ≤ j) := by
  obtain ⟨oA, gA, kA⟩ := hA
  have hwB : q.wb ≠ q.rb := fun e => by have := hq.wbB; have := hq.rbB; omega
  have hrr : some q.rb ≠ vr.ownBlock := fun e => by
    obtain ⟨cur, hg⟩ := ownI_block h.rowo e.symm
    exact (h.int_ne hg).1 rfl
  have hrb : u'.heap[q.rb]? = u.heap[q.rb]? := gA.block q.rb h.lt hrr
  have hne : q.rb ≠ q.mb := fun e => by
    obtain ⟨es, cl, hm⟩ := h.mapB
    have hb := h.blk
    rw [e, hm] at hb
    cases hb
  have kb : ∀ (g : Nat), g < u.heap.size → g ≠ q.rb → some g ≠ vr.ownBlock → (u'.setCell ⟨q.rb, 5, none⟩ v').heap[g]? = u.heap[g]? := fun g hg h1 h2 => (Below.heap_setCell _ _ _ _ h1).trans (gA.block g hg h2)
  have hwr : some q.wb ≠ vr.ownBlock := fun e => by
    obtain ⟨cur, hg⟩ := ownI_block h.rowo e.symm
    exact (h.int_ne hg).2.1 rfl
  have hmr : some q.mb ≠ vr.ownBlock := fun e => by
    obtain ⟨cur, hg⟩ := ownI_block h.rowo e.symm
    exact (h.int_ne hg).2.2 rfl
  have hcc : Chg u (u'.setCell ⟨q.rb, 5, none⟩ v') (fun j => j = q.wb ∨ q.B ≤ j) := ⟨gA.os, gA.tape, gA.output, by have := gA.size; simpa using this, fun k hk hn => kb k hk (fun e => hn (.inr (by rw [e]; exact hq.rbB))) (fun e => hn (.inr (h.rowo.lt k e.symm).1))⟩
  have kf : ∀ y, FrX u q.B vr.ownBlock y → FrX (u'.setCell ⟨q.rb, 5, none⟩ v') q.B v'.ownBlock y := fun y hy => hy.keep (fun g cur hg hn => (kb g (Array.getElem?_eq_some_iff.1 hg).1 (h.int_ne hg).1 hn).trans hg) kA
  have ks : ∀ (g : Nat) (cur : Array Value), u.heap[g]? = some (.cells cur 42 (0, 0)) → (u'.setCell ⟨q.rb, 5, none⟩ v').heap[g]? = u.heap[g]? := fun g cur hg => kb g (Array.getElem?_eq_some_iff.1 hg).1 (h.sl_ne hg).1 (fun e => by
    obtain ⟨cur', hg'⟩ := ownI_block h.rowo e.symm
    exact cells_ne hg hg' (by decide))
  obtain ⟨f, m, hf⟩ := h.mp
  refine ⟨hrb, ⟨(set_blk (hrb.trans h.blk)).1, ?_, ownsRow_of_block h.ofo (fun j hj => by obtain ⟨cur, hg⟩ := ownW_block h.ofo hj; exact ks j cur hg), fun y hy => kf y (h.ofc y hy), ⟨f, m.of_block (kb q.mb m.lt hne.symm hmr), hf⟩, fun p hp => kf _ (h.mc p hp), h.mr, h.ml, h.kn, h.ku, ?_, by simp; omega, fun n hn => ?_, ownsRow_of_block h.outo (fun j hj => by obtain ⟨cur, hg⟩ := ownW_block h.outo hj; exact ks j cur hg), fun y hy => kf y (h.outc y hy), h.ol, h.sep⟩, hcc⟩
  · refine h.wk.chgM (S := fun j => j ≠ q.wb ∧ q.B ≤ j) ⟨hcc.os, hcc.tape, hcc.output, hcc.size, fun k hk hn => ?_⟩ (fun e => e.1 rfl) (fun j hj => ?_)
    · by_cases e : k = q.wb
      · rw [e]; exact kb q.wb h.wk.lt hwB hwr
      · exact hcc.block k hk (fun e2 => e2.elim e (fun e3 => hn ⟨e, e3⟩))
    · have := h.wk.new; have := hq.wbB; have := hj.2; omega
  · refine ownsRow_of_block oA (fun j hj => Below.heap_setCell _ _ _ _ (fun e => ?_))
    obtain ⟨cur, hg⟩ := ownI_block oA hj
    rw [e, hrb] at hg
    exact cells_ne hg h.blk (by decide)
  · rcases List.mem_append.1 hn with hn | hn
    · exact h.rv n hn
    · rw [List.mem_singleton.1 hn]; exact hx
/-- .. and taken off again -/
theorem MrI.cut (h : MrI q u st C (row ++ [x]) vr out vo) (hq : q.Ok) (ho : kI.Own u q.B v' row) (hob : v'.ownBlock = vr.ownBlock) :
    MrI q (u.setCell ⟨q.rb, 5, none⟩ v') st C row v' out vo ∧ Chg u (u.setCell ⟨q.rb, 5, none⟩ v') (fun j => j = q.wb ∨ q.B ≤ j) := by
  have hne : q.rb ≠ q.mb := fun e => by
    obtain ⟨es, cl, hm⟩ := h.mapB
    have hb := h.blk
    rw [e, hm] at hb
    cases hb
  have hcc : Chg u (u.setCell ⟨q.rb, 5, none⟩ v') (fun j => j = q.rb) := (Chg.refl u (fun j => j = q.rb)).setCell (p := ⟨q.rb, 5, none⟩) (fun _ => rfl) _
  have kf : ∀ y, FrX u q.B vr.ownBlock y → FrX (u.setCell ⟨q.rb, 5, none⟩ v') q.B v'.ownBlock y := fun y hy => hy.keep (fun g cur hg _ => (hcc.block g (Array.getElem?_eq_some_iff.1 hg).1 (h.int_ne hg).1).trans hg) (.inl hob)
  have ks : ∀ (g : Nat) (cur : Array Value), u.heap[g]? = some (.cells cur 42 (0, 0)) → (u.setCell ⟨q.rb, 5, none⟩ v').heap[g]? = u.heap[g]? := fun g cur hg => hcc.block g (Array.getElem?_eq_some_iff.1 hg).1 (h.sl_ne hg).1
  obtain ⟨f, m, hf⟩ := h.mp
  refine ⟨⟨(set_blk h.blk).1, ?_, ownsRow_of_block h.ofo (fun j hj => by obtain ⟨cur, hg⟩ := ownW_block h.ofo hj; exact ks j cur hg), fun y hy => kf y (h.ofc y hy), ⟨f, m.of_block (hcc.block q.mb m.lt hne.symm), hf⟩, fun p hp => kf _ (h.mc p hp), h.mr, h.ml, h.kn, h.ku, ?_, by have := h.rl; simp at this; omega, fun n hn => h.rv n (List.mem_append_left _ hn), ownsRow_of_block h.outo (fun j hj => by obtain ⟨cur, hg⟩ := ownW_block h.outo hj; exact ks j cur hg), fun y hy => kf y (h.outc y hy), h.ol, h.sep⟩, hcc.mono (fun j _ e => .inr (by rw [e]; exact hq.rbB))⟩
  · refine h.wk.chgM hcc (fun e => by have := hq.wbB; have := hq.rbB; omega) (fun j hj => ?_)
    have := h.wk.new; have := hq.wbB; have := hq.rbB; omega
  · exact ownsRow_of_block ho (fun j hj => Below.heap_setCell _ _ _ _ (fun e => by
      obtain ⟨cur, hg⟩ := ownI_block ho hj
      rw [e] at hg
      exact (h.int_ne hg).1 rfl))
/-- a row that fits, among the others -/
theorem MrI.emit (h : MrI q u st C row vr out vo) (hq : q.Ok) (hA : kW2.App u q.B vo (out ++ [ws]) v' u') (hw : FrX u q.B vr.ownBlock ws) (hl : out.length ≤ q.most) :
    (u'.heap[q.rb]? = u.heap[q.rb]?) ∧ MrI q (u'.setCell ⟨q.rb, 6, none⟩ v') st C row vr (out ++ [ws]) v' ∧ Chg u (u'.setCell ⟨q.rb, 6, none⟩ v') (fun j => j = q.wb ∨ q.B ≤ j) := by
  obtain ⟨oA, gA, kA⟩ := hA
  have hwB : q.wb ≠ q.rb := fun e => by have := hq.wbB; have := hq.rbB; omega
  have hno : ∀ g, some g = vo.ownBlock → g ≠ q.rb ∧ g ≠ q.wb ∧ g ≠ q.mb := fun g e => by
    obtain ⟨cur, hg⟩ := ownW_block h.outo e.symm
    exact h.sl_ne hg
  have hrb : u'.heap[q.rb]? = u.heap[q.rb]? := gA.block q.rb h.lt (fun e => (hno _ e).1 rfl)
  have hne : q.rb ≠ q.mb := fun e => by
    obtain ⟨es, cl, hm⟩ := h.mapB
    have hb := h.blk
    rw [e, hm] at hb
    cases hb
  have kb : ∀ (g : Nat), g < u.heap.size → g ≠ q.rb → some g ≠ vo.ownBlock → (u'.setCell ⟨q.rb, 6, none⟩ v').heap[g]? = u.heap[g]? := fun g hg h1 h2 => (Below.heap_setCell _ _ _ _ h1).trans (gA.block g hg h2)
  have hcc : Chg u (u'.setCell ⟨q.rb, 6, none⟩ v') (fun j => j = q.wb ∨ q.B ≤ j) := ⟨gA.os, gA.tape, gA.output, by have := gA.size; simpa using this, fun k hk hn => kb k hk (fun e => hn (.inr (by rw [e]; exact hq.rbB))) (fun e => hn (.inr (h.outo.lt k e.symm).1))⟩
  have ki : ∀ (g : Nat) (cur : Array Value), u.heap[g]? = some (.cells cur 3 (0, 0)) → (u'.setCell ⟨q.rb, 6, none⟩ v').heap[g]? = some (.cells cur 3 (0, 0)) := fun g cur hg => (kb g (Array.getElem?_eq_some_iff.1 hg).1 (h.int_ne hg).1 (fun e => by
    obtain ⟨cur', hg'⟩ := ownW_block h.outo e.symm
    exact cells_ne hg hg' (by decide))).trans hg
  have kf : ∀ y, FrX u q.B vr.ownBlock y → FrX (u'.setCell ⟨q.rb, 6, none⟩ v') q.B vr.ownBlock y := fun y hy => hy.keep (fun g cur hg _ => ki g cur hg) (.inl rfl)
  obtain ⟨f, m, hf⟩ := h.mp
  refine ⟨hrb, ⟨(set_blk (hrb.trans h.blk)).2, ?_, ownsRow_of_block h.ofo (fun j hj => by
      obtain ⟨cur, hg⟩ := ownW_block h.ofo hj
      exact kb j (Array.getElem?_eq_some_iff.1 hg).1 (h.sl_ne hg).1 (fun e => h.sep j e.symm hj)), fun y hy => kf y (h.ofc y hy), ⟨f, m.of_block (kb q.mb m.lt hne.symm (fun e => (hno _ e).2.2 rfl)), hf⟩, fun p hp => kf _ (h.mc p hp), h.mr, h.ml, h.kn, h.ku, ownsRow_of_block h.rowo (fun j hj => by obtain ⟨cur, hg⟩ := ownI_block h.rowo hj; rw [ki j cur hg, hg]), h.rl, h.rv, ?_, fun y hy => ?_, by simp; omega, fun j hj e => ?_⟩, hcc⟩
  · refine h.wk.chgM (S := fun j => j ≠ q.wb ∧ q.B ≤ j) ⟨hcc.os, hcc.tape, hcc.output, hcc.size, fun k hk hn => ?_⟩ (fun e => e.1 rfl) (fun j hj => ?_)
    · by_cases e : k = q.wb
      · rw [e]; exact kb q.wb h.wk.lt hwB (fun e => (hno _ e).2.1 rfl)
      · exact hcc.block k hk (fun e2 => e2.elim e (fun e3 => hn ⟨e, e3⟩))
    · have := h.wk.new; have := hq.wbB; have := hj.2; omega
  · refine ownsRow_of_block oA (fun j hj => Below.heap_setCell _ _ _ _ (fun e => ?_))
    obtain ⟨cur, hg⟩ := ownW_block oA hj
    rw [e, hrb] at hg
    exact cells_ne hg h.blk (by decide)
  · rcases List.mem_append.1 hy with hy | hy
    · exact kf y (h.outc y hy)
    · rw [List.mem_singleton.1 hy]; exact kf ws hw
  · rcases kA with kA | kA
    · rw [kA] at hj; exact h.sep j hj e
    · rw [kA] at hj
      have := (h.ofo.lt j e).2
      injection hj with hj
      omega
end
end Go.Proofs.YtonilojjahfboaaGreat
