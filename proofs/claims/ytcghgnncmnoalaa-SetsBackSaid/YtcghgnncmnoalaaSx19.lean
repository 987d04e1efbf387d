/- SetsOverlay: the walk. Conditions: each contract's own premises. -/
import Derived.Test.YtcghgnncmnoalaaSx18
import Derived.Deep.QuietTactic
import Derived.BigQuiet
namespace Go.Proofs.Ytcghgnncmnoalaa
open Go.RowKit Go.Maps

/-- strings in memory -/
def StrV (w : World) (a : Option Addr) (l : List ByteArray) : Prop := l ≠ [] → ∃ b off, a = some ⟨b, off, none⟩ ∧ b < w.heap.size ∧ ∀ i s, l[i]? = some s → w.cell? ⟨b, off + i, none⟩ = some (.string s)
theorem StrV.below {w w' : World} {a : Option Addr} {l : List ByteArray} (h : StrV w a l) (hb : Below w.heap.size w w') : StrV w' a l := fun hn => by
  obtain ⟨b, off, e, hlt, hc⟩ := h hn
  exact ⟨b, off, e, Nat.lt_of_lt_of_le hlt hb.size, fun i s hi => (hb.cell (p := ⟨b, off + i, none⟩) hlt).trans (hc i s hi)⟩
def k7 : Ky := ⟨7, 0, 0, ⟨#[107]⟩⟩
theorem k7_ok : k7.Ok := ⟨⟨by decide, by decide⟩, ⟨by decide, by decide⟩, ⟨by decide, by decide⟩, by unfold maxLen; decide⟩
/-- what the transaction has -/
def valX (s : Sn) (g : Ky → Option Tx) : Tx := match g k7 with | some t => t | none => ⟨s.val, s.has⟩
/-- sets, and the two boxes -/
structure OV (w u : World) (kb vb sb bs bw bm ns nw nm : Nat) (gs : Ky → Option Sn) (gw gm : Ky → Option Tx) (s : Sn) : Prop where
  p : SP w u sb bs bw bm ns nw nm gs gw gm
  k : u.heap[kb]? = some (.cells #[.int .i64 7, .int .i64 0, .int .i64 0, .string ⟨#[107]⟩] 62)
  v : u.heap[vb]? = some (.cells #[.int .u64 s.word, .string s.val, .bool s.has] 64)
theorem StX.typed {w : World} {sb bs bw bm ns nw nm : Nat} {gs : Ky → Option Sn} {gw gm : Ky → Option Tx} (h : StX w sb bs bw bm ns nw nm gs gw gm) {b : Nat} {c : Array Value} {t : TypeId} {z : Nat × Nat} (hb : w.heap[b]? = some (.cells c t z)) (ht : t ≠ 156) : b ≠ sb ∧ b ≠ bs ∧ b ≠ bw ∧ b ≠ bm := by
  refine ⟨fun e => ?_, fun e => ?_, fun e => ?_, fun e => ?_⟩
  · have := h.blk
    rw [e, this] at hb
    injection hb with hb
    injection hb with _ h2 _
    exact ht h2.symm
  · obtain ⟨es, ck, hm⟩ := h.sm.map
    rw [e, hm] at hb; cases hb
  · obtain ⟨es, ck, hm⟩ := h.wm.map
    rw [e, hm] at hb; cases hb
  · obtain ⟨es, ck, hm⟩ := h.mm.map
    rw [e, hm] at hb; cases hb
theorem OV.step {w u u' : World} {kb vb sb bs bw bm ns nw nm bw' bm' ns' nw' nm' : Nat} {gs gs' : Ky → Option Sn} {gw gm gw' gm' : Ky → Option Tx} {s : Sn} (h : OV w u kb vb sb bs bw bm ns nw nm gs gw gm s) (h2 : StX u' sb bs bw' bm' ns' nw' nm' gs' gw' gm') {S : Nat → Prop} (hc : Chg u u' S) (hS : ∀ j, S j → j = sb ∨ j = bs ∨ j = bw ∨ j = bm) (k1 : w.heap.size ≤ bw') (k2 : w.heap.size ≤ bm') : OV w u' kb vb sb bs bw' bm' ns' nw' nm' gs' gw' gm' s := by
  have t1 := h.p.p.typed h.k (by decide)
  have t2 := h.p.p.typed h.v (by decide)
  refine ⟨h.p.step h2 hc (fun j hj => ?_) k1 k2, (hc.block kb (Array.getElem?_eq_some_iff.1 h.k).1 (fun hj => ?_)).trans h.k, (hc.block vb (Array.getElem?_eq_some_iff.1 h.v).1 (fun hj => ?_)).trans h.v⟩
  · rcases hS j hj with rfl | rfl | rfl | rfl
    · exact h.p.g0
    · exact h.p.g1
    · exact h.p.g2
    · exact h.p.g3
  · rcases hS _ hj with e | e | e | e
    · exact t1.1 e
    · exact t1.2.1 e
    · exact t1.2.2.1 e
    · exact t1.2.2.2 e
  · rcases hS _ hj with e | e | e | e
    · exact t2.1 e
    · exact t2.2.1 e
    · exact t2.2.2.1 e
    · exact t2.2.2.2 e
theorem OV.below {w u u' : World} {kb vb sb bs bw bm ns nw nm : Nat} {gs : Ky → Option Sn} {gw gm : Ky → Option Tx} {s : Sn} (h : OV w u kb vb sb bs bw bm ns nw nm gs gw gm s) (hb : Below u.heap.size u u') : OV w u' kb vb sb bs bw bm ns nw nm gs gw gm s :=
  ⟨h.p.below hb, (hb.block _ (Array.getElem?_eq_some_iff.1 h.k).1).trans h.k, (hb.block _ (Array.getElem?_eq_some_iff.1 h.v).1).trans h.v⟩
theorem OV.drew {w u : World} {kb vb sb bs bw bm ns nw nm : Nat} {gs : Ky → Option Sn} {gw gm : Ky → Option Tx} {s : Sn} (h : OV w u kb vb sb bs bw bm ns nw nm gs gw gm s) : OV w u.drew kb vb sb bs bw bm ns nw nm gs gw gm s := h.below (below_drewN (Below.refl _ _) 1)
/-- in a round before the mark -/
def OvA (w u : World) (kb vb sb bs bw bm ns nm : Nat) (gs : Ky → Option Sn) (gm : Ky → Option Tx) (s : Sn) (n : Nat) (val : ByteArray) (has : Bool) : Prop := ∃ nw gw, OV w u kb vb sb bs bw bm ns nw nm gs gw gm s ∧ nw ≤ 2 * n ∧ (∀ j, (gw j).isSome = true → j = k7) ∧ valX s gw = ⟨val, has⟩
/-- .. behind it -/
def OvB (w u : World) (kb vb sb bs bw bm ns nm : Nat) (gs : Ky → Option Sn) (gm : Ky → Option Tx) (s : Sn) (n : Nat) : Prop := ∃ nw gw, OV w u kb vb sb bs bw bm ns nw nm gs gw gm s ∧ nw ≤ 100 + n
/-- a comparison of two structs, known whole, behind a guard that says yes -/
theorem wpList_agg_runW {P : Program} {w : World} {ops : Array Oper} {rest : List Oper} {o : Oper} {a : Act} {Q : Exit → Act → World → Prop} (hw : Region.wanted o (yielded ops a.tmps) = true) (bo : BinOp) (t t2 : TypeId) (x y : Operand) (hop : o.op = Op.binOp bo t x y t2)
    (xs ys : Array Value) (hx : a.eval x = .agg xs) (hy : a.eval y = .agg ys) (hgt : P.eqGuardType P.depth t = false) (v : Value) (hrun : (binOp bo t (.agg xs) (.agg ys)).run P w = .ok v w)
    (hK : wpList P ops Q rest (a.put o.dst v) w) : wpList P ops Q (o :: rest) a w := by
  refine BigFrame.wpList_want hw fun K' hK' => ?_
  have he : (eqGuard bo t x y (.agg xs) (.agg ys)).run P w = .ok () w := by
    unfold eqGuard
    cases bo <;> simp [hgt]
  unfold Oper.wp execOp
  simp only [hop, hx, hy, Sem.run_bind, he, Result.andThen_ok, hrun, Sem.run_pure]
  exact hK' _ _ hK
theorem eqSn (a : Sn) (w : World) : (binOp .eql 64 (.agg #[.int .u64 a.word, .string a.val, .bool a.has]) (.agg #[.int .u64 a.word, .string a.val, .bool a.has])).run Try.prog w = .ok (.bool true) w := by
  go_simp
set_option maxRecDepth 100000 in
set_option maxHeartbeats 8000000 in
theorem overlay_any (s : Sn) (a1 a2 : Option Addr) (c1 c2 : Nat) (l1 l2 : List ByteArray) (w : World) (h1 : StrV w a1 l1) (h2 : StrV w a2 l2) :
    Calls Try.prog 8 #[.agg #[.int .u64 s.word, .string s.val, .bool s.has], .slice a1 l1.length c1, .slice a2 l2.length c2] w (BoolPost w true) := by
  obtain ⟨W, hW⟩ : ∃ W, w.alloc (.cells #[.int .u64 s.word, .string s.val, .bool s.has] 64) = W := ⟨_, rfl⟩
  obtain ⟨vb, hvb⟩ : ∃ x, x = w.heap.size := ⟨_, rfl⟩
  have bW : Below w.heap.size w W := by rw [← hW]; exact below_box _ _
  have eW : W.heap[vb]? = some (.cells #[.int .u64 s.word, .string s.val, .bool s.has] 64) := by rw [← hW, hvb]; exact heap_new _ _
  have HL1 := Lib.hid (h1.below bW)
  have HL2 := Lib.hid (h2.below bW)
  have HE := Lib.hid eW
  have HBW := Lib.hid bW
  have HW := Lib.hid hW
  have HVB := Lib.hid hvb
  obtain ⟨n1, hn1⟩ : ∃ n, n = l1.length := ⟨_, rfl⟩
  obtain ⟨n2, hn2⟩ : ∃ n, n = l2.length := ⟨_, rfl⟩
  rw [← hn1, ← hn2]
  have HN1 := Lib.hid hn1
  have HN2 := Lib.hid hn2
  have hz : ∃ e, (s.val.toList == ([] : List UInt8)) = e ∧ decide (s.val.size = 0) = e := ⟨_, sizeZ, rfl⟩
  obtain ⟨ee, he1, he2⟩ := hz
  have HEE := Lib.hid he2
  clear h1 h2 bW eW hW hvb hn1 hn2 he2
  go_enter Try.func8, Try.ntmps8
  go_upto_region 1 with fail
  rw [HW.out, ← HVB.out]
  by_cases hbad : s.val.size ≠ 0 ∧ s.has = false
  · have t1 : ee = false := by rw [← HEE.out]; exact decide_eq_false hbad.1
    rw [t1] at he1
    have HH := Lib.hid hbad.2
    clear hbad
    go_wp2_with fail
    refine (awake13_any _).mono ?_
    rintro e w1 ⟨rfl, b1⟩
    have HB1 := Lib.hid b1
    have e1 := (b1.block _ (Array.getElem?_eq_some_iff.1 HE.out).1).trans HE.out
    have z1 := cell_of_blk e1 1
    have z2 := cell_of_blk e1 2
    simp at z1 z2
    clear e1
    rw [HH.out] at z2
    go_wp2_with fail
    refine (awake13_any _).mono ?_
    rintro e w2 ⟨rfl, b2⟩
    have HB2 := Lib.hid b2
    clear b2
    go_wp2_with fail
    go_ret
    exact ⟨rfl, HBW.out.trans ((below_then HB1.out HB2.out).mono HBW.out.size)⟩
  have tt : ee = true ∨ (ee = false ∧ s.has = true) := by
    cases hh : s.has
    · left
      rw [← HEE.out]
      exact decide_eq_true (Classical.byContradiction fun hn => hbad ⟨hn, hh⟩)
    · cases ee
      · exact .inr ⟨rfl, rfl⟩
      · exact .inl rfl
  have HBD := Lib.hid hbad
  clear hbad
  by_cases hb1 : 20 < n1
  · have t3 : decide ((20 : Int) < (n1 : Int)) = true := decide_eq_true (by omega)
    rcases tt with tt | ⟨tt, th⟩
    · subst tt
      go_wp2_with fail
      refine (awake13_any _).mono ?_
      rintro e w1 ⟨rfl, b1⟩
      have HB1 := Lib.hid b1
      have e1 := (b1.block _ (Array.getElem?_eq_some_iff.1 HE.out).1).trans HE.out
      have z1 := cell_of_blk e1 1
      have z2 := cell_of_blk e1 2
      simp at z1 z2
      clear e1
      go_wp2_with fail
      refine (awake13_any _).mono ?_
      rintro e w2 ⟨rfl, b2⟩
      have HB2 := Lib.hid b2
      clear b2
      go_wp2_with fail
      go_ret
      exact ⟨rfl, HBW.out.trans ((below_then HB1.out HB2.out).mono HBW.out.size)⟩
    · subst tt
      have HH := Lib.hid th
      clear th
      go_wp2_with fail
      refine (awake13_any _).mono ?_
      rintro e w1 ⟨rfl, b1⟩
      have HB1 := Lib.hid b1
      have e1 := (b1.block _ (Array.getElem?_eq_some_iff.1 HE.out).1).trans HE.out
      have z1 := cell_of_blk e1 1
      have z2 := cell_of_blk e1 2
      simp at z1 z2
      clear e1
      rw [HH.out] at z2
      go_wp2_with fail
      refine (awake13_any _).mono ?_
      rintro e w2 ⟨rfl, b2⟩
      have HB2 := Lib.hid b2
      clear b2
      go_wp2_with fail
      go_ret
      exact ⟨rfl, HBW.out.trans ((below_then HB1.out HB2.out).mono HBW.out.size)⟩
  have t3 : decide ((20 : Int) < (n1 : Int)) = false := decide_eq_false (by omega)
  by_cases hb2 : 20 < n2
  · have t4 : decide ((20 : Int) < (n2 : Int)) = true := decide_eq_true (by omega)
    rcases tt with tt | ⟨tt, th⟩
    · subst tt
      go_wp2_with fail
      refine (awake13_any _).mono ?_
      rintro e w1 ⟨rfl, b1⟩
      have HB1 := Lib.hid b1
      have e1 := (b1.block _ (Array.getElem?_eq_some_iff.1 HE.out).1).trans HE.out
      have z1 := cell_of_blk e1 1
      have z2 := cell_of_blk e1 2
      simp at z1 z2
      clear e1
      go_wp2_with fail
      refine (awake13_any _).mono ?_
      rintro e w2 ⟨rfl, b2⟩
      have HB2 := Lib.hid b2
      clear b2
      go_wp2_with fail
      go_ret
      exact ⟨rfl, HBW.out.trans ((below_then HB1.out HB2.out).mono HBW.out.size)⟩
    · subst tt
      have HH := Lib.hid th
      clear th
      go_wp2_with fail
      refine (awake13_any _).mono ?_
      rintro e w1 ⟨rfl, b1⟩
      have HB1 := Lib.hid b1
      have e1 := (b1.block _ (Array.getElem?_eq_some_iff.1 HE.out).1).trans HE.out
      have z1 := cell_of_blk e1 1
      have z2 := cell_of_blk e1 2
      simp at z1 z2
      clear e1
      rw [HH.out] at z2
      go_wp2_with fail
      refine (awake13_any _).mono ?_
      rintro e w2 ⟨rfl, b2⟩
      have HB2 := Lib.hid b2
      clear b2
      go_wp2_with fail
      go_ret
      exact ⟨rfl, HBW.out.trans ((below_then HB1.out HB2.out).mono HBW.out.size)⟩
  have t4 : decide ((20 : Int) < (n2 : Int)) = false := decide_eq_false (by omega)
  by_cases hb3 : 500 < s.val.size
  · have t5 : decide ((500 : Int) < (s.val.size : Int)) = true := decide_eq_true (by omega)
    rcases tt with tt | ⟨tt, th⟩
    · subst tt
      go_wp2_with fail
      refine (awake13_any _).mono ?_
      rintro e w1 ⟨rfl, b1⟩
      have HB1 := Lib.hid b1
      have e1 := (b1.block _ (Array.getElem?_eq_some_iff.1 HE.out).1).trans HE.out
      have z1 := cell_of_blk e1 1
      have z2 := cell_of_blk e1 2
      simp at z1 z2
      clear e1
      go_wp2_with fail
      refine (awake13_any _).mono ?_
      rintro e w2 ⟨rfl, b2⟩
      have HB2 := Lib.hid b2
      clear b2
      go_wp2_with fail
      go_ret
      exact ⟨rfl, HBW.out.trans ((below_then HB1.out HB2.out).mono HBW.out.size)⟩
    · subst tt
      have HH := Lib.hid th
      clear th
      go_wp2_with fail
      refine (awake13_any _).mono ?_
      rintro e w1 ⟨rfl, b1⟩
      have HB1 := Lib.hid b1
      have e1 := (b1.block _ (Array.getElem?_eq_some_iff.1 HE.out).1).trans HE.out
      have z1 := cell_of_blk e1 1
      have z2 := cell_of_blk e1 2
      simp at z1 z2
      clear e1
      rw [HH.out] at z2
      go_wp2_with fail
      refine (awake13_any _).mono ?_
      rintro e w2 ⟨rfl, b2⟩
      have HB2 := Lib.hid b2
      clear b2
      go_wp2_with fail
      go_ret
      exact ⟨rfl, HBW.out.trans ((below_then HB1.out HB2.out).mono HBW.out.size)⟩
  have t5 : decide ((500 : Int) < (s.val.size : Int)) = false := decide_eq_false (by omega)
  go_cut [51] from 24 to 51 (fun s51 wc => ∃ w1, w1 = wc ∧ s51 = .bool false ∧ Below W.heap.size W w1)
  case first =>
    rcases tt with tt | ⟨tt, th⟩
    · subst tt
      go_wp2_with fail
      refine (awake13_any _).mono ?_
      rintro e w1 ⟨rfl, b1⟩
      have HB1 := Lib.hid b1
      have e1 := (b1.block _ (Array.getElem?_eq_some_iff.1 HE.out).1).trans HE.out
      have z1 := cell_of_blk e1 1
      have z2 := cell_of_blk e1 2
      simp at z1 z2
      clear e1
      clear HB1
      go_wp2_with fail
      go_meet
      exact ⟨_, rfl, rfl, b1⟩
    · subst tt
      have HH := Lib.hid th
      clear th
      go_wp2_with fail
      refine (awake13_any _).mono ?_
      rintro e w1 ⟨rfl, b1⟩
      have HB1 := Lib.hid b1
      have e1 := (b1.block _ (Array.getElem?_eq_some_iff.1 HE.out).1).trans HE.out
      have z1 := cell_of_blk e1 1
      have z2 := cell_of_blk e1 2
      simp at z1 z2
      clear e1
      rw [HH.out] at z2
      clear HB1
      go_wp2_with fail
      go_meet
      exact ⟨_, rfl, rfl, b1⟩
  case rest =>
    obtain ⟨w1, rfl, rfl, b1⟩ := hcut
    have HB1 := Lib.hid b1
    have HE1 := Lib.hid ((b1.block _ (Array.getElem?_eq_some_iff.1 HE.out).1).trans HE.out)
    clear he1 tt t3 t4 t5 hb3 b1
    go_wp2_with fail
    refine (sxNew_any _).mono ?_
    rintro e w2 ⟨sb, bs, bw, bm, rfl, g0, g1, g2, g3, s2, b2⟩
    have HSP : Hid (SP w1 w2 sb bs bw bm 0 0 0 (fun _ => none) (fun _ => none) (fun _ => none)) := Lib.hid ⟨s2, b2, g0, g1, g2, g3⟩
    have HE2 := Lib.hid ((b2.block _ (Array.getElem?_eq_some_iff.1 HE1.out).1).trans HE1.out)
    clear s2 b2 g0 g1 g2 g3
    obtain ⟨V, hV⟩ : ∃ V, w2.alloc (.cells #[.int .i64 7, .int .i64 0, .int .i64 0, .string ⟨#[107]⟩] 62) = V := ⟨_, rfl⟩
    obtain ⟨kb, hkb⟩ : ∃ x, x = w2.heap.size := ⟨_, rfl⟩
    have bV : Below w2.heap.size w2 V := by rw [← hV]; exact below_box _ _
    have eV : V.heap[kb]? = some (.cells #[.int .i64 7, .int .i64 0, .int .i64 0, .string ⟨#[107]⟩] 62) := by rw [← hV, hkb]; exact heap_new _ _
    have H0 : Hid (OV w1 V kb vb sb bs bw bm 0 0 0 (fun _ => none) (fun _ => none) (fun _ => none) s) := Lib.hid ⟨HSP.out.below bV, eV, (bV.block _ (Array.getElem?_eq_some_iff.1 HE2.out).1).trans HE2.out⟩
    have HV := Lib.hid hV
    have HKB := Lib.hid hkb
    clear bV eV hV hkb HSP HE2
    go_upto_region 5 with fail
    rw [HV.out, ← HKB.out]
    have v0 := cell_of_blk H0.out.k 0
    have v1 := cell_of_blk H0.out.k 1
    have v2 := cell_of_blk H0.out.k 2
    have v3 := cell_of_blk H0.out.k 3
    simp at v0 v1 v2 v3
    go_wp2_with fail
    refine (sxPut_any H0.out.p.p (by omega) k7_ok ⟨#[120]⟩).mono ?_
    rintro e w3 h3
    unfold PutPost at h3
    rw [if_neg (by decide)] at h3
    obtain ⟨rfl, b3⟩ := h3
    have H3 := Lib.hid (H0.out.below b3)
    clear b3 v0 v1 v2 v3
    have v0 := cell_of_blk H3.out.k 0
    have v1 := cell_of_blk H3.out.k 1
    have v2 := cell_of_blk H3.out.k 2
    have v3 := cell_of_blk H3.out.k 3
    simp at v0 v1 v2 v3
    obtain ⟨X4, hX4⟩ : ∃ X, w3.alloc (.cells #[.int .i64 7, .int .i64 0, .int .i64 0, .string ⟨#[107]⟩] 62) = X := ⟨_, rfl⟩
    obtain ⟨x4, hx4⟩ : ∃ x, x = w3.heap.size := ⟨_, rfl⟩
    have b4 : Below w3.heap.size w3 X4 := by rw [← hX4]; exact below_box _ _
    have e4 : X4.heap[x4]? = some (.cells #[.int .i64 7, .int .i64 0, .int .i64 0, .string ⟨#[107]⟩] 62) := by rw [← hX4, hx4]; exact heap_new _ _
    have HV4 : Hid (kK.V X4 (some ⟨x4, 0, none⟩) [k7]) := Lib.hid (fun _ => ⟨_, 0, rfl, RowK.new_at (k := kK) e4 rfl⟩)
    have H4 := Lib.hid (H3.out.below b4)
    have HX4 := Lib.hid (And.intro hX4 hx4)
    clear b4 e4 hX4 hx4
    go_wp2_with fail
    rw [HX4.out.1, ← HX4.out.2]
    refine (sxDrop_any H4.out.p.p (by omega) (some ⟨x4, 0, none⟩) 1 [k7] HV4.out (fun k hk => by rw [List.mem_singleton.1 hk]; exact k7_ok) (by simp)).mono ?_
    rintro e w5 h5
    unfold DropPost at h5
    rw [if_pos (by rfl)] at h5
    obtain ⟨rfl, b5⟩ := h5
    have H5 := Lib.hid (H4.out.below b5)
    clear b5 v0 v1 v2 v3
    have v0 := cell_of_blk H5.out.k 0
    have v1 := cell_of_blk H5.out.k 1
    have v2 := cell_of_blk H5.out.k 2
    have v3 := cell_of_blk H5.out.k 3
    have y0 := cell_of_blk H5.out.v 0
    have y1 := cell_of_blk H5.out.v 1
    have y2 := cell_of_blk H5.out.v 2
    simp at v0 v1 v2 v3 y0 y1 y2
    go_wp2_with fail
    refine (sxSee_any H5.out.p.p (by omega) k7_ok s).mono ?_
    rintro e w6 h6
    unfold SeePost at h6
    rw [if_neg HBD.out, if_neg (by decide)] at h6
    obtain ⟨rfl, ns6, n6, s6, c6⟩ := h6
    have H6 := Lib.hid (H5.out.step s6 c6 (fun j hj => .inr (.inl hj)) H5.out.p.g2 H5.out.p.g3)
    have HN6 := Lib.hid n6
    clear s6 c6 n6 v0 v1 v2 v3 y0 y1 y2
    obtain ⟨gs, hgs⟩ : ∃ g : Ky → Option Sn, g = updK (fun _ => none) k7 (some s) := ⟨_, rfl⟩
    rw [← hgs] at H6
    have HGS : Hid (gs k7 = some s ∧ ∀ j, (gs j).isSome = true ↔ j = k7) := Lib.hid ⟨by rw [hgs, updK_at], fun j => by rw [hgs]; exact updK_one (fun j hj => by cases hj) j⟩
    clear hgs
    have v0 := cell_of_blk H6.out.k 0
    have v1 := cell_of_blk H6.out.k 1
    have v2 := cell_of_blk H6.out.k 2
    have v3 := cell_of_blk H6.out.k 3
    simp at v0 v1 v2 v3
    go_wp2_with fail
    refine (sxSee_any H6.out.p.p (by have := HN6.out; omega) k7_ok ⟨0, ⟨#[]⟩, false⟩).mono ?_
    rintro e w7 h7
    unfold SeePost at h7
    rw [if_neg (fun h => h.1 rfl), if_pos (by rw [HGS.out.1]; rfl)] at h7
    obtain ⟨rfl, b7⟩ := h7
    have H7 := Lib.hid (H6.out.below b7)
    clear b7 v0 v1 v2 v3
    have y1 := cell_of_blk H7.out.v 1
    have y2 := cell_of_blk H7.out.v 2
    simp at y1 y2
    go_wp2_with fail
    go_quiet (fail)
    have HA0 : Hid (OvA w1 (w7.drewN nq) kb vb sb bs bw bm ns6 0 gs (fun _ => none) s 0 s.val s.has) := Lib.hid ⟨0, _, H7.out.below (below_drewN (Below.refl _ _) _), by omega, (fun j hj => by cases hj), rfl⟩
    obtain ⟨w8, hw8⟩ : ∃ u, u = w7.drewN nq := ⟨_, rfl⟩
    rw [← hw8] at HA0
    rw [← hw8]
    clear hw8 y1 y2
    go_wp2_with fail
    go_loopw [9, 10, 11] (fun s9 s10 i wr => ∃ n : Nat, n ≤ n1 ∧ i = .int .i64 n ∧ ∃ val has, s9 = .string val ∧ s10 = .bool has ∧ Hid (OvA w1 wr kb vb sb bs bw bm ns6 0 gs (fun _ => none) s n val has)) (fun _ _ i _ => n1 - (intOf i).toNat)
    case atStart => exact ⟨0, Nat.zero_le _, rfl, _, _, rfl, rfl, HA0⟩
    case round =>
      obtain ⟨n, hn, rfl, val, has, rfl, rfl, HI⟩ := hrel
      by_cases hlt : n < n1
      · have hltz : (n : Int) < (n1 : Int) := by omega
        obtain ⟨nw, gw, hO, hnw, hone, hval⟩ := HI.out
        obtain ⟨bt, hbt⟩ : ∃ x, l1[n]? = some x := ⟨_, List.getElem?_eq_getElem (by have := HN1.out; omega)⟩
        obtain ⟨b, off, rfl, hbl, hbc⟩ := HL1.out (fun e => by rw [e] at hbt; simp at hbt)
        have HCB : Hid (∀ u, Below w1.heap.size w1 u → u.cell? ⟨b, off + n, none⟩ = some (.string bt)) := Lib.hid (fun u hu => ((below_then HB1.out hu).cell (p := ⟨b, off + n, none⟩) hbl).trans (hbc n bt hbt))
        have HO := Lib.hid hO
        have HNW := Lib.hid hnw
        have HONE := Lib.hid hone
        have c0 := HCB.out _ hO.p.b
        clear hO hnw hone hval hbt hbl hbc
        by_cases hbig : 500 < bt.size
        · have t1 : decide ((500 : Int) < (bt.size : Int)) = true := decide_eq_true (by omega)
          go_wp2_with fail
          go_ret
          exact ⟨rfl, HBW.out.trans ((below_then HB1.out HO.out.p.b).mono HBW.out.size)⟩
        have t1 : decide ((500 : Int) < (bt.size : Int)) = false := decide_eq_false (by omega)
        have v0 := cell_of_blk HO.out.k 0
        have v1 := cell_of_blk HO.out.k 1
        have v2 := cell_of_blk HO.out.k 2
        have v3 := cell_of_blk HO.out.k 3
        simp at v0 v1 v2 v3
        go_upto_region 13 with fail
        clear t1 hbig
        refine wp_region_still_tail 6 (by kernel_rfl) (by kernel_rfl) ?_
        change wpStill _ _ (World.drew _) (fun a' => wpList _ _ _ _ a' (World.drew _)) _ _
        simp only [List.take_succ_cons, List.take_zero, List.drop_succ_cons, List.drop_zero]
        repeat still_step
        refine wpStill_nil ?_
        clear v0 v1 v2 v3 c0
        have H1 := Lib.hid HO.out.drew
        go_wp2_with fail
        refine (sxPut_any H1.out.p.p (by have := HNW.out; omega) k7_ok bt).mono ?_
        rintro e w9 h9
        unfold PutPost at h9
        rw [if_pos (by rw [HGS.out.1]; rfl)] at h9
        obtain ⟨rfl, nw9, n9, s9, c9⟩ := h9
        have H9 := Lib.hid (H1.out.step s9 c9 (fun j hj => .inr (.inr (.inl hj))) H1.out.p.g2 H1.out.p.g3)
        have HN9 := Lib.hid n9
        clear s9 c9 n9
        obtain ⟨g9, hg9⟩ : ∃ g : Ky → Option Tx, g = updK gw k7 (some ⟨bt, true⟩) := ⟨_, rfl⟩
        rw [← hg9] at H9
        have HG9 : Hid (g9 k7 = some ⟨bt, true⟩ ∧ ∀ j, (g9 j).isSome = true → j = k7) := Lib.hid ⟨by rw [hg9, updK_at], fun j hj => by rw [hg9] at hj; exact (updK_one HONE.out j).1 hj⟩
        clear hg9
        have c0 := HCB.out _ H9.out.p.b
        by_cases hq : n % 3 = 2
        · have q1 : ((n : Int) % 3 == 2) = true := by have : (n : Int) % 3 = 2 := by omega
                                                      rw [this]; rfl
          have q2 : ((n : Int).tmod 3 == 2) = true := by
            rw [Int.tmod_eq_emod_of_nonneg (by omega)]; exact q1
          have v0 := cell_of_blk H9.out.k 0
          have v1 := cell_of_blk H9.out.k 1
          have v2 := cell_of_blk H9.out.k 2
          have v3 := cell_of_blk H9.out.k 3
          simp at v0 v1 v2 v3
          obtain ⟨X4, hX4⟩ : ∃ X, w9.alloc (.cells #[.int .i64 7, .int .i64 0, .int .i64 0, .string ⟨#[107]⟩] 62) = X := ⟨_, rfl⟩
          obtain ⟨x4, hx4⟩ : ∃ x, x = w9.heap.size := ⟨_, rfl⟩
          have b4 : Below w9.heap.size w9 X4 := by rw [← hX4]; exact below_box _ _
          have e4 : X4.heap[x4]? = some (.cells #[.int .i64 7, .int .i64 0, .int .i64 0, .string ⟨#[107]⟩] 62) := by rw [← hX4, hx4]; exact heap_new _ _
          have HV4 : Hid (kK.V X4 (some ⟨x4, 0, none⟩) [k7]) := Lib.hid (fun _ => ⟨_, 0, rfl, RowK.new_at (k := kK) e4 rfl⟩)
          have H4 := Lib.hid (H9.out.below b4)
          have HX4 := Lib.hid (And.intro hX4 hx4)
          clear b4 e4 hX4 hx4 hq
          go_wp2_with fail
          rw [HX4.out.1, ← HX4.out.2]
          clear v0 v1 v2 v3 c0 q1 q2
          refine (sxDrop_any H4.out.p.p (by have := HN9.out; have := HNW.out; omega) (some ⟨x4, 0, none⟩) 1 [k7] HV4.out (fun k hk => by rw [List.mem_singleton.1 hk]; exact k7_ok) (by simp)).mono ?_
          rintro e w5 h5
          unfold DropPost at h5
          rw [if_neg (by simp [HGS.out.1])] at h5
          obtain ⟨rfl, nw5, n5, s5, c5⟩ := h5
          have H5 := Lib.hid (H4.out.step s5 c5 (fun j hj => .inr (.inr (.inl hj))) H4.out.p.g2 H4.out.p.g3)
          have HA : Hid (OvA w1 w5 kb vb sb bs bw bm ns6 0 gs (fun _ => none) s (n + 1) ⟨#[]⟩ false) := Lib.hid ⟨nw5, _, H5.out, by have := HN9.out; have := HNW.out; simp at n5; omega, fun j hj => (updK_one HG9.out.2 j).1 hj, by show (match updK g9 k7 (some ⟨⟨#[]⟩, false⟩) k7 with | some t => t | none => _) = _; rw [updK_at]⟩
          clear s5 c5 n5
          go_wp2_with fail
          exact ⟨⟨n + 1, by omega, by go_num, _, _, rfl, rfl, HA⟩, by simp [intOf]; omega⟩
        · have q1 : ((n : Int) % 3 == 2) = false := Bool.eq_false_iff.2 (fun h => by have := eq_of_beq h; omega)
          have q2 : ((n : Int).tmod 3 == 2) = false := by
            rw [Int.tmod_eq_emod_of_nonneg (by omega)]; exact q1
          have HA : Hid (OvA w1 w9 kb vb sb bs bw bm ns6 0 gs (fun _ => none) s (n + 1) bt true) := Lib.hid ⟨nw9, _, H9.out, by have := HN9.out; have := HNW.out; omega, HG9.out.2, by unfold valX; rw [HG9.out.1]⟩
          clear hq
          go_wp2_with fail
          exact ⟨⟨n + 1, by omega, by go_num, _, _, rfl, rfl, HA⟩, by simp [intOf]; omega⟩
      · obtain rfl : n = n1 := by omega
        obtain ⟨nw, gw, hO, hnw, hone, hval⟩ := HI.out
        have HO := Lib.hid hO
        have HNW : Hid (nw ≤ 100) := Lib.hid (by omega)
        have HONE := Lib.hid hone
        have HVAL := Lib.hid hval
        clear hO hnw hone hval HI
        go_wp2_with fail
        refine (sxMark_any HO.out.p.p).mono ?_
        rintro e w9 ⟨rfl, s9, c9⟩
        have H9 := Lib.hid (HO.out.step s9 c9 (fun j hj => .inl hj) HO.out.p.g2 HO.out.p.b.size)
        obtain ⟨bm9, hbm9⟩ : ∃ b, b = wr.heap.size := ⟨_, rfl⟩
        rw [← hbm9] at H9
        clear s9 c9 hbm9
        have HB0 : Hid (OvB w1 w9 kb vb sb bs bw bm9 ns6 nw gs gw s 0) := Lib.hid ⟨nw, gw, H9.out, by have := HNW.out; omega⟩
        go_wp2_with fail
        go_loopw [12] (fun i wq => ∃ m : Nat, m ≤ n2 ∧ i = .int .i64 m ∧ Hid (OvB w1 wq kb vb sb bs bw bm9 ns6 nw gs gw s m)) (fun i _ => n2 - (intOf i).toNat)
        case atStart => exact ⟨0, Nat.zero_le _, rfl, HB0⟩
        case round =>
          obtain ⟨m, hm, rfl, HI⟩ := hrel
          by_cases hlt2 : m < n2
          · have hltz : (m : Int) < (n2 : Int) := by omega
            obtain ⟨nw2, gw2, hO, hnw⟩ := HI.out
            obtain ⟨bt, hbt⟩ : ∃ x, l2[m]? = some x := ⟨_, List.getElem?_eq_getElem (by have := HN2.out; omega)⟩
            obtain ⟨b, off, rfl, hbl, hbc⟩ := HL2.out (fun e => by rw [e] at hbt; simp at hbt)
            have HCB : Hid (∀ u, Below w1.heap.size w1 u → u.cell? ⟨b, off + m, none⟩ = some (.string bt)) := Lib.hid (fun u hu => ((below_then HB1.out hu).cell (p := ⟨b, off + m, none⟩) hbl).trans (hbc m bt hbt))
            have HO2 := Lib.hid hO
            have HNW2 := Lib.hid hnw
            have c0 := HCB.out _ hO.p.b
            clear hO hnw hbt hbl hbc
            by_cases hbig : 500 < bt.size
            · have t1 : decide ((500 : Int) < (bt.size : Int)) = true := decide_eq_true (by omega)
              go_wp2_with fail
              go_ret
              exact ⟨rfl, HBW.out.trans ((below_then HB1.out HO2.out.p.b).mono HBW.out.size)⟩
            have t1 : decide ((500 : Int) < (bt.size : Int)) = false := decide_eq_false (by omega)
            have v0 := cell_of_blk HO2.out.k 0
            have v1 := cell_of_blk HO2.out.k 1
            have v2 := cell_of_blk HO2.out.k 2
            have v3 := cell_of_blk HO2.out.k 3
            simp at v0 v1 v2 v3
            go_upto_region 24 with fail
            clear t1 hbig
            refine wp_region_still_tail 6 (by kernel_rfl) (by kernel_rfl) ?_
            change wpStill _ _ (World.drew _) (fun a' => wpList _ _ _ _ a' (World.drew _)) _ _
            simp only [List.take_succ_cons, List.take_zero, List.drop_succ_cons, List.drop_zero]
            repeat still_step
            refine wpStill_nil ?_
            clear v0 v1 v2 v3 c0
            have H1 := Lib.hid HO2.out.drew
            go_wp2_with fail
            refine (sxPut_any H1.out.p.p (by have := HNW2.out; omega) k7_ok bt).mono ?_
            rintro e w10 h10
            unfold PutPost at h10
            rw [if_pos (by rw [HGS.out.1]; rfl)] at h10
            obtain ⟨rfl, nw10, n10, s10, c10⟩ := h10
            have H10 := Lib.hid (H1.out.step s10 c10 (fun j hj => .inr (.inr (.inl hj))) H1.out.p.g2 H1.out.p.g3)
            have HN10 := Lib.hid n10
            clear s10 c10 n10
            have v0 := cell_of_blk H10.out.k 0
            have v1 := cell_of_blk H10.out.k 1
            have v2 := cell_of_blk H10.out.k 2
            have v3 := cell_of_blk H10.out.k 3
            simp at v0 v1 v2 v3
            go_wp2_with fail
            refine (sxGet_any H10.out.p.p k7_ok).mono ?_
            rintro e w11 ⟨rfl, b11⟩
            rw [show getX gs (updK gw2 k7 (some ⟨bt, true⟩)) k7 = (bt, true, true) by unfold getX; rw [updK_at]]
            have H11 := Lib.hid (H10.out.below b11)
            have c0 := HCB.out _ H11.out.p.b
            clear b11 v0 v1 v2 v3
            have HB9 : Hid (OvB w1 w11 kb vb sb bs bw bm9 ns6 nw gs gw s (m + 1)) := Lib.hid ⟨nw10, _, H11.out, by have := HN10.out; have := HNW2.out; omega⟩
            go_wp2_with fail
            exact ⟨⟨m + 1, by omega, by go_num, HB9⟩, by simp [intOf]; omega⟩
          · obtain rfl : m = n2 := by omega
            obtain ⟨nw2, gw2, hO, hnw⟩ := HI.out
            have HO2 := Lib.hid hO
            have HNW2 : Hid (nw2 ≤ 200) := Lib.hid (by omega)
            clear hO hnw HI
            have HK3 : Hid ((key13 3).Ok) := Lib.hid (key13_ok 3 ⟨by decide, by decide⟩)
            have HNE : Hid (key13 3 ≠ k7) := Lib.hid (fun e => by injection e with e; cases e)
            go_wp2_with fail
            refine (key13_any _ _).mono ?_
            rintro e w10 ⟨rfl, b10⟩
            have H10 := Lib.hid (HO2.out.below b10)
            clear b10
            go_wp2_with fail
            refine (sxSee_any H10.out.p.p (by have := HN6.out; omega) HK3.out ⟨0, ⟨#[]⟩, false⟩).mono ?_
            rintro e w11 h11
            unfold SeePost at h11
            have hno3 : gs (key13 3) = none := by
              cases hq : gs (key13 3) with
              | none => rfl
              | some x => exact absurd ((HGS.out.2 (key13 3)).1 (by rw [hq]; rfl)) HNE.out
            rw [if_neg (fun h => h.1 rfl), if_neg (by rw [hno3]; decide)] at h11
            obtain ⟨rfl, ns11, n11, s11, c11⟩ := h11
            have H11 := Lib.hid (H10.out.step s11 c11 (fun j hj => .inr (.inl hj)) H10.out.p.g2 H10.out.p.g3)
            have HN11 : Hid (ns11 ≤ 10) := Lib.hid (by have := HN6.out; omega)
            clear s11 c11 n11 hno3
            obtain ⟨g11, hg11⟩ : ∃ g : Ky → Option Sn, g = updK gs (key13 3) (some ⟨0, ⟨#[]⟩, false⟩) := ⟨_, rfl⟩
            rw [← hg11] at H11
            have HG11 : Hid (g11 k7 = some s ∧ g11 (key13 3) = some ⟨0, ⟨#[]⟩, false⟩ ∧ ∀ j, (g11 j).isSome = true ↔ (j = key13 3 ∨ j = k7)) := Lib.hid (by
              rw [hg11]
              refine ⟨?_, updK_at, fun j => ?_⟩
              · unfold updK
                rw [if_neg (fun e => HNE.out e.symm)]
                exact HGS.out.1
              · unfold updK
                by_cases e : j = key13 3
                · rw [if_pos e]; exact ⟨fun _ => .inl e, fun _ => rfl⟩
                · rw [if_neg e, HGS.out.2 j]; exact ⟨fun h => .inr h, fun h => h.elim (fun h => absurd h e) (fun h => h)⟩)
            clear hg11
            go_wp2_with fail
            refine (key13_any _ _).mono ?_
            rintro e w12 ⟨rfl, b12⟩
            have H12 := Lib.hid (H11.out.below b12)
            clear b12
            go_wp2_with fail
            refine (sxPut_any H12.out.p.p (by have := HNW2.out; omega) HK3.out ⟨#[110, 101, 119]⟩).mono ?_
            rintro e w13 h13
            unfold PutPost at h13
            rw [if_pos (by rw [HG11.out.2.1]; rfl)] at h13
            obtain ⟨rfl, nw13, n13, s13, c13⟩ := h13
            have H13 := Lib.hid (H12.out.step s13 c13 (fun j hj => .inr (.inr (.inl hj))) H12.out.p.g2 H12.out.p.g3)
            clear s13 c13 n13
            go_wp2_with fail
            refine (sxBack_any H13.out.p.p).mono ?_
            rintro e w14 ⟨rfl, s14, c14⟩
            have H14 := Lib.hid (H13.out.step s14 c14 (fun j hj => .inl hj) H13.out.p.b.size H13.out.p.g3)
            clear s14 c14
            have v0 := cell_of_blk H14.out.k 0
            have v1 := cell_of_blk H14.out.k 1
            have v2 := cell_of_blk H14.out.k 2
            have v3 := cell_of_blk H14.out.k 3
            simp at v0 v1 v2 v3
            go_wp2_with fail
            refine (sxGet_any H14.out.p.p k7_ok).mono ?_
            rintro e w15 ⟨rfl, b15⟩
            have hget : getX g11 gw k7 = (val, has, true) := by
              have hv := HVAL.out
              unfold valX at hv
              unfold getX
              cases hq : gw k7 with
              | none => rw [hq] at hv; injection hv with h1 h2; simp only; rw [HG11.out.1]; show (s.val, s.has, true) = _; rw [h1, h2]
              | some t => rw [hq] at hv; simp only at hv; rw [hv]
            rw [hget]
            have H15 := Lib.hid (H14.out.below b15)
            clear b15 v0 v1 v2 v3 hget
            go_wp2_with fail
            refine (key13_any _ _).mono ?_
            rintro e w16 ⟨rfl, b16⟩
            have H16 := Lib.hid (H15.out.below b16)
            clear b16
            go_wp2_with fail
            refine (sxGet_any H16.out.p.p HK3.out).mono ?_
            rintro e w17 ⟨rfl, b17⟩
            have hget : getX g11 gw (key13 3) = (⟨#[]⟩, false, true) := by
              unfold getX
              cases hq : gw (key13 3) with
              | none => simp only; rw [HG11.out.2.1]
              | some t => exact absurd (HONE.out (key13 3) (by rw [hq]; rfl)) HNE.out
            rw [hget]
            have H17 := Lib.hid (H16.out.below b17)
            clear b17 hget
            have v0 := cell_of_blk H17.out.k 0
            have v1 := cell_of_blk H17.out.k 1
            have v2 := cell_of_blk H17.out.k 2
            have v3 := cell_of_blk H17.out.k 3
            simp at v0 v1 v2 v3
            go_wp2_with fail
            refine (sxSeen_any H17.out.p.p k7_ok).mono ?_
            rintro e w18 ⟨rfl, b18⟩
            rw [HG11.out.1]
            have H18 := Lib.hid (H17.out.below b18)
            clear b18 v0 v1 v2 v3
            have y0 := cell_of_blk H18.out.v 0
            have y1 := cell_of_blk H18.out.v 1
            have y2 := cell_of_blk H18.out.v 2
            simp at y0 y1 y2
            simp only [Option.map_some, Option.getD_some, Sn.v, Option.isSome_some]
            obtain ⟨Y, hY⟩ : ∃ Y, w18.alloc (.cells #[.int .u64 s.word, .string s.val, .bool s.has] 64) = Y := ⟨_, rfl⟩
            have bY : Below w18.heap.size w18 Y := by rw [← hY]; exact below_box _ _
            have eY : Y.heap[w18.heap.size]? = some (.cells #[.int .u64 s.word, .string s.val, .bool s.has] 64) := by rw [← hY]; exact heap_new _ _
            obtain ⟨yb, hyb⟩ : ∃ y, y = w18.heap.size := ⟨_, rfl⟩
            rw [← hyb] at eY
            have H19 := Lib.hid (H18.out.below bY)
            have HY := Lib.hid (And.intro hY hyb)
            have HEY := Lib.hid eY
            clear bY eY hY hyb y0 y1 y2
            go_upto_region 34 with fail
            rw [HY.out.1, ← HY.out.2]
            have y0 := cell_of_blk H19.out.v 0
            have y1 := cell_of_blk H19.out.v 1
            have y2 := cell_of_blk H19.out.v 2
            have x0 := cell_of_blk HEY.out 0
            have x1 := cell_of_blk HEY.out 1
            have x2 := cell_of_blk HEY.out 2
            simp at y0 y1 y2 x0 x1 x2
            go_wp2_with (refine wpList_agg_runW (o := ⟨some 209, _, _, _, _, _⟩) (by rfl) .eql 64 64 (.tmp 207) (.tmp 208) rfl _ _ rfl rfl (by kernel_rfl) (.bool true) (eqSn s _) ?_)
            refine (sxReads_any H19.out.p.p (by have := HN11.out; omega)).mono ?_
            rintro e w20 ⟨v20, ks, rfl, hks, o20, b20⟩
            have hks2 : ks = [key13 3, k7] := sorted_unique _ _ hks.1 (List.pairwise_cons.2 ⟨fun j hj => by rw [List.mem_singleton.1 hj]; simp [Ky.cmp, key13, k7, cmpI, orI], List.pairwise_singleton _ _⟩) (fun j => by
              simp only [List.mem_cons, List.not_mem_nil, or_false]
              constructor
              · intro hj
                exact (HG11.out.2.2 j).1 ((hks.2.2.2 j (hks.2.1 j hj)).1 hj)
              · intro hj
                have hok : j.Ok := by rcases hj with rfl | rfl; exact HK3.out; exact k7_ok
                exact (hks.2.2.2 j hok).2 ((HG11.out.2.2 j).2 hj))
            subst hks2
            obtain ⟨a20, p20, hv20⟩ := o20.shape
            subst hv20
            have HB20 := Lib.hid (below_then H19.out.p.b b20)
            clear hks o20 b20 y0 y1 y2 x0 x1 x2
            go_wp2_with fail
            go_ret
            exact ⟨rfl, HBW.out.trans ((below_then HB1.out HB20.out).mono HBW.out.size)⟩
end Go.Proofs.Ytcghgnncmnoalaa
