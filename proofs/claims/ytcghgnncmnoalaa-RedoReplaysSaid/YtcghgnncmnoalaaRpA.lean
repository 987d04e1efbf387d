/- maps.Values at Write. Conditions: each contract's own premises. slices.AppendSeq, slices.Collect of writes. Conditions: each contract's own premises. -/
import Derived.Test.YtcghgnncmnoalaaKq1
import Derived.Test.YtcghgnncmnoalaaRd10
import Derived.Maps.AppendAt
namespace Go.Proofs.Ytcghgnncmnoalaa
open Go.RowKit Go.Maps

attribute [local go_sem] Oper.semAt_some

/-- a write, as a value -/
def Wr.agg (w : Wr) : Value := .agg #[.int .i64 w.k.kind, .int .i64 w.k.a, .int .i64 w.k.b, .string w.k.s, .string w.val, .bool w.has]
/-- the values of a map of writes, in some order -/
def WsOf (f : Lit → Option Value) (n : Nat) (ws : List Wr) : Prop := KsOf f n (ws.map Wr.k) ∧ ∀ y ∈ ws, f y.k.lit = some y.agg
set_option maxRecDepth 100000 in
set_option maxHeartbeats 2000000 in
/-- the closure of maps.Values, whatever the rounds do that leave maps and iterators alone -/
theorem valsW1_in (F : Fence) (n : Nat) (hf : F.fn 146) (hro : F.round = none) (hn : 1 ≤ n) (l Bm b nn : Nat) (f : Lit → Option Value) (hfw : ∀ (k : Ky) c, k.Ok → f k.lit = some c → ∃ y : Wr, y.k = k ∧ c = y.agg) (J Jx : List Wr → World → Prop)
    (hY : ∀ pre x W, J pre W → pre.length < nn → YieldAt F (n - 1) Try.prog l #[x.agg] W fun e W' => (e = .returned (.bool true) ∧ J (pre ++ [x]) W' ∧ KeepsWalks W W') ∨ (e = .returned (.bool false) ∧ Jx (pre ++ [x]) W'))
    (W : World) (hJ : AbidesFrom W.heap.size J) (hm : W.cell? ⟨Bm, 0, none⟩ = some (.map (some b))) (hmap : mapR W Try.prog 62 b nn f) (h0 : J [] W) :
    CallsIn F n Try.prog 146 #[.func (.yield l) #[] #[], .pointer (some ⟨Bm, 0, none⟩)] W fun e W' => (∃ v, e = .returned v) ∧
      ((∃ ws, WsOf f nn ws ∧ J ws W') ∨ (∃ pre : List Wr, True ∧ Jx pre W')) := by
  obtain ⟨D0, hown, hsz, hhas, hat0⟩ := hmap.open'
  refine callsIn_of_wp Try.func146 rfl hf ?_ hro
  simp only [Try.ntmps146, List.size_toArray, List.length_cons, List.length_nil, Nat.reduceAdd, Nat.reduceSub, Array.replicate_succ, Array.replicate_zero, List.push_toArray, List.append_toArray, List.nil_append, List.cons_append]
  gi_wp2_with (first
    | (gi_at_range; refine wpListIn_range_own _ rfl _ 182 rfl 62 80 lawKey Try.underlying182 _ b nn _ rfl hown ?_; intro w0 hrg0 hg0 hs0)
    | gi_in)
  go_frame
  gi_loopw [4] (fun _ wr => ∃ (left : Lit → Bool) (cnt : Nat) (ks : List Wr), wr.ranges Try.prog 62 rawElem b W.heap.size nn D0 left cnt ∧ ks.length + cnt ≤ nn ∧ ColK f left (ks.map Wr.k) ∧ (∀ y ∈ ks, f y.k.lit = some y.agg) ∧ J ks wr)
    (fun _ wr => wr.rangeLeft b W.heap.size)
  case atStart =>
    exact ⟨_, _, [], hrg0, by rw [hsz]; simp, ColK.start hhas, (fun _ h => by simp at h), hJ [] W w0 none h0 hg0 (fun r e => by cases e)⟩
  case round =>
    obtain ⟨left, cnt, ks, hrg, hcs, hC, hV, hJs⟩ := hrel
    gi_wp2_with (first
      | (gi_at_next; refine wpListIn_next_ranges _ rfl _ rfl 62 lawKey rawElem Ky.val id (fun key kl hk => by obtain ⟨x, _, hx, _⟩ := keyK_inv hk; exact ⟨x, hx⟩) (fun v _ _ => ⟨v, rfl⟩) b W.heap.size nn _ _ _ rfl hrg ?_ ?_)
      | gi_in)
    · intro hc0 hl0
      gi_wp2
      go_end0
      exact ⟨⟨_, rfl⟩, .inl ⟨ks, ⟨hC.end hl0 (by rw [List.length_map]; omega), hV⟩, hJs⟩⟩
    · intro x c kl yd yp w2 cnt2 hkey hlk hv hat hrg2 hlt hg2 hs2 hen
      obtain ⟨x', hxo, ex, rfl⟩ := keyK_inv hkey
      obtain rfl : x = x' := Ky.val_inj ex
      have hyd : yd = .held c := by
        simp only [rawElem, Option.some.injEq, Prod.mk.injEq] at hv
        exact hv.1.symm
      have hfc : f x.lit = some c := hat0 x.lit c (lawKey.key (keyK hxo)) (fun z => by rw [hat z]; exact hyd)
      have hfx : (f x.lit).isSome = true := by rw [hfc]; rfl
      obtain ⟨y, hyk, rfl⟩ := hfw x c hxo hfc
      subst hyk
      have hJ2 : J ks w2 := hJ ks wr w2 (some W.heap.size) hJs hg2 (fun r e => by cases e; exact ⟨Nat.le_refl _, hrg.iter_walk⟩)
      have hJ4 : J ks (w2.alloc (.cells #[.int .i64 y.k.kind, .int .i64 y.k.a, .int .i64 y.k.b, .string y.k.s, .string y.val, .bool y.has] 80)) := hJ ks w2 _ none hJ2 (World.grownBy_alloc _ _ _) (fun r e => by cases e)
      have hrg4 := hrg2.of_walks (KeepsWalks.alloc w2 (.cells #[.int .i64 y.k.kind, .int .i64 y.k.a, .int .i64 y.k.b, .string y.k.s, .string y.val, .bool y.has] 80))
      obtain ⟨fn, tmps, assign, body, hy, hR⟩ := hY ks y _ hJ4 (by omega)
      have hC2 := hC.step hxo hfx hlk
      unfold Wr.agg at hy hen
      unfold Ky.val at hen
      have hV2 : ∀ z ∈ ks ++ [y], f z.k.lit = some z.agg := fun z hz => by
        rcases List.mem_append.1 hz with hz | hz
        · exact hV z hz
        · rw [List.mem_singleton.1 hz]; exact hfc
      have HV2 := Lib.hid hV2
      have HC2 := Lib.hid hC2
      have HRG4 := Lib.hid hrg4
      clear hV hV2 hfc
      clear hs2 hat hv hkey hlk hyd hfx hJ2 hJ4 hC2 hrg4 hrg2 hg2 ex
      gi_wp2
      refine hR.mono ?_
      rintro e W3 (⟨rfl, hJ3, hk3⟩ | ⟨rfl, hJx3⟩)
      · gi_wp2
        have hrg3 := HRG4.out.of_walks hk3
        go_roundw
        case rel => exact ⟨_, cnt2, ks ++ [y], hrg3, by simp; omega, by rw [List.map_append]; exact HC2.out, HV2.out, hJ3⟩
        case measure => rw [hrg3.left_eq, hrg.left_eq]; exact hlt
      · gi_wp2
        refine bodyPost_ret (results_none rfl _ _ _) rfl ?_
        exact ⟨⟨_, rfl⟩, .inr ⟨ks ++ [y], trivial, hJx3⟩⟩
set_option maxHeartbeats 1000000 in
/-- maps.Values -/
theorem valsW_in (F : Fence) (n : Nat) (hf : F.fn 117) (hro : F.round = none) (mb : Option Nat) (w : World) :
    CallsIn F n Try.prog 117 #[.map mb] w fun e w' => e = .returned (.func (.func 146) #[] #[.pointer (some ⟨w.heap.size, 0, none⟩)]) ∧ w' = w.alloc (.cells #[.map mb] 182) := by
  refine callsIn_of_wp Try.func117 rfl hf ?_ hro
  simp only [Try.ntmps117, List.size_toArray, List.length_cons, List.length_nil, Nat.reduceAdd, Nat.reduceSub, Array.replicate_succ, Array.replicate_zero, List.push_toArray, List.append_toArray, List.nil_append, List.cons_append]
  gi_wp2
  go_ret
  exact ⟨rfl, rfl⟩
/-- what maps.Values hands back gives all values, in some order -/
theorem valsW_stops (F : Fence) (n : Nat) (hf : F.fn 146) (hro : F.round = none) (hn : 1 ≤ n) (Bm b nn : Nat) (f : Lit → Option Value) (hfw : ∀ (k : Ky) c, k.Ok → f k.lit = some c → ∃ y : Wr, y.k = k ∧ c = y.agg) (w : World) (hBm : Bm < w.heap.size) (hm : w.cell? ⟨Bm, 0, none⟩ = some (.map (some b))) (hmap : mapR w Try.prog 62 b nn f) :
    SeqStopsK F n Try.prog 146 #[.pointer (some ⟨Bm, 0, none⟩)] (fun x : Wr => #[x.agg]) KeepsWalks (WsOf f nn) (fun _ => True) nn w := fun l J Jx W hW hJ _ hY h0 =>
  valsW1_in F n hf hro hn l Bm b nn f hfw J Jx hY W hJ ((hW.cell (p := ⟨Bm, 0, none⟩) hBm).trans hm) (hmap.of_block (hW.block b hmap.lt)) h0
end Go.Proofs.Ytcghgnncmnoalaa
namespace Go.Proofs.Ytcghgnncmnoalaa
open Go.RowKit Go.Maps

attribute [local go_sem] Oper.semAt_some

theorem cell_six_new (w : World) (x y z s r q : Value) (t : TypeId) : ∀ j u, [x, y, z, s, r, q][j]? = some u → (w.alloc (.cells #[x, y, z, s, r, q] t)).cell? ((⟨w.heap.size, 0, none⟩ : Addr).add j) = some u := by
  intro j u hj
  have hn := heap_new w (.cells #[x, y, z, s, r, q] t)
  match j, hj with
  | 0, hj => injection hj with hj; subst hj; exact cell_of_blk hn 0
  | 1, hj => injection hj with hj; subst hj; exact cell_of_blk hn 1
  | 2, hj => injection hj with hj; subst hj; exact cell_of_blk hn 2
  | 3, hj => injection hj with hj; subst hj; exact cell_of_blk hn 3
  | 4, hj => injection hj with hj; subst hj; exact cell_of_blk hn 4
  | 5, hj => injection hj with hj; subst hj; exact cell_of_blk hn 5
set_option maxRecDepth 100000 in
set_option maxHeartbeats 2000000 in
/-- slices.AppendSeq(nil, seq), whatever seq gives -/
theorem appW_in (F : Fence) (n : Nat) (h1 : F.fn 157) (hro : F.round = none) (hn : 3 ≤ n) (gf : Nat) (lb : Array Value) (h2 : F.fn gf) (eg : ∀ args w, (callFunc gf args).run Try.prog w = .ok (.enter gf args) w) (S Sp : List Wr → Prop) (N : Nat) (hN : N ≤ 1000000) (w : World)
    (hseq : SeqStopsK F (n - 1) Try.prog gf lb (fun x : Wr => #[x.agg]) KeepsWalks S Sp N w) :
    CallsIn F n Try.prog 157 #[.slice none 0 0, .func (.func gf) #[] lb] w fun e W' => ∃ v ks, e = .returned v ∧ S ks ∧ kW.Own W' w.heap.size v ks ∧ Below w.heap.size w W' := by
  have hn1 : 1 ≤ n := by omega
  obtain ⟨i0, hi, hz0, hz1, hz2⟩ := info_parts infoWr
  refine callsIn_of_wp_marks Try.func157 rfl h1 ?_ hro
  simp only [Try.ntmps157, List.size_toArray, List.length_cons, List.length_nil, Nat.reduceAdd, Nat.reduceSub, Array.replicate_succ, Array.replicate_zero, List.push_toArray, List.append_toArray, List.nil_append, List.cons_append]
  gi_wp2
  have bO := Boxed.new w 33 (.slice none 0 0)
  have hB0 : Below w.heap.size w (w.alloc (.cells #[.slice none 0 0] 33)) := below_box w _
  refine wpIn_rangeFunc_ownH hro hn1 (gf := gf) (lb := lb) rfl h2 eg
    hseq walksK_t walksK_b hB0 (fun _ => rfl)
    (fun pre W => (∃ v, Boxed W w.heap.size 33 v ∧ W.ownsRow w.heap.size 80 6 v pre.length (kW.cells pre) ∧ True) ∧ Below w.heap.size w W)
    (fun _ _ _ => False)
    (OwnFrom.and (Own.from (holdsRow_own w.heap.size w.heap.size 33 80 6 (fun pre => pre.length) (fun pre => kW.cells pre) (fun _ _ => True)) _) (ownFrom_below (Nat.le_refl _) (by simp)))
    (fun _ _ _ _ _ hs _ _ => hs)
    ⟨⟨_, bO, World.ownsRow_nil _ _ _ _, trivial⟩, hB0⟩
    (fun x a' W => ∃ Bx, w.heap.size < Bx ∧ W.heap[Bx]? = some (.cells #[.int .i64 x.k.kind, .int .i64 x.k.a, .int .i64 x.k.b, .string x.k.s, .string x.val, .bool x.has] 80) ∧ a' = { tmps := #[.slice none 0 0, .func (.func gf) #[] lb, .pointer (some ⟨w.heap.size, 0, none⟩), undef, .slice none 0 0, .pointer (some ⟨Bx, 0, none⟩), .func (.func gf) #[] lb, x.agg, undef, undef, undef, undef, undef], defers := [] })
    (fun x a' _ X Y row hs hg hr => by
      obtain ⟨Bx, q1, q2, q3⟩ := hs
      refine ⟨Bx, q1, (hg.block Bx (Array.getElem?_eq_some_iff.1 q2).1 (fun e => ?_)).trans q2, q3⟩
      obtain ⟨_, o, ho, hc⟩ := hr Bx e.symm
      rw [q2] at ho; cases ho; cases hc)
    ?assign ?body ?done ?stop
  case assign =>
    rintro l pre x W K ⟨⟨v, hv, hrow, _⟩, hB⟩ hK
    unfold Wr.agg
    gi_wp2
    exact hK _ _ ((KeepsOthers.alloc _ _).from _) (KeepsWalks.alloc _ _) ⟨⟨v, hv.alloc _, hrow.alloc _, trivial⟩, hB.alloc hB.size _⟩ ⟨W.heap.size, hv.lt, heap_new W _, rfl⟩
  case body =>
    rintro l pre x a' W hl ⟨r, hr⟩ ⟨⟨v, hv, hrow, _⟩, hB⟩ ⟨Bx, hBx, hX, rfl⟩ hlt
    have hc := hv.cell
    have x0 := cell_of_blk hX 0
    have x1 := cell_of_blk hX 1
    have x2 := cell_of_blk hX 2
    have x3 := cell_of_blk hX 3
    have x4 := cell_of_blk hX 4
    have x5 := cell_of_blk hX 5
    simp at x0 x1 x2 x3 x4 x5
    have hml : ∀ u ∈ Wr.cells x, u.oneCell' = true := kW.one x
    gi_wp2_with (gi_at_builtin; refine wpListIn_append_own _ rfl _ _ 33 rfl w.heap.size 80 i0 (.agg #[.int .i64 0, .int .i64 0, .int .i64 0, .string ⟨#[]⟩, .string ⟨#[]⟩, .bool false]) 6 64 Try.underlying33 hi hz0 hz1 hz2 rfl (by decide) _ _ _ rfl (hrow.alloc _) ⟨W.heap.size, 0, none⟩ 1 1 (Wr.cells x) rfl rfl (cell_six_new _ _ _ _ _ _ _ _) hml (by unfold maxLen; omega) (by omega) (by have := hB.size; simp; omega) ?_; intro v' w1 hown' hgrow _; obtain ⟨g', cap', rfl⟩ := ownsRow_succ hown'; obtain ⟨hv1, hv2, hr2, hk2, hb2⟩ := hv.appended (by decide) hrow hB.size (Nat.le_refl _) hown' hgrow; have hc1 := hv1.cell; have hf1 := hv1.frozen)
    have ec : kW.cells (pre ++ [x]) = kW.cells pre ++ Wr.cells x := (RowK.cells_append kW pre [x]).trans (congrArg (kW.cells pre ++ ·) (List.append_nil (Wr.cells x)))
    exact ⟨hk2.from _, hk2.walks, ⟨_, hv2, by rw [ec, List.length_append]; exact hr2, trivial⟩, hB.trans hb2⟩
  case done =>
    rintro D ys W hD hS ⟨⟨v, hv, hrow, _⟩, hB⟩ hK
    have hc := hv.cell
    gi_wp2
    refine ⟨by simp, .inl ⟨_, _, rfl, run_takeDeferred hK, ?_⟩⟩
    exact ⟨_, results_tmp rfl _ _ _, v, ys, rfl, hS, ownsRow_putObj hrow _ hK rfl, hB.trans (belowK_b (w := w) (Nat.le_refl _) W D _ _ (by simp at hD; omega) hK rfl rfl)⟩
  case stop =>
    rintro D c pre W _ _ h _
    exact h.elim
set_option maxHeartbeats 1000000 in
theorem colW_in (F : Fence) (n : Nat) (h0 : F.fn 144) (h1 : F.fn 157) (hro : F.round = none) (hn : 4 ≤ n) (gf : Nat) (lb : Array Value) (h2 : F.fn gf) (eg : ∀ args w, (callFunc gf args).run Try.prog w = .ok (.enter gf args) w) (S Sp : List Wr → Prop) (N : Nat) (hN : N ≤ 1000000) (w : World)
    (hseq : SeqStopsK F (n - 1 - 1) Try.prog gf lb (fun x : Wr => #[x.agg]) KeepsWalks S Sp N w) :
    CallsIn F n Try.prog 144 #[.func (.func gf) #[] lb] w fun e W' => ∃ v ks, e = .returned v ∧ S ks ∧ kW.Own W' w.heap.size v ks ∧ Below w.heap.size w W' := by
  have hn1 : 1 ≤ n := by omega
  refine callsIn_of_wp Try.func144 rfl h0 ?_ hro
  simp only [Try.ntmps144, List.size_toArray, List.length_cons, List.length_nil, Nat.reduceAdd, Nat.reduceSub, Array.replicate_succ, Array.replicate_zero, List.push_toArray, List.append_toArray, List.nil_append, List.cons_append]
  gi_wp2_with (gi_at_call 157; refine (appW_in F (n - 1) h1 hro (by omega) gf lb h2 eg S Sp N hN _ hseq).mono ?_; rintro e w' ⟨v, ks, rfl, hs, ho, hb⟩)
  go_ret
  exact ⟨v, ks, rfl, hs, ho, hb⟩
/-- slices.Collect(maps.Values(m)) -/
theorem colW_any (Bm b nn : Nat) (f : Lit → Option Value) (hfw : ∀ (k : Ky) c, k.Ok → f k.lit = some c → ∃ y : Wr, y.k = k ∧ c = y.agg) (hN : nn ≤ 1000000) (w : World) (hBm : Bm < w.heap.size) (hm : w.cell? ⟨Bm, 0, none⟩ = some (.map (some b))) (hmap : mapR w Try.prog 62 b nn f) :
    Calls Try.prog 144 #[.func (.func 146) #[] #[.pointer (some ⟨Bm, 0, none⟩)]] w fun e W' => ∃ v ks, e = .returned v ∧ WsOf f nn ks ∧ kW.Own W' w.heap.size v ks ∧ Below w.heap.size w W' :=
  (callsIn_wide (n := 4)).1 (colW_in _ 4 trivial trivial rfl (by omega) 146 _ trivial (enters_of Try.func146 (by kernel_rfl) rfl) _ _ nn hN w (valsW_stops _ _ trivial rfl (by omega) Bm b nn f hfw w hBm hm hmap))
theorem valsW_any (mb : Option Nat) (w : World) : Calls Try.prog 117 #[.map mb] w fun e w' => e = .returned (.func (.func 146) #[] #[.pointer (some ⟨w.heap.size, 0, none⟩)]) ∧ w' = w.alloc (.cells #[.map mb] 182) :=
  (callsIn_wide (n := 4)).1 (valsW_in _ 4 trivial rfl mb w)
end Go.Proofs.Ytcghgnncmnoalaa
