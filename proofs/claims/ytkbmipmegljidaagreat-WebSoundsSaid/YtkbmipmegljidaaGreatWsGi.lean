/- slices.Values, maps.Keys, slices.AppendSeq, slices.Collect, slices.Sorted of ints. Conditions: each contract's own premises. slices.Sorted of what slices.Values, maps.Keys hand back, of ints. Conditions: each contract's own premises. -/
import Derived.RangeFuncBox
import Derived.RangeFuncLeaves
import Derived.RangeFuncNested
import Derived.Sort.MapsRangeIn
import Derived.Shelf.Abstract
import Derived.WalkKit
import Derived.OwnWalkIn
import Derived.TacticsInMore
import Derived.LoopNIn
import Derived.LoopIn
import Derived.Maps.AppendAt
import Derived.Test.YtkbmipmegljidaaGreatGr8
namespace Go.Proofs.YtkbmipmegljidaaGreat
open Go.RowKit Go.Maps

attribute [local go_sem] Oper.semAt_some

theorem cell_one_new (w : World) (x : Value) (t : TypeId) : ∀ j u, [x][j]? = some u → (w.alloc (.cells #[x] t)).cell? ((⟨w.heap.size, 0, none⟩ : Addr).add j) = some u := by
  intro j u hj
  have hn := heap_new w (.cells #[x] t)
  match j, hj with
  | 0, hj => injection hj with hj; subst hj; exact cell_of_blk hn 0
/-- keys that have come -/
def ColI (f : Lit → Option Value) (left : Lit → Bool) (ks : List Int) : Prop := ks.Nodup ∧ (∀ k ∈ ks, I64 k) ∧ ∀ k : Int, I64 k → (k ∈ ks ↔ (f (.int .i64 k)).isSome = true ∧ left (.int .i64 k) = false)
/-- the keys of a map of ints -/
def KsI (f : Lit → Option Value) (n : Nat) (ks : List Int) : Prop := ks.Nodup ∧ (∀ k ∈ ks, I64 k) ∧ ks.length ≤ n ∧ ∀ k : Int, I64 k → (k ∈ ks ↔ (f (.int .i64 k)).isSome = true)
theorem ColI.start {f : Lit → Option Value} {left : Lit → Bool} (h : ∀ kl, WideAt.IsKeyLit kl → left kl = (f kl).isSome) : ColI f left [] :=
  ⟨List.nodup_nil, fun k hk => (by cases hk), fun k hk => ⟨fun hk => (by cases hk), fun ⟨h1, h2⟩ => by
    rw [h _ (lawI.key (keyI hk)), h1] at h2
    cases h2⟩⟩
theorem ColI.step {f : Lit → Option Value} {left : Lit → Bool} {ks : List Int} {x : Int} (h : ColI f left ks) (hx : I64 x) (hf : (f (.int .i64 x)).isSome = true) (hl : left (.int .i64 x) = true) : ColI f (fun z => left z && !z.sameKey (.int .i64 x)) (ks ++ [x]) := by
  obtain ⟨h1, h2, h3⟩ := h
  refine ⟨List.nodup_append.2 ⟨h1, by simp, fun a ha b hb => ?_⟩, fun k hk => ?_, fun k hk => ?_⟩
  · obtain rfl : b = x := by simpa using hb
    intro e
    subst e
    have := ((h3 a hx).1 ha).2
    rw [hl] at this
    cases this
  · rcases List.mem_append.1 hk with hk | hk
    · exact h2 k hk
    · obtain rfl : k = x := by simpa using hk
      exact hx
  · rw [List.mem_append, List.mem_singleton, h3 k hk]
    by_cases e : k = x
    · subst e
      simp [hf, sameI]
    · simp [e, otherI e]
theorem ColI.end {f : Lit → Option Value} {left : Lit → Bool} {ks : List Int} {n : Nat} (h : ColI f left ks) (hl : ∀ kl, left kl = false) (hn : ks.length ≤ n) : KsI f n ks :=
  ⟨h.1, h.2.1, hn, fun k hk => by rw [h.2.2 k hk, hl]; simp⟩

set_option maxRecDepth 100000 in
set_option maxHeartbeats 2000000 in
/-- the closure of maps.Keys, whatever the rounds do that leave maps and iterators alone -/
theorem keys1V_in (F : Fence) (n : Nat) (hf : F.fn 63) (hro : F.round = none) (hn : 1 ≤ n) (l Bm b nn : Nat) (f : Lit → Option Value) (J Jx : List Int → World → Prop)
    (hY : ∀ pre x W, J pre W → pre.length < nn → YieldAt F (n - 1) Tryz.prog l #[.int .i64 x] W fun e W' => (e = .returned (.bool true) ∧ J (pre ++ [x]) W' ∧ KeepsWalks W W') ∨ (e = .returned (.bool false) ∧ Jx (pre ++ [x]) W'))
    (W : World) (hJ : AbidesFrom W.heap.size J) (hm : W.cell? ⟨Bm, 0, none⟩ = some (.map (some b))) (hmap : mapR W Tryz.prog 3 b nn f) (h0 : J [] W) :
    CallsIn F n Tryz.prog 63 #[.func (.yield l) #[] #[], .pointer (some ⟨Bm, 0, none⟩)] W fun e W' => (∃ v, e = .returned v) ∧
      ((∃ ks, KsI f nn ks ∧ J ks W') ∨ (∃ pre : List Int, pre.Nodup ∧ Jx pre W')) := by
  obtain ⟨D0, hown, hsz, hhas, hat0⟩ := hmap.open'
  refine callsIn_of_wp Tryz.func63 rfl hf ?_ hro
  simp only [Tryz.ntmps63, List.size_toArray, List.length_cons, List.length_nil, Nat.reduceAdd, Nat.reduceSub, Array.replicate_succ, Array.replicate_zero, List.push_toArray, List.append_toArray, List.nil_append, List.cons_append]
  gi_wp2_with (first
    | (gi_at_range; refine wpListIn_range_own _ rfl _ 77 rfl 3 30 lawI Tryz.underlying77 _ b nn _ rfl hown ?_; intro w0 hrg0 hg0 hs0)
    | gi_in)
  go_frame
  gi_loopw [3] (fun _ wr => ∃ (left : Lit → Bool) (cnt : Nat) (ks : List Int), wr.ranges Tryz.prog 3 rawElem b W.heap.size nn D0 left cnt ∧ ks.length + cnt ≤ nn ∧ ColI f left ks ∧ J ks wr)
    (fun _ wr => wr.rangeLeft b W.heap.size)
  case atStart =>
    exact ⟨_, _, [], hrg0, by rw [hsz]; simp, ColI.start hhas, hJ [] W w0 none h0 hg0 (fun r e => by cases e)⟩
  case round =>
    obtain ⟨left, cnt, ks, hrg, hcs, hC, hJs⟩ := hrel
    gi_wp2_with (first
      | (gi_at_next; refine wpListIn_next_ranges _ rfl _ rfl 3 lawI rawElem (Value.int .i64) id (fun key kl hk => by obtain ⟨x, rfl, _⟩ := Maps.keyOf_int_inv Tryz.underlying3 hk; exact ⟨x, rfl⟩) (fun v _ _ => ⟨v, rfl⟩) b W.heap.size nn _ _ _ rfl hrg ?_ ?_)
      | gi_in)
    · intro hc0 hl0
      gi_wp2
      go_end0
      exact ⟨⟨_, rfl⟩, .inl ⟨ks, hC.end hl0 (by omega), hJs⟩⟩
    · intro x c kl yd yp w2 cnt2 hkey hlk hv hat hrg2 hlt hg2 hs2 hen
      obtain ⟨x', ex, rfl, hwx⟩ := Maps.keyOf_int_inv Tryz.underlying3 hkey
      obtain rfl : x = x' := by injection ex
      have hxo : I64 x := I64.of_wf hwx
      have hyd : yd = .held c := by
        simp only [rawElem, Option.some.injEq, Prod.mk.injEq] at hv
        exact hv.1.symm
      have hfx : (f (.int .i64 x)).isSome = true := by
        rw [hat0 _ c (lawI.key (keyI hxo)) (fun z => by rw [hat z]; exact hyd)]
        rfl
      have hJ2 : J ks w2 := hJ ks wr w2 (some W.heap.size) hJs hg2 (fun r e => by cases e; exact ⟨Nat.le_refl _, hrg.iter_walk⟩)
      obtain ⟨fn, tmps, assign, body, hy, hR⟩ := hY ks x _ hJ2 (by omega)
      have hC2 := hC.step hxo hfx hlk
      have HC2 := Lib.hid hC2
      have HRG4 := Lib.hid hrg2
      clear hs2 hat hv hkey hlk hyd hfx hJ2 hC2 hrg2 hg2 ex
      gi_wp2
      refine hR.mono ?_
      rintro e W3 (⟨rfl, hJ3, hk3⟩ | ⟨rfl, hJx3⟩)
      · gi_wp2
        have hrg3 := HRG4.out.of_walks hk3
        go_roundw
        case rel => exact ⟨_, cnt2, ks ++ [x], hrg3, by simp; omega, HC2.out, hJ3⟩
        case measure => rw [hrg3.left_eq, hrg.left_eq]; exact hlt
      · gi_wp2
        refine bodyPost_ret (results_none rfl _ _ _) rfl ?_
        exact ⟨⟨_, rfl⟩, .inr ⟨ks ++ [x], HC2.out.1, hJx3⟩⟩
set_option maxHeartbeats 1000000 in
/-- maps.Keys -/
theorem keysV_in (F : Fence) (n : Nat) (hf : F.fn 26) (hro : F.round = none) (mb : Option Nat) (w : World) :
    CallsIn F n Tryz.prog 26 #[.map mb] w fun e w' => e = .returned (.func (.func 63) #[] #[.pointer (some ⟨w.heap.size, 0, none⟩)]) ∧ w' = w.alloc (.cells #[.map mb] 77) := by
  refine callsIn_of_wp Tryz.func26 rfl hf ?_ hro
  simp only [Tryz.ntmps26, List.size_toArray, List.length_cons, List.length_nil, Nat.reduceAdd, Nat.reduceSub, Array.replicate_succ, Array.replicate_zero, List.push_toArray, List.append_toArray, List.nil_append, List.cons_append]
  gi_wp2
  go_ret
  exact ⟨rfl, rfl⟩
/-- what maps.Keys hands back gives all keys, in some order -/
theorem keysV_stops (F : Fence) (n : Nat) (hf : F.fn 63) (hro : F.round = none) (hn : 1 ≤ n) (Bm b nn : Nat) (f : Lit → Option Value) (w : World) (hBm : Bm < w.heap.size) (hm : w.cell? ⟨Bm, 0, none⟩ = some (.map (some b))) (hmap : mapR w Tryz.prog 3 b nn f) :
    SeqStopsK F n Tryz.prog 63 #[.pointer (some ⟨Bm, 0, none⟩)] (fun x : Int => #[.int .i64 x]) KeepsWalks (KsI f nn) (fun pre => pre.Nodup) nn w := fun l J Jx W hW hJ _ hY h0 =>
  keys1V_in F n hf hro hn l Bm b nn f J Jx hY W hJ ((hW.cell (p := ⟨Bm, 0, none⟩) hBm).trans hm) (hmap.of_block (hW.block b hmap.lt)) h0

set_option maxRecDepth 100000 in
set_option maxHeartbeats 2000000 in
/-- the closure of maps.Keys, whatever the rounds do that leave maps and iterators alone -/
theorem keys1E_in (F : Fence) (n : Nat) (hf : F.fn 65) (hro : F.round = none) (hn : 1 ≤ n) (l Bm b nn : Nat) (f : Lit → Option Value) (J Jx : List Int → World → Prop)
    (hY : ∀ pre x W, J pre W → pre.length < nn → YieldAt F (n - 1) Tryz.prog l #[.int .i64 x] W fun e W' => (e = .returned (.bool true) ∧ J (pre ++ [x]) W' ∧ KeepsWalks W W') ∨ (e = .returned (.bool false) ∧ Jx (pre ++ [x]) W'))
    (W : World) (hJ : AbidesFrom W.heap.size J) (hm : W.cell? ⟨Bm, 0, none⟩ = some (.map (some b))) (hmap : mapR W Tryz.prog 3 b nn f) (h0 : J [] W) :
    CallsIn F n Tryz.prog 65 #[.func (.yield l) #[] #[], .pointer (some ⟨Bm, 0, none⟩)] W fun e W' => (∃ v, e = .returned v) ∧
      ((∃ ks, KsI f nn ks ∧ J ks W') ∨ (∃ pre : List Int, pre.Nodup ∧ Jx pre W')) := by
  obtain ⟨D0, hown, hsz, hhas, hat0⟩ := hmap.open'
  refine callsIn_of_wp Tryz.func65 rfl hf ?_ hro
  simp only [Tryz.ntmps65, List.size_toArray, List.length_cons, List.length_nil, Nat.reduceAdd, Nat.reduceSub, Array.replicate_succ, Array.replicate_zero, List.push_toArray, List.append_toArray, List.nil_append, List.cons_append]
  gi_wp2_with (first
    | (gi_at_range; refine wpListIn_range_own _ rfl _ 78 rfl 3 32 lawI Tryz.underlying78 _ b nn _ rfl hown ?_; intro w0 hrg0 hg0 hs0)
    | gi_in)
  go_frame
  gi_loopw [3] (fun _ wr => ∃ (left : Lit → Bool) (cnt : Nat) (ks : List Int), wr.ranges Tryz.prog 3 rawElem b W.heap.size nn D0 left cnt ∧ ks.length + cnt ≤ nn ∧ ColI f left ks ∧ J ks wr)
    (fun _ wr => wr.rangeLeft b W.heap.size)
  case atStart =>
    exact ⟨_, _, [], hrg0, by rw [hsz]; simp, ColI.start hhas, hJ [] W w0 none h0 hg0 (fun r e => by cases e)⟩
  case round =>
    obtain ⟨left, cnt, ks, hrg, hcs, hC, hJs⟩ := hrel
    gi_wp2_with (first
      | (gi_at_next; refine wpListIn_next_ranges _ rfl _ rfl 3 lawI rawElem (Value.int .i64) id (fun key kl hk => by obtain ⟨x, rfl, _⟩ := Maps.keyOf_int_inv Tryz.underlying3 hk; exact ⟨x, rfl⟩) (fun v _ _ => ⟨v, rfl⟩) b W.heap.size nn _ _ _ rfl hrg ?_ ?_)
      | gi_in)
    · intro hc0 hl0
      gi_wp2
      go_end0
      exact ⟨⟨_, rfl⟩, .inl ⟨ks, hC.end hl0 (by omega), hJs⟩⟩
    · intro x c kl yd yp w2 cnt2 hkey hlk hv hat hrg2 hlt hg2 hs2 hen
      obtain ⟨x', ex, rfl, hwx⟩ := Maps.keyOf_int_inv Tryz.underlying3 hkey
      obtain rfl : x = x' := by injection ex
      have hxo : I64 x := I64.of_wf hwx
      have hyd : yd = .held c := by
        simp only [rawElem, Option.some.injEq, Prod.mk.injEq] at hv
        exact hv.1.symm
      have hfx : (f (.int .i64 x)).isSome = true := by
        rw [hat0 _ c (lawI.key (keyI hxo)) (fun z => by rw [hat z]; exact hyd)]
        rfl
      have hJ2 : J ks w2 := hJ ks wr w2 (some W.heap.size) hJs hg2 (fun r e => by cases e; exact ⟨Nat.le_refl _, hrg.iter_walk⟩)
      obtain ⟨fn, tmps, assign, body, hy, hR⟩ := hY ks x _ hJ2 (by omega)
      have hC2 := hC.step hxo hfx hlk
      have HC2 := Lib.hid hC2
      have HRG4 := Lib.hid hrg2
      clear hs2 hat hv hkey hlk hyd hfx hJ2 hC2 hrg2 hg2 ex
      gi_wp2
      refine hR.mono ?_
      rintro e W3 (⟨rfl, hJ3, hk3⟩ | ⟨rfl, hJx3⟩)
      · gi_wp2
        have hrg3 := HRG4.out.of_walks hk3
        go_roundw
        case rel => exact ⟨_, cnt2, ks ++ [x], hrg3, by simp; omega, HC2.out, hJ3⟩
        case measure => rw [hrg3.left_eq, hrg.left_eq]; exact hlt
      · gi_wp2
        refine bodyPost_ret (results_none rfl _ _ _) rfl ?_
        exact ⟨⟨_, rfl⟩, .inr ⟨ks ++ [x], HC2.out.1, hJx3⟩⟩
set_option maxHeartbeats 1000000 in
/-- maps.Keys -/
theorem keysE_in (F : Fence) (n : Nat) (hf : F.fn 28) (hro : F.round = none) (mb : Option Nat) (w : World) :
    CallsIn F n Tryz.prog 28 #[.map mb] w fun e w' => e = .returned (.func (.func 65) #[] #[.pointer (some ⟨w.heap.size, 0, none⟩)]) ∧ w' = w.alloc (.cells #[.map mb] 78) := by
  refine callsIn_of_wp Tryz.func28 rfl hf ?_ hro
  simp only [Tryz.ntmps28, List.size_toArray, List.length_cons, List.length_nil, Nat.reduceAdd, Nat.reduceSub, Array.replicate_succ, Array.replicate_zero, List.push_toArray, List.append_toArray, List.nil_append, List.cons_append]
  gi_wp2
  go_ret
  exact ⟨rfl, rfl⟩
/-- what maps.Keys hands back gives all keys, in some order -/
theorem keysE_stops (F : Fence) (n : Nat) (hf : F.fn 65) (hro : F.round = none) (hn : 1 ≤ n) (Bm b nn : Nat) (f : Lit → Option Value) (w : World) (hBm : Bm < w.heap.size) (hm : w.cell? ⟨Bm, 0, none⟩ = some (.map (some b))) (hmap : mapR w Tryz.prog 3 b nn f) :
    SeqStopsK F n Tryz.prog 65 #[.pointer (some ⟨Bm, 0, none⟩)] (fun x : Int => #[.int .i64 x]) KeepsWalks (KsI f nn) (fun pre => pre.Nodup) nn w := fun l J Jx W hW hJ _ hY h0 =>
  keys1E_in F n hf hro hn l Bm b nn f J Jx hY W hJ ((hW.cell (p := ⟨Bm, 0, none⟩) hBm).trans hm) (hmap.of_block (hW.block b hmap.lt)) h0

set_option maxRecDepth 100000 in
set_option maxHeartbeats 2000000 in
/-- slices.AppendSeq(nil, seq), whatever seq gives -/
theorem appIW_in (F : Fence) (n : Nat) (h1 : F.fn 97) (hro : F.round = none) (hn : 3 ≤ n) (gf : Nat) (lb : Array Value) (h2 : F.fn gf) (eg : ∀ args w, (callFunc gf args).run Tryz.prog w = .ok (.enter gf args) w) (S Sp : List Int → Prop) (N : Nat) (hN : N ≤ 1000000) (w : World)
    (hseq : SeqStopsK F (n - 1) Tryz.prog gf lb (fun x : Int => #[.int .i64 x]) KeepsWalks S Sp N w) :
    CallsIn F n Tryz.prog 97 #[.slice none 0 0, .func (.func gf) #[] lb] w fun e W' => ∃ v ks, e = .returned v ∧ S ks ∧ kI.Own W' w.heap.size v ks ∧ Below w.heap.size w W' := by
  have hn1 : 1 ≤ n := by omega
  obtain ⟨i0, hi, hz0, hz1, hz2⟩ := info_parts infoI
  refine callsIn_of_wp_marks Tryz.func97 rfl h1 ?_ hro
  simp only [Tryz.ntmps97, List.size_toArray, List.length_cons, List.length_nil, Nat.reduceAdd, Nat.reduceSub, Array.replicate_succ, Array.replicate_zero, List.push_toArray, List.append_toArray, List.nil_append, List.cons_append]
  gi_wp2
  have bO := Boxed.new w 72 (.slice none 0 0)
  have hB0 : Below w.heap.size w (w.alloc (.cells #[.slice none 0 0] 72)) := below_box w _
  refine wpIn_rangeFunc_ownH hro hn1 (gf := gf) (lb := lb) rfl h2 eg
    hseq walksK_t walksK_b hB0 (fun _ => rfl)
    (fun pre W => (∃ v, Boxed W w.heap.size 72 v ∧ W.ownsRow w.heap.size 3 1 v pre.length (kI.cells pre) ∧ True) ∧ Below w.heap.size w W)
    (fun _ _ _ => False)
    (OwnFrom.and (Own.from (holdsRow_own w.heap.size w.heap.size 72 3 1 (fun pre => pre.length) (fun pre => kI.cells pre) (fun _ _ => True)) _) (ownFrom_below (Nat.le_refl _) (by simp)))
    (fun _ _ _ _ _ hs _ _ => hs)
    ⟨⟨_, bO, World.ownsRow_nil _ _ _ _, trivial⟩, hB0⟩
    (fun x a' _ => a' = { tmps := #[.slice none 0 0, .func (.func gf) #[] lb, .pointer (some ⟨w.heap.size, 0, none⟩), undef, .slice none 0 0, .int .i64 x, .func (.func gf) #[] lb, .int .i64 x, undef, undef, undef, undef, undef], defers := [] })
    (fun x a' _ X Y row hs hg hr => hs)
    ?assign ?body ?done ?stop
  case assign =>
    rintro l pre x W K ⟨⟨v, hv, hrow, _⟩, hB⟩ hK
    gi_wp2
    exact hK _ _ ((KeepsOthers.refl _).from _) (KeepsWalks.refl _) ⟨⟨v, hv, hrow, trivial⟩, hB⟩ rfl
  case body =>
    rintro l pre x a' W hl ⟨r, hr⟩ ⟨⟨v, hv, hrow, _⟩, hB⟩ rfl hlt
    have hc := hv.cell
    have hml : ∀ u ∈ kI.enc x, u.oneCell' = true := kI.one x
    gi_wp2_with (gi_at_builtin; refine wpListIn_append_own _ rfl _ _ 72 rfl w.heap.size 3 i0 (.int .i64 0) 1 8 Tryz.underlying72 hi hz0 hz1 hz2 rfl (by decide) _ _ _ rfl (hrow.alloc _) ⟨W.heap.size, 0, none⟩ 1 1 (kI.enc x) rfl rfl (cell_one_new _ _ _) hml (by unfold maxLen; omega) (by omega) (by have := hB.size; simp; omega) ?_; intro v' w1 hown' hgrow _; obtain ⟨g', cap', rfl⟩ := ownsRow_succ hown'; obtain ⟨hv1, hv2, hr2, hk2, hb2⟩ := hv.appended (by decide) hrow hB.size (Nat.le_refl _) hown' hgrow; have hc1 := hv1.cell; have hf1 := hv1.frozen)
    have ec : kI.cells (pre ++ [x]) = kI.cells pre ++ kI.enc x := (RowK.cells_append kI pre [x]).trans (congrArg (kI.cells pre ++ ·) (List.append_nil (kI.enc x)))
    exact ⟨hk2.from _, hk2.walks, ⟨_, hv2, by rw [ec, List.length_append]; exact hr2, trivial⟩, hB.trans hb2⟩
  case done =>
    rintro D ys W hD hS ⟨⟨v, hv, hrow, _⟩, hB⟩ hK
    have hc := hv.cell
    gi_wp2
    refine ⟨by simp, .inl ⟨_, _, rfl, run_takeDeferred hK, ?_⟩⟩
    exact ⟨_, results_tmp rfl _ _ _, v, ys, rfl, hS, ownsRow_putObj hrow _ hK rfl, hB.trans (belowK_b (w := w) (Nat.le_refl _) W D _ _ (by simp at hD; omega) hK rfl rfl)⟩
  case stop =>
    rintro D c pre W _ _ h _
    exact h.elim
set_option maxHeartbeats 1000000 in
theorem colIW_in (F : Fence) (n : Nat) (h0 : F.fn 61) (h1 : F.fn 97) (hro : F.round = none) (hn : 4 ≤ n) (gf : Nat) (lb : Array Value) (h2 : F.fn gf) (eg : ∀ args w, (callFunc gf args).run Tryz.prog w = .ok (.enter gf args) w) (S Sp : List Int → Prop) (N : Nat) (hN : N ≤ 1000000) (w : World)
    (hseq : SeqStopsK F (n - 1 - 1) Tryz.prog gf lb (fun x : Int => #[.int .i64 x]) KeepsWalks S Sp N w) :
    CallsIn F n Tryz.prog 61 #[.func (.func gf) #[] lb] w fun e W' => ∃ v ks, e = .returned v ∧ S ks ∧ kI.Own W' w.heap.size v ks ∧ Below w.heap.size w W' := by
  have hn1 : 1 ≤ n := by omega
  refine callsIn_of_wp Tryz.func61 rfl h0 ?_ hro
  simp only [Tryz.ntmps61, List.size_toArray, List.length_cons, List.length_nil, Nat.reduceAdd, Nat.reduceSub, Array.replicate_succ, Array.replicate_zero, List.push_toArray, List.append_toArray, List.nil_append, List.cons_append]
  gi_wp2_with (gi_at_call 97; refine (appIW_in F (n - 1) h1 hro (by omega) gf lb h2 eg S Sp N hN _ hseq).mono ?_; rintro e w' ⟨v, ks, rfl, hs, ho, hb⟩)
  go_ret
  exact ⟨v, ks, rfl, hs, ho, hb⟩

end Go.Proofs.YtkbmipmegljidaaGreat
namespace Go.Proofs.YtkbmipmegljidaaGreat
open Go.RowKit Go.Maps

/-- slices.Collect(maps.Keys(m)) -/
theorem icolV_any (Bm b nn : Nat) (f : Lit → Option Value) (hN : nn ≤ 1000000) (w : World) (hBm : Bm < w.heap.size) (hm : w.cell? ⟨Bm, 0, none⟩ = some (.map (some b))) (hmap : mapR w Tryz.prog 3 b nn f) :
    Calls Tryz.prog 61 #[.func (.func 63) #[] #[.pointer (some ⟨Bm, 0, none⟩)]] w fun e W' => ∃ v ks, e = .returned v ∧ KsI f nn ks ∧ kI.Own W' w.heap.size v ks ∧ Below w.heap.size w W' :=
  (callsIn_wide (n := 4)).1 (colIW_in _ 4 trivial trivial rfl (by omega) 63 _ trivial (enters_of Tryz.func63 (by kernel_rfl) rfl) _ _ nn hN w (keysV_stops _ _ trivial rfl (by omega) Bm b nn f w hBm hm hmap))
theorem icolE_any (Bm b nn : Nat) (f : Lit → Option Value) (hN : nn ≤ 1000000) (w : World) (hBm : Bm < w.heap.size) (hm : w.cell? ⟨Bm, 0, none⟩ = some (.map (some b))) (hmap : mapR w Tryz.prog 3 b nn f) :
    Calls Tryz.prog 61 #[.func (.func 65) #[] #[.pointer (some ⟨Bm, 0, none⟩)]] w fun e W' => ∃ v ks, e = .returned v ∧ KsI f nn ks ∧ kI.Own W' w.heap.size v ks ∧ Below w.heap.size w W' :=
  (callsIn_wide (n := 4)).1 (colIW_in _ 4 trivial trivial rfl (by omega) 65 _ trivial (enters_of Tryz.func65 (by kernel_rfl) rfl) _ _ nn hN w (keysE_stops _ _ trivial rfl (by omega) Bm b nn f w hBm hm hmap))
theorem ikeysV_any (mb : Option Nat) (w : World) : Calls Tryz.prog 26 #[.map mb] w fun e w' => e = .returned (.func (.func 63) #[] #[.pointer (some ⟨w.heap.size, 0, none⟩)]) ∧ w' = w.alloc (.cells #[.map mb] 77) :=
  (callsIn_wide (n := 4)).1 (keysV_in _ 4 trivial rfl mb w)
theorem ikeysE_any (mb : Option Nat) (w : World) : Calls Tryz.prog 28 #[.map mb] w fun e w' => e = .returned (.func (.func 65) #[] #[.pointer (some ⟨w.heap.size, 0, none⟩)]) ∧ w' = w.alloc (.cells #[.map mb] 78) :=
  (callsIn_wide (n := 4)).1 (keysE_in _ 4 trivial rfl mb w)
set_option maxHeartbeats 1000000 in
/-- slices.Sorted, whatever Collect gives -/
theorem isorted_of (fv : Value) (S : List Int → Prop) (w : World) (hS : ∀ ks, S ks → ks.length ≤ 1000000) (h : Calls Tryz.prog 61 #[fv] w fun e W' => ∃ v ks, e = .returned v ∧ S ks ∧ kI.Own W' w.heap.size v ks ∧ Below w.heap.size w W') :
    Calls Tryz.prog 25 #[fv] w fun e W' => ∃ v ks, e = .returned v ∧ S ks ∧ kI.Own W' w.heap.size v (sortI ks) ∧ Below w.heap.size w W' := by
  have H := Lib.hid h
  have HS := Lib.hid hS
  clear h hS
  go_enter Tryz.func25, Tryz.ntmps25
  go_wp2_with fail
  refine H.out.mono ?_
  rintro e w1 ⟨v, ks, rfl, hs, ho, hb⟩
  have HKS := Lib.hid hs
  have HO := Lib.hid ho
  have HB := Lib.hid hb
  clear hs ho hb
  go_wp2_with fail
  refine (sortI_any HO.out (HS.out ks HKS.out)).mono ?_
  rintro e w2 ⟨rfl, o2, b2⟩
  have HO2 := Lib.hid o2
  have HB2 := Lib.hid (HB.out.trans b2)
  clear o2 b2
  go_wp2_with fail
  go_ret
  exact ⟨v, ks, rfl, HKS.out, HO2.out, HB2.out⟩
/-- the ids of a list by rising ids -/
theorem ids_sorted {α : Type} {key : α → Int} {L : List α} {f : Lit → Option Value} {n : Nat} {ks : List Int} (hs : SortB key L) (hi : ∀ x ∈ L, I64 (key x)) (hf : ∀ k, I64 k → ((f (.int .i64 k)).isSome = (findB key L k).isSome)) (h : KsI f n ks) : sortI ks = L.map key := by
  refine incI_uniq (sortI_inc h.1) (sortB_nodup hs) (fun k => ?_)
  rw [(sortI_perm ks).mem_iff, List.mem_map]
  constructor
  · intro hk
    have h1 := (h.2.2.2 k (h.2.1 k hk)).1 hk
    rw [hf k (h.2.1 k hk)] at h1
    obtain ⟨x, hx⟩ := Option.isSome_iff_exists.1 h1
    exact ⟨x, findB_some hx⟩
  · rintro ⟨x, hx, rfl⟩
    refine (h.2.2.2 _ (hi x hx)).2 ?_
    rw [hf _ (hi x hx), findB_mem hs hx]
    rfl
theorem VmOk.some {w : World} {f : Lit → Option Value} {V : List Vt} (h : VmOk w f V) {k : Int} (hk : I64 k) : (f (.int .i64 k)).isSome = (findB Vt.id V k).isSome := by
  cases hf : findB Vt.id V k with
  | none => rw [h.no k hk hf]; rfl
  | some y =>
    obtain ⟨h1, h2⟩ := findB_some hf
    obtain ⟨a, c, h3, _⟩ := h.yes y h1
    rw [h2] at h3
    rw [h3]; rfl
theorem EmOk.some {w : World} {f : Lit → Option Value} {E : List Eg} (h : EmOk w f E) {k : Int} (hk : I64 k) : (f (.int .i64 k)).isSome = (findB Eg.id E k).isSome := by
  cases hf : findB Eg.id E k with
  | none => rw [h.no k hk hf]; rfl
  | some y =>
    obtain ⟨h1, h2⟩ := findB_some hf
    obtain ⟨a, c, h3, _⟩ := h.yes y h1
    rw [h2] at h3
    rw [h3]; rfl
/-- slices.Sorted(maps.Keys(vertices)) -/
theorem isortedV_any (Bm : Nat) {gb vb eb : Nat} {V : List Vt} {E : List Eg} (w : World) (h : GrC w gb vb eb V E) (hN : V.length ≤ 1000000) (hBm : Bm < w.heap.size) (hm : w.cell? ⟨Bm, 0, none⟩ = some (.map (some vb))) :
    Calls Tryz.prog 25 #[.func (.func 63) #[] #[.pointer (some ⟨Bm, 0, none⟩)]] w fun e W' => ∃ v, e = .returned v ∧ kI.Own W' w.heap.size v (V.map Vt.id) ∧ Below w.heap.size w W' := by
  obtain ⟨f, m, hf⟩ := h.vm
  refine (isorted_of _ (KsI f V.length) w (fun ks h => by have := h.2.2.1; omega) (icolV_any Bm vb V.length f hN w hBm hm m)).mono ?_
  rintro e W' ⟨v, ks, rfl, hk, ho, hb⟩
  rw [ids_sorted h.ok.sv (fun x hx => checkR_ids (h.ok.v x hx) (by simp)) (fun k hk => hf.some hk) hk] at ho
  exact ⟨v, rfl, ho, hb⟩
theorem isortedE_any (Bm : Nat) {gb vb eb : Nat} {V : List Vt} {E : List Eg} (w : World) (h : GrC w gb vb eb V E) (hN : E.length ≤ 1000000) (hBm : Bm < w.heap.size) (hm : w.cell? ⟨Bm, 0, none⟩ = some (.map (some eb))) :
    Calls Tryz.prog 25 #[.func (.func 65) #[] #[.pointer (some ⟨Bm, 0, none⟩)]] w fun e W' => ∃ v, e = .returned v ∧ kI.Own W' w.heap.size v (E.map Eg.id) ∧ Below w.heap.size w W' := by
  obtain ⟨f, m, hf⟩ := h.em
  refine (isorted_of _ (KsI f E.length) w (fun ks h => by have := h.2.2.1; omega) (icolE_any Bm eb E.length f hN w hBm hm m)).mono ?_
  rintro e W' ⟨v, ks, rfl, hk, ho, hb⟩
  rw [ids_sorted h.ok.se (fun x hx => checkR_ids (h.ok.e x hx) (by simp)) (fun k hk => hf.some hk) hk] at ho
  exact ⟨v, rfl, ho, hb⟩
end Go.Proofs.YtkbmipmegljidaaGreat
