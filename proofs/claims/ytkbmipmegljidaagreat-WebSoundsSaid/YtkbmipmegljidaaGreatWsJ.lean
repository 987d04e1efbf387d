/- slices.Values, AppendSeq, Collect at writes. Conditions: each contract's own premises. (Printed by gen_sw5.py out of the same at records.) slices.SortStableFunc, SortedStableFunc of writes by web.order; slices.DeleteFunc where all stay. Conditions: each contract's own premises. slices.DeleteFunc where all stay; web.sorted, web.plain. Conditions: each contract's own premises. -/
import Derived.RangeFuncBox
import Derived.RangeFuncLeaves
import Derived.RangeFuncNested
import Derived.Shelf.Abstract
import Derived.WalkKit
import Derived.OwnWalkIn
import Derived.TacticsInMore
import Derived.LoopNIn
import Derived.LoopIn
import Derived.Maps.AppendAt
import Derived.Test.YtkbmipmegljidaaGreatWsF
import Derived.Test.YtkbmipmegljidaaGreatWsH
import Derived.Test.YtkbmipmegljidaaGreatSwPlain
import Derived.Test.YtkbmipmegljidaaGreatWsD
namespace Go.Proofs.YtkbmipmegljidaaGreat
open Go.RowKit Go.Maps

attribute [local go_sem] Oper.semAt_some

set_option maxRecDepth 100000 in
set_option maxHeartbeats 2000000 in
/-- the closure of slices.Values, whatever the rounds do that keep what lay below n0 -/
theorem wval1_in (F : Fence) (n : Nat) (hf : F.fn 92) (hro : F.round = none) (hn : 1 ≤ n) (l Bs n0 b off cap : Nat) (zs : List Wr) (hlen : zs.length ≤ 1000000) (hb : b < n0) (J Jx : List Wr → World → Prop) (W : World) (hJ : AbidesFrom W.heap.size J)
    (hY : ∀ pre x W1, J pre W1 → pre.length < zs.length → YieldAt F (n - 1) Tryz.prog l #[x.agg] W1 fun e W' =>
      (e = .returned (.bool true) ∧ J (pre ++ [x]) W' ∧ Below n0 W1 W') ∨ (e = .returned (.bool false) ∧ Jx (pre ++ [x]) W'))
    (hBs : W.cell? ⟨Bs, 0, none⟩ = some (.slice (some ⟨b, off, none⟩) zs.length cap)) (hc : kW.At W b off zs) (hn0 : n0 ≤ W.heap.size) (h0 : J [] W) :
    CallsIn F n Tryz.prog 92 #[.func (.yield l) #[] #[], .pointer (some ⟨Bs, 0, none⟩)] W fun e W' => (∃ v, e = .returned v) ∧ (J zs W' ∨ (∃ k, k ≤ zs.length ∧ Jx (zs.take k) W')) := by
  refine callsIn_of_wp Tryz.func92 rfl hf ?_ hro
  simp only [Tryz.ntmps92, List.size_toArray, List.length_cons, List.length_nil, Nat.reduceAdd, Nat.reduceSub, Array.replicate_succ, Array.replicate_zero, List.push_toArray, List.append_toArray, List.nil_append, List.cons_append]
  gi_wp2
  gi_loopw [7] (fun i wr => ∃ k : Nat, k ≤ zs.length ∧ i = .int .i64 k ∧ J (zs.take k) wr ∧ Below n0 W wr ∧ n0 ≤ wr.heap.size) (fun i _ => zs.length - (intOf i).toNat)
  case atStart => exact ⟨0, Nat.zero_le _, rfl, h0, Below.refl _ _, hn0⟩
  case round =>
    obtain ⟨k, hk, rfl, hJs, hnx, hsz⟩ := hrel
    by_cases hlt : k < zs.length
    · obtain ⟨x, hx⟩ : ∃ x, zs[k]? = some x := ⟨_, List.getElem?_eq_getElem hlt⟩
      obtain ⟨q0, q1, q2, q3, q4, q5⟩ := kW_cells hc hx
      have c0 : wr.cell? ⟨b, off + k * 6, none⟩ = some (.int .i64 x.k.kind) := (hnx.cell (p := ⟨b, off + k * 6, none⟩) hb).trans q0
      have c1 : wr.cell? ⟨b, off + k * 6 + 1, none⟩ = some (.int .i64 x.k.a) := (hnx.cell (p := ⟨b, off + k * 6 + 1, none⟩) hb).trans q1
      have c2 : wr.cell? ⟨b, off + k * 6 + 2, none⟩ = some (.int .i64 x.k.b) := (hnx.cell (p := ⟨b, off + k * 6 + 2, none⟩) hb).trans q2
      have c3 : wr.cell? ⟨b, off + k * 6 + 3, none⟩ = some (.string x.k.s) := (hnx.cell (p := ⟨b, off + k * 6 + 3, none⟩) hb).trans q3
      have c4 : wr.cell? ⟨b, off + k * 6 + 4, none⟩ = some (.string x.val) := (hnx.cell (p := ⟨b, off + k * 6 + 4, none⟩) hb).trans q4
      have c5 : wr.cell? ⟨b, off + k * 6 + 5, none⟩ = some (.bool x.has) := (hnx.cell (p := ⟨b, off + k * 6 + 5, none⟩) hb).trans q5
      have hT : zs.take (k + 1) = zs.take k ++ [x] := by
        obtain ⟨hk2, rfl⟩ := List.getElem?_eq_some_iff.1 hx
        exact (List.take_append_getElem hk2).symm
      have hJX : J (zs.take k) (wr.alloc (.cells #[.int .i64 x.k.kind, .int .i64 x.k.a, .int .i64 x.k.b, .string x.k.s, .string x.val, .bool x.has] 44)) := hJ _ wr _ none hJs (World.grownBy_alloc _ _ _) (fun r e => by cases e)
      have hbX : Below n0 wr (wr.alloc (.cells #[.int .i64 x.k.kind, .int .i64 x.k.a, .int .i64 x.k.b, .string x.k.s, .string x.val, .bool x.has] 44)) := (Below.refl _ _).alloc hsz _
      obtain ⟨fn, tmps, assign, body, hy, hR⟩ := hY _ x _ hJX (by simp; omega)
      rw [← hT] at hR
      unfold Wr.agg at hy
      gi_wp2
      refine hR.mono ?_
      rintro e W3 (⟨rfl, hJ3, hk3⟩ | ⟨rfl, hJx3⟩)
      · gi_wp2
        go_roundw
        case rel => exact ⟨k + 1, by omega, by simp, hJ3, hnx.trans (hbX.trans hk3), Nat.le_trans hsz (hbX.trans hk3).size⟩
        case measure => simp [intOf]; omega
      · gi_wp2
        refine bodyPost_ret (results_none rfl _ _ _) rfl ?_
        exact ⟨⟨_, rfl⟩, .inr ⟨k + 1, by omega, hJx3⟩⟩
    · obtain rfl : k = zs.length := by omega
      rw [List.take_length] at hJs
      gi_wp2
      go_end0
      exact ⟨⟨_, rfl⟩, .inl hJs⟩
set_option maxRecDepth 100000 in
set_option maxHeartbeats 1000000 in
/-- .. at no record at all: no round -/
theorem wval1_nil_in (F : Fence) (n : Nat) (hf : F.fn 92) (hro : F.round = none) (l Bs : Nat) (a : Option Addr) (cap : Nat) (J : List Wr → World → Prop) (W : World) (hBs : W.cell? ⟨Bs, 0, none⟩ = some (.slice a 0 cap)) (h0 : J [] W) :
    CallsIn F n Tryz.prog 92 #[.func (.yield l) #[] #[], .pointer (some ⟨Bs, 0, none⟩)] W fun e W' => (∃ v, e = .returned v) ∧ J [] W' := by
  refine callsIn_of_wp Tryz.func92 rfl hf ?_ hro
  simp only [Tryz.ntmps92, List.size_toArray, List.length_cons, List.length_nil, Nat.reduceAdd, Nat.reduceSub, Array.replicate_succ, Array.replicate_zero, List.push_toArray, List.append_toArray, List.nil_append, List.cons_append]
  gi_wp2
  gi_loopw [7] (fun i wr => i = .int .i64 0 ∧ J [] wr) (fun _ _ => 0)
  case atStart => exact ⟨rfl, h0⟩
  case round =>
    obtain ⟨rfl, hJs⟩ := hrel
    gi_wp2
    go_end0
    exact ⟨⟨_, rfl⟩, hJs⟩
set_option maxHeartbeats 1000000 in
/-- slices.Values of writes -/
theorem wval_in (F : Fence) (n : Nat) (hf : F.fn 52) (hro : F.round = none) (a : Option Addr) (len cap : Nat) (w : World) :
    CallsIn F n Tryz.prog 52 #[.slice a len cap] w fun e w' => e = .returned (.func (.func 92) #[] #[.pointer (some ⟨w.heap.size, 0, none⟩)]) ∧ w' = w.alloc (.cells #[.slice a len cap] 35) := by
  refine callsIn_of_wp Tryz.func52 rfl hf ?_ hro
  simp only [Tryz.ntmps52, List.size_toArray, List.length_cons, List.length_nil, Nat.reduceAdd, Nat.reduceSub, Array.replicate_succ, Array.replicate_zero, List.push_toArray, List.append_toArray, List.nil_append, List.cons_append]
  gi_wp2
  go_ret
  exact ⟨rfl, rfl⟩
/-- what slices.Values hands back gives all writes, in order -/
theorem wval_stops (F : Fence) (n : Nat) (hf : F.fn 92) (hro : F.round = none) (hn : 1 ≤ n) (Bs n0 : Nat) (a : Option Addr) (cap : Nat) (zs : List Wr) (hlen : zs.length ≤ 1000000) (w : World) (hBs : Bs < w.heap.size) (hn0 : n0 ≤ w.heap.size)
    (hc : w.cell? ⟨Bs, 0, none⟩ = some (.slice a zs.length cap)) (hz : zs ≠ [] → ∃ b off, a = some ⟨b, off, none⟩ ∧ b < n0 ∧ kW.At w b off zs) :
    SeqStopsK F n Tryz.prog 92 #[.pointer (some ⟨Bs, 0, none⟩)] (fun x : Wr => #[x.agg]) (Below n0) (fun ys => ys = zs) (fun pre => pre <+: zs) zs.length w := fun l J Jx W hW hJ _ hY h0 => by
  have hc' := (hW.cell (p := ⟨Bs, 0, none⟩) hBs).trans hc
  by_cases hne : zs = []
  · subst hne
    exact (wval1_nil_in F n hf hro l Bs a cap J W hc' h0).mono fun e W' ⟨he, hj⟩ => ⟨he, .inl ⟨_, rfl, hj⟩⟩
  · obtain ⟨b, off, rfl, hb, hat⟩ := hz hne
    refine (wval1_in F n hf hro hn l Bs n0 b off cap zs hlen hb J Jx W hJ hY hc' (hat.below hW) (Nat.le_trans hn0 hW.size) h0).mono ?_
    rintro e W' ⟨he, hj | ⟨k, _, hj⟩⟩
    · exact ⟨he, .inl ⟨_, rfl, hj⟩⟩
    · exact ⟨he, .inr ⟨_, List.take_prefix _ _, hj⟩⟩
set_option maxRecDepth 100000 in
set_option maxHeartbeats 2000000 in
/-- slices.AppendSeq(nil, seq) of what slices.Values of writes hands back -/
theorem appWV_in (F : Fence) (n : Nat) (h1 : F.fn 120) (h2 : F.fn 92) (hro : F.round = none) (hn : 3 ≤ n) (Bs : Nat) (a : Option Addr) (cap : Nat) (zs : List Wr) (hlen : zs.length ≤ 1000000) (w : World) (hBs : Bs < w.heap.size)
    (hc : w.cell? ⟨Bs, 0, none⟩ = some (.slice a zs.length cap)) (hz : kW.V w a zs) :
    CallsIn F n Tryz.prog 120 #[.slice none 0 0, .func (.func 92) #[] #[.pointer (some ⟨Bs, 0, none⟩)]] w fun e W' => ∃ v, e = .returned v ∧ kW.Own W' w.heap.size v zs ∧ Below w.heap.size w W' := by
  have hn1 : 1 ≤ n := by omega
  obtain ⟨i0, hi, hz0, hz1, hz2⟩ := info_parts infoWr
  refine callsIn_of_wp_marks Tryz.func120 rfl h1 ?_ hro
  simp only [Tryz.ntmps120, List.size_toArray, List.length_cons, List.length_nil, Nat.reduceAdd, Nat.reduceSub, Array.replicate_succ, Array.replicate_zero, List.push_toArray, List.append_toArray, List.nil_append, List.cons_append]
  gi_wp2
  have bO := Boxed.new w 35 (.slice none 0 0)
  have hB0 : Below w.heap.size w (w.alloc (.cells #[.slice none 0 0] 35)) := below_box w _
  refine wpIn_rangeFunc_ownH hro hn1 (gf := 92) (lb := #[.pointer (some ⟨Bs, 0, none⟩)]) rfl h2 (enters_of Tryz.func92 (by kernel_rfl) rfl)
    (wval_stops F (n - 1) h2 hro (by omega) Bs w.heap.size a cap zs hlen _ (by simp; omega) (by simp) ((hB0.cell (p := ⟨Bs, 0, none⟩) hBs).trans hc) (fun hne => by
      obtain ⟨b, off, e, hat⟩ := hz hne
      exact ⟨b, off, e, hat.lt, hat.below hB0⟩)) belowK_t (belowK_b (by simp)) (Below.refl _ _) (fun _ => rfl)
    (fun pre W => (∃ v, Boxed W w.heap.size 35 v ∧ W.ownsRow w.heap.size 44 6 v pre.length (kW.cells pre) ∧ True) ∧ Below w.heap.size w W)
    (fun _ _ _ => False)
    (OwnFrom.and (Own.from (holdsRow_own w.heap.size w.heap.size 35 44 6 (fun pre => pre.length) (fun pre => kW.cells pre) (fun _ _ => True)) _) (ownFrom_below (Nat.le_refl _) (by simp)))
    (fun _ _ _ _ _ hs _ _ => hs)
    ⟨⟨_, bO, World.ownsRow_nil _ _ _ _, trivial⟩, hB0⟩
    (fun x a' W => ∃ Bx, w.heap.size < Bx ∧ W.heap[Bx]? = some (.cells #[.int .i64 x.k.kind, .int .i64 x.k.a, .int .i64 x.k.b, .string x.k.s, .string x.val, .bool x.has] 44) ∧ a' = { tmps := #[.slice none 0 0, .func (.func 92) #[] #[.pointer (some ⟨Bs, 0, none⟩)], .pointer (some ⟨w.heap.size, 0, none⟩), undef, .slice none 0 0, .pointer (some ⟨Bx, 0, none⟩), .func (.func 92) #[] #[.pointer (some ⟨Bs, 0, none⟩)], x.agg, undef, undef, undef, undef, undef], defers := [] })
    (fun x a' _ X Y row hs hg hr => by
      obtain ⟨Bx, q1, q2, q3⟩ := hs
      refine ⟨Bx, q1, (hg.block Bx (Array.getElem?_eq_some_iff.1 q2).1 (fun e => ?_)).trans q2, q3⟩
      obtain ⟨_, o, ho, hc⟩ := hr Bx e.symm
      rw [q2] at ho; cases ho; cases hc)
    ?assign ?body ?done ?stop
  case assign =>
    rintro l pre x W K ⟨⟨v, hv, hrow, _⟩, hB⟩ hK
    unfold Wr.agg
    gi_wp2
    exact hK _ _ ((KeepsOthers.alloc _ _).from _) ((Below.refl _ W).alloc hB.size _) ⟨⟨v, hv.alloc _, hrow.alloc _, trivial⟩, hB.alloc hB.size _⟩ ⟨W.heap.size, hv.lt, heap_new W _, rfl⟩
  case body =>
    rintro l pre x a' W hl ⟨r, hr⟩ ⟨⟨v, hv, hrow, _⟩, hB⟩ ⟨Bx, hBx, hX, rfl⟩ hlt
    have hc := hv.cell
    have x0 := cell_of_blk hX 0
    have x1 := cell_of_blk hX 1
    have x2 := cell_of_blk hX 2
    have x3 := cell_of_blk hX 3
    have x4 := cell_of_blk hX 4
    have x5 := cell_of_blk hX 5
    simp at x0 x1 x2 x3 x4 x5
    have hml : ∀ u ∈ Wr.cells x, u.oneCell' = true := kW.one x
    gi_wp2_with (gi_at_builtin; refine wpListIn_append_own _ rfl _ _ 35 rfl w.heap.size 44 i0 (.agg #[.int .i64 0, .int .i64 0, .int .i64 0, .string ⟨#[]⟩, .string ⟨#[]⟩, .bool false]) 6 64 Tryz.underlying35 hi hz0 hz1 hz2 rfl (by decide) _ _ _ rfl (hrow.alloc _) ⟨W.heap.size, 0, none⟩ 1 1 (Wr.cells x) rfl rfl (cell_six_new _ _ _ _ _ _ _ _) hml (by unfold maxLen; omega) (by omega) (by have := hB.size; simp; omega) ?_; intro v' w1 hown' hgrow _; obtain ⟨g', cap', rfl⟩ := ownsRow_succ hown'; obtain ⟨hv1, hv2, hr2, hk2, hb2⟩ := hv.appended (by decide) hrow hB.size (Nat.le_refl _) hown' hgrow; have hc1 := hv1.cell; have hf1 := hv1.frozen)
    have ec : kW.cells (pre ++ [x]) = kW.cells pre ++ Wr.cells x := (RowK.cells_append kW pre [x]).trans (congrArg (kW.cells pre ++ ·) (List.append_nil (Wr.cells x)))
    exact ⟨hk2.from _, hb2, ⟨_, hv2, by rw [ec, List.length_append]; exact hr2, trivial⟩, hB.trans hb2⟩
  case done =>
    rintro D ys W hD rfl ⟨⟨v, hv, hrow, _⟩, hB⟩ hK
    have hc := hv.cell
    gi_wp2
    refine ⟨by simp, .inl ⟨_, _, rfl, run_takeDeferred hK, ?_⟩⟩
    exact ⟨_, results_tmp rfl _ _ _, v, rfl, ownsRow_putObj hrow _ hK rfl, hB.trans (belowK_b (w := w) (Nat.le_refl _) W D _ _ (by simp at hD; omega) hK rfl rfl)⟩
  case stop =>
    rintro D c pre W _ _ h _
    exact h.elim
set_option maxHeartbeats 1000000 in
theorem colWV_in (F : Fence) (n : Nat) (h0 : F.fn 90) (h1 : F.fn 120) (h2 : F.fn 92) (hro : F.round = none) (hn : 4 ≤ n) (Bs : Nat) (a : Option Addr) (cap : Nat) (zs : List Wr) (hlen : zs.length ≤ 1000000) (w : World) (hBs : Bs < w.heap.size)
    (hc : w.cell? ⟨Bs, 0, none⟩ = some (.slice a zs.length cap)) (hz : kW.V w a zs) :
    CallsIn F n Tryz.prog 90 #[.func (.func 92) #[] #[.pointer (some ⟨Bs, 0, none⟩)]] w fun e W' => ∃ v, e = .returned v ∧ kW.Own W' w.heap.size v zs ∧ Below w.heap.size w W' := by
  have hn1 : 1 ≤ n := by omega
  refine callsIn_of_wp Tryz.func90 rfl h0 ?_ hro
  simp only [Tryz.ntmps90, List.size_toArray, List.length_cons, List.length_nil, Nat.reduceAdd, Nat.reduceSub, Array.replicate_succ, Array.replicate_zero, List.push_toArray, List.append_toArray, List.nil_append, List.cons_append]
  gi_wp2_with (gi_at_call 120; refine (appWV_in F (n - 1) h1 h2 hro (by omega) Bs a cap zs hlen _ hBs hc hz).mono ?_; rintro e w' ⟨v, rfl, ho, hb⟩)
  go_ret
  exact ⟨v, rfl, ho, hb⟩
/-- slices.Collect of slices.Values of writes -/
theorem colWV_any (Bs : Nat) (a : Option Addr) (cap : Nat) (zs : List Wr) (hlen : zs.length ≤ 1000000) (w : World) (hBs : Bs < w.heap.size) (hc : w.cell? ⟨Bs, 0, none⟩ = some (.slice a zs.length cap)) (hz : kW.V w a zs) :
    Calls Tryz.prog 90 #[.func (.func 92) #[] #[.pointer (some ⟨Bs, 0, none⟩)]] w fun e W' => ∃ v, e = .returned v ∧ kW.Own W' w.heap.size v zs ∧ Below w.heap.size w W' :=
  (callsIn_wide (n := 4)).1 (colWV_in _ 4 trivial trivial trivial rfl (by omega) Bs a cap zs hlen w hBs hc hz)
theorem svalW_any (a : Option Addr) (len cap : Nat) (w : World) :
    Calls Tryz.prog 52 #[.slice a len cap] w fun e w' => e = .returned (.func (.func 92) #[] #[.pointer (some ⟨w.heap.size, 0, none⟩)]) ∧ w' = w.alloc (.cells #[.slice a len cap] 35) :=
  (callsIn_wide (n := 4)).1 (wval_in _ 4 trivial rfl a len cap w)
end Go.Proofs.YtkbmipmegljidaaGreat
namespace Go.Proofs.YtkbmipmegljidaaGreat
open Go.RowKit Go.Maps

/-- writes as a function hands them back, in a row of its own -/
def WsN (w : World) (B : Nat) (v : Value) (l : List Wr) : Prop :=
  (v = .slice none 0 0 ∧ l = []) ∨ ∃ g cap, v = .slice (some ⟨g, 0, none⟩) l.length cap ∧ B ≤ g ∧ l.length ≤ cap ∧ WAt w g 0 l.length l (fun i => i)
theorem WsN.of_own {w : World} {B : Nat} {v : Value} {l : List Wr} (h : kW.Own w B v l) : WsN w B v l := by
  rcases h.2 with ⟨h1, h2⟩ | ⟨g, cap, cur, h1, h2, h3, h4, h5, h6, h7⟩
  · exact .inl ⟨h1, List.eq_nil_of_length_eq_zero h2⟩
  · refine .inr ⟨g, cap, h1, h2, h4, fun i hi => hi, cur, h3, fun i hi j u hu => ?_⟩
    have hx : l[i]? = some l[i]! := by rw [List.getElem?_eq_getElem hi]; simp [hi]
    have := kW.cells_at hx hu
    have hlt : i * 6 + j < l.length * kW.size := by
      have hj := Wr.cells_lt hu
      show i * 6 + j < l.length * 6
      omega
    have h8 : (cur.toList.take (l.length * kW.size))[i * 6 + j]? = some u := by
      rw [show cur.toList.take (l.length * kW.size) = kW.cells l from h7]; exact this
    rw [List.getElem?_take, if_pos hlt, Array.getElem?_toList] at h8
    rw [Nat.zero_add]
    exact h8
theorem WsN.mono {w : World} {B B' : Nat} {v : Value} {l : List Wr} (h : WsN w B v l) (hB : B' ≤ B) : WsN w B' v l := by
  rcases h with h | ⟨g, cap, h1, h2, h3, h4⟩
  · exact .inl h
  · exact .inr ⟨g, cap, h1, Nat.le_trans hB h2, h3, h4⟩
theorem WsN.below {w w' : World} {B : Nat} {v : Value} {l : List Wr} (h : WsN w B v l) (hb : Below w.heap.size w w') : WsN w' B v l := by
  rcases h with h | ⟨g, cap, h1, h2, h3, h4⟩
  · exact .inl h
  · exact .inr ⟨g, cap, h1, h2, h3, h4.below hb⟩
theorem WAt.row {w : World} {b off : Nat} {l : List Wr} (h : WAt w b off l.length l (fun i => i)) : kW.At w b off l :=
  ⟨fun i x hx j u hu => by
    obtain ⟨hi, rfl⟩ := List.getElem?_eq_some_iff.1 hx
    have e : l[i]! = l[i] := by simp [hi]
    exact h.cellj hi j u (by rw [e]; exact hu), h.lt⟩
theorem WsN.shape {w : World} {B : Nat} {v : Value} {l : List Wr} (h : WsN w B v l) : ∃ a cap, v = .slice a l.length cap ∧ kW.V w a l ∧ (a = none → cap = 0) := by
  rcases h with ⟨h1, h2⟩ | ⟨g, cap, h1, h2, h3, h4⟩
  · subst h2; exact ⟨none, 0, h1, fun hn => absurd rfl hn, fun _ => rfl⟩
  · exact ⟨_, cap, h1, fun _ => ⟨g, 0, rfl, h4.row⟩, fun e => by cases e⟩
theorem wat_list {w : World} {b off n : Nat} {L : List Wr} {t : Nat → Nat} (h : WAt w b off n L t) {l : List Wr} (hl : l = (List.range n).map (fun i => L[t i]!)) : WAt w b off n l (fun i => i) := by
  obtain ⟨_, cs, h1, h2⟩ := h
  refine ⟨fun i hi => hi, cs, h1, fun i hi j u hu => ?_⟩
  have e : l[i]! = L[t i]! := by rw [hl]; simp [hi]
  exact h2 i hi j u (by rw [← e]; exact hu)
/-- no write at all -/
theorem insW_nil (g : Value) (w : World) : Calls Tryz.prog 156 #[.slice none 0 0, .int .i64 0, .int .i64 0, g] w (fun e w' => e = .returned (.tuple #[]) ∧ w = w') := by
  go_enter Tryz.func156, Tryz.ntmps156
  go_wp2_with fail
  go_loopw [8] (fun i wr => i = .int .i64 1 ∧ w = wr) (fun _ _ => 0)
  case atStart => exact ⟨rfl, rfl⟩
  case round =>
    obtain ⟨rfl, rfl⟩ := hrel
    go_wp2_with fail
    go_end0
    exact ⟨rfl, rfl⟩
set_option maxRecDepth 10000 in
theorem staW_nil (g : Value) (w : World) : Calls Tryz.prog 121 #[.slice none 0 0, .int .i64 0, g] w (fun e w' => e = .returned (.tuple #[]) ∧ w = w') := by
  go_enter Tryz.func121, Tryz.ntmps121
  go_wp2_with fail
  go_loopw [7, 8] (fun i j wr => i = .int .i64 0 ∧ j = .int .i64 20 ∧ w = wr) (fun _ _ _ => 0)
  case atStart => exact ⟨rfl, rfl, rfl⟩
  case round =>
    obtain ⟨rfl, rfl, rfl⟩ := hrel
    go_wp2_with fail
    refine (insW_nil g _).mono ?_
    rintro e w1 ⟨rfl, rfl⟩
    go_wp2_with fail
    go_loopw [6, 7, 8, 9] (fun i _ _ _ wr => i = .int .i64 20 ∧ w = wr) (fun _ _ _ _ _ => 0)
    case atStart => exact ⟨rfl, rfl⟩
    case round =>
      obtain ⟨rfl, rfl⟩ := hrel
      go_wp2_with fail
      go_end0
      exact ⟨rfl, rfl⟩
theorem stabW_nil (g : Value) (w : World) : Calls Tryz.prog 91 #[.slice none 0 0, g] w (fun e w' => e = .returned (.tuple #[]) ∧ w = w') := by
  go_enter Tryz.func91, Tryz.ntmps91
  go_wp2_with fail
  refine (staW_nil g _).mono ?_
  rintro e w1 ⟨rfl, rfl⟩
  go_wp2_with fail
  go_end0
  exact ⟨rfl, rfl⟩
set_option maxRecDepth 100000 in
/-- how two writes are held against each other -/
theorem worder_any (x y : Wr) (w : World) : Calls Tryz.prog 53 #[x.agg, y.agg] w fun e w' => e = .returned (.int .i64 (x.k.cmp y.k)) ∧ Below w.heap.size w w' := by
  have hb : Below w.heap.size w ((w.alloc (.cells #[.int .i64 x.k.kind, .int .i64 x.k.a, .int .i64 x.k.b, .string x.k.s, .string x.val, .bool x.has] 44)).alloc (.cells #[.int .i64 y.k.kind, .int .i64 y.k.a, .int .i64 y.k.b, .string y.k.s, .string y.val, .bool y.has] 44)) := (below_box w _).alloc (by (try simp only [size_alloc]); omega) _
  have HB := Lib.hid hb
  clear hb
  unfold Wr.agg
  go_enter Tryz.func53, Tryz.ntmps53
  go_wp2_with fail
  refine (order_any x.k y.k _).mono ?_
  rintro e w1 ⟨rfl, hb1⟩
  have HB1 := Lib.hid (below_then HB.out hb1)
  clear hb1
  go_wp2_with fail
  go_ret
  exact ⟨rfl, HB1.out⟩
theorem worder_ok (b : Nat) (L : List Wr) (w : World) : CmpOkW 53 #[] b L.length L (fun i => rkW L L[i]!) w := fun u _ i j hi hj => by
  refine (worder_any (L[i]!) (L[j]!) u).mono ?_
  rintro e w' ⟨rfl, hb⟩
  exact ⟨_, rfl, (rkW_lt (by rw [getElem!_pos L i hi]; exact List.getElem_mem hi)).symm, hb⟩
/-- writes in a row of the call's own -/
def WSorted (w : World) (l : List Wr) (e : Ending) (w' : World) : Prop := ∃ v, e = .returned v ∧ WsN w' w.heap.size v l ∧ Below w.heap.size w w'
set_option maxHeartbeats 1000000 in
theorem sortedStW_any (Bs : Nat) (a : Option Addr) (cap : Nat) (zs : List Wr) (hlen : zs.length ≤ 1000000) (w : World) (hBs : Bs < w.heap.size) (hc : w.cell? ⟨Bs, 0, none⟩ = some (.slice a zs.length cap)) (hz : kW.V w a zs) :
    Calls Tryz.prog 51 #[.func (.func 92) #[] #[.pointer (some ⟨Bs, 0, none⟩)], .func (.func 53) #[] #[]] w (WSorted w (srtW zs)) := by
  have HZ := Lib.hid hz
  have HC := Lib.hid hc
  clear hz hc
  go_enter Tryz.func51, Tryz.ntmps51
  go_wp2_with fail
  refine (colWV_any Bs a cap zs hlen _ hBs HC.out HZ.out).mono ?_
  rintro e w1 ⟨v, rfl, ho, hb⟩
  have HB := Lib.hid hb
  have HO := Lib.hid (WsN.of_own ho)
  clear hb ho
  rcases HO.out with ⟨hv, hl⟩ | ⟨g, cp, hv, hg, hcp, hS⟩
  · subst hv
    have HL := Lib.hid hl
    clear hl
    go_wp2_with fail
    refine (stabW_nil _ _).mono ?_
    rintro e w2 ⟨rfl, rfl⟩
    go_wp2_with fail
    go_ret
    exact ⟨_, rfl, .inl ⟨rfl, by rw [HL.out]; rfl⟩, HB.out⟩
  · subst hv
    have HS := Lib.hid hS
    have HG := Lib.hid hg
    have HCP := Lib.hid hcp
    clear hS hg hcp
    go_wp2_with fail
    refine (stabW_any 53 #[] (fun i => rkW zs zs[i]!) (enters_of Tryz.func53 (by kernel_rfl) rfl) g 0 cp zs.length zs _ HS.out (worder_ok g zs _) hlen).mono ?_
    rintro e w2 ⟨rfl, t, q1, q2, q3, q4⟩
    have hb2 : Below w.heap.size w w2 := HB.out.trans (q2.below HB.out.size (fun i e => by subst e; exact HG.out))
    have HF : Hid (WsN w2 w.heap.size (.slice (some ⟨g, 0, none⟩) zs.length cp) (srtW zs) ∧ Below w.heap.size w w2) := Lib.hid ⟨.inr ⟨g, cp, by rw [srtW_len], HG.out, by rw [srtW_len]; exact HCP.out, by
      rw [srtW_len]
      exact wat_list q1 (Srt.srt_sortK (rkW zs) zs q4 q3).symm⟩, hb2⟩
    clear q1 q2 q3 q4 hb2
    go_wp2_with fail
    go_ret
    exact ⟨_, rfl, HF.out⟩
/-- what leaves none out -/
def WKeepPost (w : World) (v : Value) (e : Ending) (w' : World) : Prop := e = .returned v ∧ Below w.heap.size w w'
theorem wsorted1_any (x : Wr) (w : World) : Calls Tryz.prog 55 #[.agg #[.int .i64 x.k.kind, .int .i64 x.k.a, .int .i64 x.k.b, .string x.k.s, .string x.val, .bool x.has]] w fun e w' => e = .returned (.bool (!x.has)) ∧ Below w.heap.size w w' := by
  have hb := below_box w (.cells #[.int .i64 x.k.kind, .int .i64 x.k.a, .int .i64 x.k.b, .string x.k.s, .string x.val, .bool x.has] 44)
  have HB := Lib.hid hb
  clear hb
  go_enter Tryz.func55, Tryz.ntmps55
  go_wp2_with fail
  go_ret
  exact ⟨rfl, HB.out⟩
end Go.Proofs.YtkbmipmegljidaaGreat
namespace Go.Proofs.YtkbmipmegljidaaGreat
open Go.RowKit Go.Maps

theorem delW_keep (a : Option Addr) (cap : Nat) (l : List Wr) (w : World) (hv : kW.V w a l) (hl : l.length ≤ 1000000) (hh : ∀ x ∈ l, x.has = true) :
    Calls Tryz.prog 54 #[.slice a l.length cap, .func (.func 55) #[] #[]] w (WKeepPost w (.slice a l.length cap)) := by
  have hidx := idxWr_by 55 #[] (fun x => !x.has) a cap l w (enters_of Tryz.func55 (by kernel_rfl) rfl) hv hl (fun W x _ _ => wsorted1_any x W)
  have e : idxG (fun x : Wr => !x.has) l 0 = -1 := by
    rcases idxG_cases (fun x : Wr => !x.has) l 0 with ⟨h, _⟩ | ⟨k, x, _, hx, hp, _⟩
    · exact h
    · rw [hh x (List.mem_of_getElem? hx)] at hp; cases hp
  rw [e] at hidx
  have HIX := Lib.hid hidx
  clear hidx e hv hh
  go_enter Tryz.func54, Tryz.ntmps54
  go_wp2_with fail
  refine HIX.out.mono ?_
  rintro e w1 ⟨rfl, hb⟩
  have HB := Lib.hid hb
  clear hb
  go_wp2_with fail
  go_ret
  exact ⟨rfl, HB.out⟩
/-- no two that stand side by side, up to a place -/
def adjTo (l : List Wr) (k : Nat) : Prop := ∀ i x y, i + 1 < k → l[i]? = some x → l[i + 1]? = some y → x.k ≠ y.k
theorem adjTo_all {l : List Wr} (h : adjTo l l.length) : ¬ adjW l := by
  rintro ⟨i, x, y, hx, hy, e⟩
  exact h i x y (List.getElem?_eq_some_iff.1 hy).1 hx hy e
theorem adjTo_step {l : List Wr} {k : Nat} {x y : Wr} (h : adjTo l (k + 1)) (hx : l[k]? = some x) (hy : l[k + 1]? = some y) (hn : x.k.eqB y.k = false) : adjTo l (k + 2) := by
  intro i a b hi ha hb e
  by_cases hk : i = k
  · subst hk
    rw [hx] at ha; rw [hy] at hb
    cases ha; cases hb
    rw [(Ky.eqB_iff x.k y.k).2 e] at hn
    cases hn
  · exact h i a b (by omega) ha hb e
def SortedPost (w : World) (zs : List Wr) (e : Ending) (w' : World) : Prop :=
  Below w.heap.size w w' ∧ ((adjW (srtW zs) ∧ e = .returned (.tuple #[.slice none 0 0, .bool false])) ∨ (¬ adjW (srtW zs) ∧ ∃ v, e = .returned (.tuple #[v, .bool true]) ∧ WsN w' w.heap.size v (srtW zs)))
set_option maxRecDepth 100000 in
set_option maxHeartbeats 4000000 in
theorem wsorted_any (a : Option Addr) (cap : Nat) (zs : List Wr) (w : World) (hv : kW.V w a zs) (hl : zs.length ≤ 100000) (hh : ∀ x ∈ zs, x.has = true) :
    Calls Tryz.prog 22 #[.slice a zs.length cap] w (SortedPost w zs) := by
  have HZ := Lib.hid hv
  have HH := Lib.hid (show ∀ x ∈ srtW zs, x.has = true from fun x hx => hh x ((srtW_perm zs).mem_iff.1 hx))
  clear hv hh
  go_enter Tryz.func22, Tryz.ntmps22
  go_wp2_with fail
  refine (svalW_any a zs.length cap _).mono ?_
  rintro e w1 ⟨rfl, hw1⟩
  have hb : Below w.heap.size w w1 := by rw [hw1]; exact below_box w _
  have hsz : w.heap.size < w1.heap.size := by rw [hw1]; simp
  have hcell : w1.cell? ⟨w.heap.size, 0, none⟩ = some (.slice a zs.length cap) := by rw [hw1]; exact cell_of_blk (heap_new w _) 0
  have HB := Lib.hid hb
  have HC := Lib.hid hcell
  have HSZ := Lib.hid hsz
  clear hb hcell hw1 hsz
  go_wp2_with fail
  refine (sortedStW_any w.heap.size a cap zs (by omega) _ HSZ.out HC.out (HZ.out.below HB.out)).mono ?_
  rintro e w2 ⟨v, rfl, q1, q3⟩
  obtain ⟨n, hn⟩ : ∃ n, n = (srtW zs).length := ⟨_, rfl⟩
  have hnl : n ≤ 100000 := by rw [hn, srtW_len]; exact hl
  obtain ⟨a2, c2, rfl, hV, hnc⟩ := q1.shape
  have HW := Lib.hid (q1.mono HB.out.size)
  have HB2 := Lib.hid (below_then HB.out q3)
  have HV := Lib.hid hV
  have HL := Lib.hid hn
  obtain ⟨L, hL⟩ : ∃ L, L = srtW zs := ⟨_, rfl⟩
  rw [← hL] at HW HV HL HH
  have HE := Lib.hid hL
  rw [← hL, ← HL.out] 
  clear q1 q3 hV hnc hn HZ HC hL hl HB HSZ
  go_wp2_with fail
  go_loopw [11] (fun i wr => ∃ k : Nat, k ≤ n ∧ i = .int .i64 k ∧ Hid (adjTo L k ∧ Below w2.heap.size w2 wr)) (fun i _ => n - (intOf i).toNat)
  case atStart => exact ⟨0, by omega, rfl, Lib.hid ⟨fun i x y h => by omega, Below.refl _ _⟩⟩
  case round =>
    obtain ⟨k, hk, rfl, HA⟩ := hrel
    by_cases hlt : k < n
    · cases k with
      | zero =>
        go_wp2_with fail
        go_quiet (fail)
        go_wp2_with fail
        exact ⟨⟨1, by omega, rfl, Lib.hid ⟨fun i x y h => by omega, below_drewN' HA.out.2 _⟩⟩, by simp [intOf]; omega⟩
      | succ k =>
        obtain ⟨x, hx⟩ : ∃ x, L[k]? = some x := ⟨_, List.getElem?_eq_getElem (by rw [← HL.out]; omega)⟩
        obtain ⟨y, hy⟩ : ∃ y, L[k + 1]? = some y := ⟨_, List.getElem?_eq_getElem (by rw [← HL.out]; omega)⟩
        obtain ⟨b, off, rfl, hat⟩ := (HV.out.below HA.out.2) (fun e => by rw [e] at hx; simp at hx)
        obtain ⟨c0, c1, c2, c3, _, _⟩ := kW_cells hat hx
        obtain ⟨d0, d1, d2, d3, _, _⟩ := kW_cells hat hy
        have w1 : IntKind.i64.wrap (((k + 1 : Nat) : Int) - 1) = (k : Int) := by rw [IntKind.wrap_i64]; omega
        have z1 : ((k + 1 : Nat) : Int) < (n : Int) := by omega
        have z0 : (k : Int) < (n : Int) := by omega
        have t1 : decide ((0 : Int) < ((k + 1 : Nat) : Int)) = true := decide_eq_true (by omega)
        have hE := eqKy x.k y.k
        obtain ⟨q, hq⟩ : ∃ q, x.k.eqB y.k = q := ⟨_, rfl⟩
        rw [hq] at hE
        have HQ := Lib.hid hq
        have HX := Lib.hid (And.intro hx hy)
        clear hx hy hat hq
        cases q
        · go_wp2_with fail
          go_quiet (fail)
          go_wp2_with fail
          exact ⟨⟨k + 2, by omega, by go_num, Lib.hid ⟨adjTo_step HA.out.1 HX.out.1 HX.out.2 HQ.out, below_drewN' HA.out.2 _⟩⟩, by simp [intOf]; omega⟩
        · go_wp2_with fail
          go_quiet (fail)
          go_wp2_with fail
          go_ret2
          refine ⟨HB2.out.trans ((below_drewN' HA.out.2 _).mono HB2.out.size), .inl ⟨?_, rfl⟩⟩
          rw [← HE.out]
          exact ⟨k, x, y, HX.out.1, HX.out.2, (Ky.eqB_iff _ _).1 HQ.out⟩
    · obtain rfl : k = n := by omega
      have HN : Hid (¬ adjW (srtW zs)) := Lib.hid (by
        rw [← HE.out]
        exact adjTo_all (by rw [← HL.out]; exact HA.out.1))
      have hD := delW_keep a2 c2 L wr (HV.out.below HA.out.2) (by rw [← HL.out]; omega) HH.out
      rw [← HL.out] at hD
      have HD := Lib.hid hD
      clear hD hlt
      go_wp2_with fail
      refine HD.out.mono ?_
      rintro e w3 ⟨rfl, hb⟩
      have HF : Hid (Below w.heap.size w w3 ∧ WsN w3 w.heap.size (.slice a2 k c2) L) := Lib.hid ⟨HB2.out.trans ((below_then HA.out.2 hb).mono HB2.out.size), by
        have := HW.out.below (below_then HA.out.2 hb)
        rw [HL.out]; exact this⟩
      clear hb
      go_wp2_with fail
      go_ret2
      refine ⟨HF.out.1, .inr ⟨HN.out, _, rfl, ?_⟩⟩
      rw [← HE.out]
      exact HF.out.2
theorem wplain_any (n m : Int) (w : World) : Calls Tryz.prog 56 #[.agg #[.int .i64 n, .int .i64 m, .int .i64 0, .string ⟨#[]⟩]] w fun e w' => e = .returned (.bool true) ∧ Below w.heap.size w w' := by
  have hb := below_box w (.cells #[.int .i64 n, .int .i64 m, .int .i64 0, .string ⟨#[]⟩] 41)
  have HB := Lib.hid hb
  clear hb
  go_enter Tryz.func56, Tryz.ntmps56
  go_wp2_with fail
  go_ret
  exact ⟨rfl, HB.out⟩
end Go.Proofs.YtkbmipmegljidaaGreat
