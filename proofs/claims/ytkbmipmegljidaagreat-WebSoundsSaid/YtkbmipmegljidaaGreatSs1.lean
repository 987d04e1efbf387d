/- slices.Values, AppendSeq, Collect at texts. Conditions: each contract's own premises. (Printed by gen_ss1.py.) -/
import Derived.RangeFuncBox
import Derived.RangeFuncLeaves
import Derived.RangeFuncNested
import Derived.Shelf.Abstract
import Derived.WalkKit
import Derived.OwnWalkIn
import Derived.TacticsInMore
import Derived.LoopNIn
import Derived.LoopIn
import Derived.Maps.AppendAt
import Derived.Sort.EncStr
import Derived.Test.YtkbmipmegljidaaGreatGr6
namespace Go.Proofs.YtkbmipmegljidaaGreat
open Go.RowKit Go.Maps

attribute [local go_sem] Oper.semAt_some

theorem infoT : (Tryz.prog.info? 9).map (fun i => (i.zero, i.size, i.bytes)) = some (some (.string ByteArray.empty), 1, 16) := by kernel_rfl
/-- texts, as elements -/
def kT : RowK Tryz.prog (List UInt8) where
  t := 88
  e := 9
  size := 1
  bytes := 16
  z := .string ByteArray.empty
  enc := fun x => [encStr x]
  ht := Tryz.underlying88
  info := infoT
  hz := rfl
  pos := by decide
  small := by decide
  len := fun _ => rfl
  one := fun x u hu => by
    simp at hu
    subst hu
    rfl
theorem kT_cells (l : List (List UInt8)) : kT.cells l = l.map encStr := by
  induction l with
  | nil => rfl
  | cons x l ih =>
    show encStr x :: kT.cells l = _
    rw [ih]; rfl
theorem cellT_new (w : World) (x : Value) (t : TypeId) : ∀ j u, [x][j]? = some u → (w.alloc (.cells #[x] t)).cell? ((⟨w.heap.size, 0, none⟩ : Addr).add j) = some u := by
  intro j u hj
  have hn := heap_new w (.cells #[x] t)
  match j, hj with
  | 0, hj => injection hj with hj; subst hj; exact cell_of_blk hn 0
set_option maxRecDepth 100000 in
set_option maxHeartbeats 2000000 in
/-- the closure of slices.Values, whatever the rounds do that keep what lay below n0 -/
theorem tval1_in (F : Fence) (n : Nat) (hf : F.fn 81) (hro : F.round = none) (hn : 1 ≤ n) (l Bs n0 b off cap : Nat) (zs : List (List UInt8)) (hlen : zs.length ≤ 1000000) (hb : b < n0) (J Jx : List (List UInt8) → World → Prop) (W : World)
    (hY : ∀ pre x W1, J pre W1 → pre.length < zs.length → YieldAt F (n - 1) Tryz.prog l #[encStr x] W1 fun e W' =>
      (e = .returned (.bool true) ∧ J (pre ++ [x]) W' ∧ Below n0 W1 W') ∨ (e = .returned (.bool false) ∧ Jx (pre ++ [x]) W'))
    (hBs : W.cell? ⟨Bs, 0, none⟩ = some (.slice (some ⟨b, off, none⟩) zs.length cap)) (hc : kT.At W b off zs) (hn0 : n0 ≤ W.heap.size) (h0 : J [] W) :
    CallsIn F n Tryz.prog 81 #[.func (.yield l) #[] #[], .pointer (some ⟨Bs, 0, none⟩)] W fun e W' => (∃ v, e = .returned v) ∧ (J zs W' ∨ (∃ k, k ≤ zs.length ∧ Jx (zs.take k) W')) := by
  refine callsIn_of_wp Tryz.func81 rfl hf ?_ hro
  simp only [Tryz.ntmps81, List.size_toArray, List.length_cons, List.length_nil, Nat.reduceAdd, Nat.reduceSub, Array.replicate_succ, Array.replicate_zero, List.push_toArray, List.append_toArray, List.nil_append, List.cons_append]
  gi_wp2
  gi_loopw [7] (fun i wr => ∃ k : Nat, k ≤ zs.length ∧ i = .int .i64 k ∧ J (zs.take k) wr ∧ Below n0 W wr ∧ n0 ≤ wr.heap.size) (fun i _ => zs.length - (intOf i).toNat)
  case atStart => exact ⟨0, Nat.zero_le _, rfl, h0, Below.refl _ _, hn0⟩
  case round =>
    obtain ⟨k, hk, rfl, hJs, hnx, hsz⟩ := hrel
    by_cases hlt : k < zs.length
    · obtain ⟨x, hx⟩ : ∃ x, zs[k]? = some x := ⟨_, List.getElem?_eq_getElem hlt⟩
      have q1 := hc.cells k x hx 0 _ rfl
      simp [kT] at q1
      have c1 : wr.cell? ⟨b, off + k, none⟩ = some (encStr x) := (hnx.cell (p := ⟨b, off + k, none⟩) hb).trans q1
      have hT : zs.take (k + 1) = zs.take k ++ [x] := by
        obtain ⟨hk2, rfl⟩ := List.getElem?_eq_some_iff.1 hx
        exact (List.take_append_getElem hk2).symm
      obtain ⟨fn, tmps, assign, body, hy, hR⟩ := hY _ x _ hJs (by simp; omega)
      rw [← hT] at hR
      gi_wp2
      refine hR.mono ?_
      rintro e W3 (⟨rfl, hJ3, hk3⟩ | ⟨rfl, hJx3⟩)
      · gi_wp2
        go_roundw
        case rel => exact ⟨k + 1, by omega, by simp, hJ3, hnx.trans hk3, Nat.le_trans hsz hk3.size⟩
        case measure => simp [intOf]; omega
      · gi_wp2
        refine bodyPost_ret (results_none rfl _ _ _) rfl ?_
        exact ⟨⟨_, rfl⟩, .inr ⟨k + 1, by omega, hJx3⟩⟩
    · obtain rfl : k = zs.length := by omega
      rw [List.take_length] at hJs
      gi_wp2
      go_end0
      exact ⟨⟨_, rfl⟩, .inl hJs⟩
set_option maxRecDepth 100000 in
set_option maxHeartbeats 1000000 in
/-- .. at none at all: no round -/
theorem tval1_nil_in (F : Fence) (n : Nat) (hf : F.fn 81) (hro : F.round = none) (l Bs : Nat) (a : Option Addr) (cap : Nat) (J : List (List UInt8) → World → Prop) (W : World) (hBs : W.cell? ⟨Bs, 0, none⟩ = some (.slice a 0 cap)) (h0 : J [] W) :
    CallsIn F n Tryz.prog 81 #[.func (.yield l) #[] #[], .pointer (some ⟨Bs, 0, none⟩)] W fun e W' => (∃ v, e = .returned v) ∧ J [] W' := by
  refine callsIn_of_wp Tryz.func81 rfl hf ?_ hro
  simp only [Tryz.ntmps81, List.size_toArray, List.length_cons, List.length_nil, Nat.reduceAdd, Nat.reduceSub, Array.replicate_succ, Array.replicate_zero, List.push_toArray, List.append_toArray, List.nil_append, List.cons_append]
  gi_wp2
  gi_loopw [7] (fun i wr => i = .int .i64 0 ∧ J [] wr) (fun _ _ => 0)
  case atStart => exact ⟨rfl, h0⟩
  case round =>
    obtain ⟨rfl, hJs⟩ := hrel
    gi_wp2
    go_end0
    exact ⟨⟨_, rfl⟩, hJs⟩
set_option maxHeartbeats 1000000 in
/-- slices.Values -/
theorem tval_in (F : Fence) (n : Nat) (hf : F.fn 39) (hro : F.round = none) (a : Option Addr) (len cap : Nat) (w : World) :
    CallsIn F n Tryz.prog 39 #[.slice a len cap] w fun e w' => e = .returned (.func (.func 81) #[] #[.pointer (some ⟨w.heap.size, 0, none⟩)]) ∧ w' = w.alloc (.cells #[.slice a len cap] 88) := by
  refine callsIn_of_wp Tryz.func39 rfl hf ?_ hro
  simp only [Tryz.ntmps39, List.size_toArray, List.length_cons, List.length_nil, Nat.reduceAdd, Nat.reduceSub, Array.replicate_succ, Array.replicate_zero, List.push_toArray, List.append_toArray, List.nil_append, List.cons_append]
  gi_wp2
  go_ret
  exact ⟨rfl, rfl⟩
/-- what slices.Values hands back gives all, in order -/
theorem tval_stops (F : Fence) (n : Nat) (hf : F.fn 81) (hro : F.round = none) (hn : 1 ≤ n) (Bs n0 : Nat) (a : Option Addr) (cap : Nat) (zs : List (List UInt8)) (hlen : zs.length ≤ 1000000) (w : World) (hBs : Bs < w.heap.size) (hn0 : n0 ≤ w.heap.size)
    (hc : w.cell? ⟨Bs, 0, none⟩ = some (.slice a zs.length cap)) (hz : zs ≠ [] → ∃ b off, a = some ⟨b, off, none⟩ ∧ b < n0 ∧ kT.At w b off zs) :
    SeqStopsK F n Tryz.prog 81 #[.pointer (some ⟨Bs, 0, none⟩)] (fun x : List UInt8 => #[encStr x]) (Below n0) (fun ys => ys = zs) (fun pre => pre <+: zs) zs.length w := fun l J Jx W hW hJ _ hY h0 => by
  have hc' := (hW.cell (p := ⟨Bs, 0, none⟩) hBs).trans hc
  by_cases hne : zs = []
  · subst hne
    exact (tval1_nil_in F n hf hro l Bs a cap J W hc' h0).mono fun e W' ⟨he, hj⟩ => ⟨he, .inl ⟨_, rfl, hj⟩⟩
  · obtain ⟨b, off, rfl, hb, hat⟩ := hz hne
    refine (tval1_in F n hf hro hn l Bs n0 b off cap zs hlen hb J Jx W hY hc' (hat.below hW) (Nat.le_trans hn0 hW.size) h0).mono ?_
    rintro e W' ⟨he, hj | ⟨k, _, hj⟩⟩
    · exact ⟨he, .inl ⟨_, rfl, hj⟩⟩
    · exact ⟨he, .inr ⟨_, List.take_prefix _ _, hj⟩⟩
set_option maxRecDepth 100000 in
set_option maxHeartbeats 2000000 in
/-- slices.AppendSeq(nil, seq), whatever seq gives -/
theorem appTB_in (F : Fence) (n : Nat) (h1 : F.fn 101) (hro : F.round = none) (hn : 3 ≤ n) (gf : Nat) (lb : Array Value) (h2 : F.fn gf) (eg : ∀ args w, (callFunc gf args).run Tryz.prog w = .ok (.enter gf args) w) (S Sp : List (List UInt8) → Prop) (N : Nat) (hN : N ≤ 1000000) (w : World)
    (hseq : SeqStopsK F (n - 1) Tryz.prog gf lb (fun x : List UInt8 => #[encStr x]) (Below w.heap.size) S Sp N (w.alloc (.cells #[.slice none 0 0] 88))) :
    CallsIn F n Tryz.prog 101 #[.slice none 0 0, .func (.func gf) #[] lb] w fun e W' => ∃ v ks, e = .returned v ∧ S ks ∧ kT.Own W' w.heap.size v ks ∧ Below w.heap.size w W' := by
  have hn1 : 1 ≤ n := by omega
  obtain ⟨i0, hi, hz0, hz1, hz2⟩ := info_parts infoT
  refine callsIn_of_wp_marks Tryz.func101 rfl h1 ?_ hro
  simp only [Tryz.ntmps101, List.size_toArray, List.length_cons, List.length_nil, Nat.reduceAdd, Nat.reduceSub, Array.replicate_succ, Array.replicate_zero, List.push_toArray, List.append_toArray, List.nil_append, List.cons_append]
  gi_wp2
  have bO := Boxed.new w 88 (.slice none 0 0)
  have hB0 : Below w.heap.size w (w.alloc (.cells #[.slice none 0 0] 88)) := below_box w _
  refine wpIn_rangeFunc_ownH hro hn1 (gf := gf) (lb := lb) rfl h2 eg
    hseq belowK_t (belowK_b (by simp)) (Below.refl _ _) (fun _ => rfl)
    (fun pre W => (∃ v, Boxed W w.heap.size 88 v ∧ W.ownsRow w.heap.size 9 1 v pre.length (kT.cells pre) ∧ True) ∧ Below w.heap.size w W)
    (fun _ _ _ => False)
    (OwnFrom.and (Own.from (holdsRow_own w.heap.size w.heap.size 88 9 1 (fun pre => pre.length) (fun pre => kT.cells pre) (fun _ _ => True)) _) (ownFrom_below (Nat.le_refl _) (by simp)))
    (fun _ _ _ _ _ hs _ _ => hs)
    ⟨⟨_, bO, World.ownsRow_nil _ _ _ _, trivial⟩, hB0⟩
    (fun x a' _ => a' = { tmps := #[.slice none 0 0, .func (.func gf) #[] lb, .pointer (some ⟨w.heap.size, 0, none⟩), undef, .slice none 0 0, encStr x, .func (.func gf) #[] lb, encStr x, undef, undef, undef, undef, undef], defers := [] })
    (fun x a' _ X Y row hs hg hr => hs)
    ?assign ?body ?done ?stop
  case assign =>
    rintro l pre x W K ⟨⟨v, hv, hrow, _⟩, hB⟩ hK
    gi_wp2
    exact hK _ _ ((KeepsOthers.refl _).from _) (Below.refl _ _) ⟨⟨v, hv, hrow, trivial⟩, hB⟩ rfl
  case body =>
    rintro l pre x a' W hl ⟨r, hr⟩ ⟨⟨v, hv, hrow, _⟩, hB⟩ rfl hlt
    have hc := hv.cell
    have hml : ∀ u ∈ kT.enc x, u.oneCell' = true := kT.one x
    gi_wp2_with (gi_at_builtin; refine wpListIn_append_own _ rfl _ _ 88 rfl w.heap.size 9 i0 (.string ByteArray.empty) 1 16 Tryz.underlying88 hi hz0 hz1 hz2 rfl (by decide) _ _ _ rfl (hrow.alloc _) ⟨W.heap.size, 0, none⟩ 1 1 (kT.enc x) rfl rfl (cellT_new _ _ _) hml (by unfold maxLen; omega) (by omega) (by have := hB.size; simp; omega) ?_; intro v' w1 hown' hgrow _; obtain ⟨g', cap', rfl⟩ := ownsRow_succ hown'; obtain ⟨hv1, hv2, hr2, hk2, hb2⟩ := hv.appended (by decide) hrow hB.size (Nat.le_refl _) hown' hgrow; have hc1 := hv1.cell; have hf1 := hv1.frozen)
    have ec : kT.cells (pre ++ [x]) = kT.cells pre ++ kT.enc x := (RowK.cells_append kT pre [x]).trans (congrArg (kT.cells pre ++ ·) (List.append_nil (kT.enc x)))
    exact ⟨hk2.from _, hb2, ⟨_, hv2, by rw [ec, List.length_append]; exact hr2, trivial⟩, hB.trans hb2⟩
  case done =>
    rintro D ys W hD hS ⟨⟨v, hv, hrow, _⟩, hB⟩ hK
    have hc := hv.cell
    gi_wp2
    refine ⟨by simp, .inl ⟨_, _, rfl, run_takeDeferred hK, ?_⟩⟩
    exact ⟨_, results_tmp rfl _ _ _, v, ys, rfl, hS, ownsRow_putObj hrow _ hK rfl, hB.trans (belowK_b (w := w) (Nat.le_refl _) W D _ _ (by simp at hD; omega) hK rfl rfl)⟩
  case stop =>
    rintro D c pre W _ _ h _
    exact h.elim
set_option maxHeartbeats 1000000 in
theorem colTB_in (F : Fence) (n : Nat) (h0 : F.fn 73) (h1 : F.fn 101) (hro : F.round = none) (hn : 4 ≤ n) (gf : Nat) (lb : Array Value) (h2 : F.fn gf) (eg : ∀ args w, (callFunc gf args).run Tryz.prog w = .ok (.enter gf args) w) (S Sp : List (List UInt8) → Prop) (N : Nat) (hN : N ≤ 1000000) (w : World)
    (hseq : SeqStopsK F (n - 1 - 1) Tryz.prog gf lb (fun x : List UInt8 => #[encStr x]) (Below w.heap.size) S Sp N (w.alloc (.cells #[.slice none 0 0] 88))) :
    CallsIn F n Tryz.prog 73 #[.func (.func gf) #[] lb] w fun e W' => ∃ v ks, e = .returned v ∧ S ks ∧ kT.Own W' w.heap.size v ks ∧ Below w.heap.size w W' := by
  have hn1 : 1 ≤ n := by omega
  refine callsIn_of_wp Tryz.func73 rfl h0 ?_ hro
  simp only [Tryz.ntmps73, List.size_toArray, List.length_cons, List.length_nil, Nat.reduceAdd, Nat.reduceSub, Array.replicate_succ, Array.replicate_zero, List.push_toArray, List.append_toArray, List.nil_append, List.cons_append]
  gi_wp2_with (gi_at_call 101; refine (appTB_in F (n - 1) h1 hro (by omega) gf lb h2 eg S Sp N hN _ hseq).mono ?_; rintro e w' ⟨v, ks, rfl, hs, ho, hb⟩)
  go_ret
  exact ⟨v, ks, rfl, hs, ho, hb⟩
/-- slices.Collect(slices.Values(l)) -/
theorem tcol_any (Bs : Nat) (a : Option Addr) (cap : Nat) (zs : List (List UInt8)) (hlen : zs.length ≤ 1000000) (w : World) (hBs : Bs < w.heap.size) (hc : w.cell? ⟨Bs, 0, none⟩ = some (.slice a zs.length cap)) (hz : kT.V w a zs) :
    Calls Tryz.prog 73 #[.func (.func 81) #[] #[.pointer (some ⟨Bs, 0, none⟩)]] w fun e W' => ∃ v, e = .returned v ∧ kT.Own W' w.heap.size v zs ∧ Below w.heap.size w W' := by
  have hB0 : Below w.heap.size w (w.alloc (.cells #[.slice none 0 0] 88)) := below_box w _
  refine ((callsIn_wide (n := 4)).1 (colTB_in _ 4 trivial trivial rfl (by omega) 81 _ trivial (enters_of Tryz.func81 (by kernel_rfl) rfl) _ _ zs.length hlen w (tval_stops _ _ trivial rfl (by omega) Bs w.heap.size a cap zs hlen _ (by simp; omega) (by simp) ((hB0.cell (p := ⟨Bs, 0, none⟩) hBs).trans hc) (fun hne => by
    obtain ⟨b, off, e, hat⟩ := hz hne
    exact ⟨b, off, e, hat.lt, hat.below hB0⟩)))).mono ?_
  rintro e W' ⟨v, ks, rfl, rfl, ho, hb⟩
  exact ⟨v, rfl, ho, hb⟩
theorem tvals_any (a : Option Addr) (len cap : Nat) (w : World) :
    Calls Tryz.prog 39 #[.slice a len cap] w fun e w' => e = .returned (.func (.func 81) #[] #[.pointer (some ⟨w.heap.size, 0, none⟩)]) ∧ w' = w.alloc (.cells #[.slice a len cap] 88) :=
  (callsIn_wide (n := 4)).1 (tval_in _ 4 trivial rfl a len cap w)
end Go.Proofs.YtkbmipmegljidaaGreat
