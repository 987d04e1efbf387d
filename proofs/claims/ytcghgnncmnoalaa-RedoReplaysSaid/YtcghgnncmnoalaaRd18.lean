/- slices.Values of records: its closure as an iterator. Conditions: each contract's own premises. -/
import Derived.RangeFuncBox
import Derived.RangeFuncLeaves
import Derived.RangeFuncNested
import Derived.Shelf.Abstract
import Derived.WalkKit
import Derived.OwnWalkIn
import Derived.TacticsInMore
import Derived.LoopNIn
import Derived.LoopIn
import Derived.Test.YtcghgnncmnoalaaRdA
namespace Go.Proofs.Ytcghgnncmnoalaa
open Go.RowKit Go.Maps

attribute [local go_sem] Oper.semAt_some

set_option maxRecDepth 100000 in
set_option maxHeartbeats 2000000 in
/-- the closure of slices.Values, whatever the rounds do that keep what lay below n0 -/
theorem rval1_in (F : Fence) (n : Nat) (hf : F.fn 149) (hro : F.round = none) (hn : 1 ≤ n) (l Bs n0 b off cap : Nat) (zs : List Rv) (hlen : zs.length ≤ 1000000) (hb : b < n0) (J Jx : List Rv → World → Prop) (W : World) (hJ : AbidesFrom W.heap.size J)
    (hY : ∀ pre x W1, J pre W1 → pre.length < zs.length → YieldAt F (n - 1) Try.prog l #[x.val] W1 fun e W' =>
      (e = .returned (.bool true) ∧ J (pre ++ [x]) W' ∧ Below n0 W1 W') ∨ (e = .returned (.bool false) ∧ Jx (pre ++ [x]) W'))
    (hBs : W.cell? ⟨Bs, 0, none⟩ = some (.slice (some ⟨b, off, none⟩) zs.length cap)) (hc : RsAt W b off zs) (hn0 : n0 ≤ W.heap.size) (h0 : J [] W) :
    CallsIn F n Try.prog 149 #[.func (.yield l) #[] #[], .pointer (some ⟨Bs, 0, none⟩)] W fun e W' => (∃ v, e = .returned v) ∧ (J zs W' ∨ (∃ k, k ≤ zs.length ∧ Jx (zs.take k) W')) := by
  refine callsIn_of_wp Try.func149 rfl hf ?_ hro
  simp only [Try.ntmps149, List.size_toArray, List.length_cons, List.length_nil, Nat.reduceAdd, Nat.reduceSub, Array.replicate_succ, Array.replicate_zero, List.push_toArray, List.append_toArray, List.nil_append, List.cons_append]
  gi_wp2
  gi_loopw [7] (fun i wr => ∃ k : Nat, k ≤ zs.length ∧ i = .int .i64 k ∧ J (zs.take k) wr ∧ Below n0 W wr ∧ n0 ≤ wr.heap.size) (fun i _ => zs.length - (intOf i).toNat)
  case atStart => exact ⟨0, Nat.zero_le _, rfl, h0, Below.refl _ _, hn0⟩
  case round =>
    obtain ⟨k, hk, rfl, hJs, hnx, hsz⟩ := hrel
    by_cases hlt : k < zs.length
    · obtain ⟨x, hx⟩ : ∃ x, zs[k]? = some x := ⟨_, List.getElem?_eq_getElem hlt⟩
      obtain ⟨_, q1, q2⟩ := hc.cells k x hx
      have c1 : wr.cell? ⟨b, off + k * 2, none⟩ = some (.int .u64 x.stamp) := (hnx.cell (p := ⟨b, off + k * 2, none⟩) hb).trans q1
      have c2 : wr.cell? ⟨b, off + k * 2 + 1, none⟩ = some (.slice x.a x.ws.length x.cap) := (hnx.cell (p := ⟨b, off + k * 2 + 1, none⟩) hb).trans q2
      have hT : zs.take (k + 1) = zs.take k ++ [x] := by
        obtain ⟨hk2, rfl⟩ := List.getElem?_eq_some_iff.1 hx
        exact (List.take_append_getElem hk2).symm
      have hJX : J (zs.take k) (wr.alloc (.cells #[.int .u64 x.stamp, .slice x.a x.ws.length x.cap] 35)) := hJ _ wr _ none hJs (World.grownBy_alloc _ _ _) (fun r e => by cases e)
      have hbX : Below n0 wr (wr.alloc (.cells #[.int .u64 x.stamp, .slice x.a x.ws.length x.cap] 35)) := (Below.refl _ _).alloc hsz _
      obtain ⟨fn, tmps, assign, body, hy, hR⟩ := hY _ x _ hJX (by simp; omega)
      rw [← hT] at hR
      unfold Rv.val at hy
      gi_wp2
      refine hR.mono ?_
      rintro e W3 (⟨rfl, hJ3, hk3⟩ | ⟨rfl, hJx3⟩)
      · gi_wp2
        go_roundw
        case rel => exact ⟨k + 1, by omega, by simp, hJ3, hnx.trans (hbX.trans hk3), Nat.le_trans hsz (hbX.trans hk3).size⟩
        case measure => simp [intOf]; omega
      · gi_wp2
        refine bodyPost_ret (results_none rfl _ _ _) rfl ?_
        exact ⟨⟨_, rfl⟩, .inr ⟨k + 1, by omega, hJx3⟩⟩
    · obtain rfl : k = zs.length := by omega
      rw [List.take_length] at hJs
      gi_wp2
      go_end0
      exact ⟨⟨_, rfl⟩, .inl hJs⟩
set_option maxRecDepth 100000 in
set_option maxHeartbeats 1000000 in
/-- .. at no record at all: no round -/
theorem rval1_nil_in (F : Fence) (n : Nat) (hf : F.fn 149) (hro : F.round = none) (l Bs : Nat) (a : Option Addr) (cap : Nat) (J : List Rv → World → Prop) (W : World) (hBs : W.cell? ⟨Bs, 0, none⟩ = some (.slice a 0 cap)) (h0 : J [] W) :
    CallsIn F n Try.prog 149 #[.func (.yield l) #[] #[], .pointer (some ⟨Bs, 0, none⟩)] W fun e W' => (∃ v, e = .returned v) ∧ J [] W' := by
  refine callsIn_of_wp Try.func149 rfl hf ?_ hro
  simp only [Try.ntmps149, List.size_toArray, List.length_cons, List.length_nil, Nat.reduceAdd, Nat.reduceSub, Array.replicate_succ, Array.replicate_zero, List.push_toArray, List.append_toArray, List.nil_append, List.cons_append]
  gi_wp2
  gi_loopw [7] (fun i wr => i = .int .i64 0 ∧ J [] wr) (fun _ _ => 0)
  case atStart => exact ⟨rfl, h0⟩
  case round =>
    obtain ⟨rfl, hJs⟩ := hrel
    gi_wp2
    go_end0
    exact ⟨⟨_, rfl⟩, hJs⟩
set_option maxHeartbeats 1000000 in
/-- slices.Values of records -/
theorem rval_in (F : Fence) (n : Nat) (hf : F.fn 124) (hro : F.round = none) (a : Option Addr) (len cap : Nat) (w : World) :
    CallsIn F n Try.prog 124 #[.slice a len cap] w fun e w' => e = .returned (.func (.func 149) #[] #[.pointer (some ⟨w.heap.size, 0, none⟩)]) ∧ w' = w.alloc (.cells #[.slice a len cap] 24) := by
  refine callsIn_of_wp Try.func124 rfl hf ?_ hro
  simp only [Try.ntmps124, List.size_toArray, List.length_cons, List.length_nil, Nat.reduceAdd, Nat.reduceSub, Array.replicate_succ, Array.replicate_zero, List.push_toArray, List.append_toArray, List.nil_append, List.cons_append]
  gi_wp2
  go_ret
  exact ⟨rfl, rfl⟩
/-- what slices.Values hands back gives all records, in order -/
theorem rval_stops (F : Fence) (n : Nat) (hf : F.fn 149) (hro : F.round = none) (hn : 1 ≤ n) (Bs n0 : Nat) (a : Option Addr) (cap : Nat) (zs : List Rv) (hlen : zs.length ≤ 1000000) (w : World) (hBs : Bs < w.heap.size) (hn0 : n0 ≤ w.heap.size)
    (hc : w.cell? ⟨Bs, 0, none⟩ = some (.slice a zs.length cap)) (hz : zs ≠ [] → ∃ b off, a = some ⟨b, off, none⟩ ∧ b < n0 ∧ RsAt w b off zs) :
    SeqStopsK F n Try.prog 149 #[.pointer (some ⟨Bs, 0, none⟩)] (fun x : Rv => #[x.val]) (Below n0) (fun ys => ys = zs) (fun pre => pre <+: zs) zs.length w := fun l J Jx W hW hJ _ hY h0 => by
  have hc' := (hW.cell (p := ⟨Bs, 0, none⟩) hBs).trans hc
  by_cases hne : zs = []
  · subst hne
    exact (rval1_nil_in F n hf hro l Bs a cap J W hc' h0).mono fun e W' ⟨he, hj⟩ => ⟨he, .inl ⟨_, rfl, hj⟩⟩
  · obtain ⟨b, off, rfl, hb, hat⟩ := hz hne
    refine (rval1_in F n hf hro hn l Bs n0 b off cap zs hlen hb J Jx W hJ hY hc' (hat.below hW) (Nat.le_trans hn0 hW.size) h0).mono ?_
    rintro e W' ⟨he, hj | ⟨k, _, hj⟩⟩
    · exact ⟨he, .inl ⟨_, rfl, hj⟩⟩
    · exact ⟨he, .inr ⟨_, List.take_prefix _ _, hj⟩⟩
end Go.Proofs.Ytcghgnncmnoalaa
