/- slices.AppendSeq, slices.Collect of slices.Values of records. Conditions: each contract's own premises. How records are compared when they are sorted. Conditions: each contract's own premises. Recover's two closures. Conditions: each contract's own premises. -/
import Derived.Test.YtcghgnncmnoalaaRd18
import Derived.Test.YtcghgnncmnoalaaRow
import Derived.Maps.AppendAt
namespace Go.Proofs.Ytcghgnncmnoalaa
open Go.RowKit Go.Maps

attribute [local go_sem] Oper.semAt_some

theorem infoRec : (Try.prog.info? 35).map (fun i => (i.zero, i.size, i.bytes)) = some (some (.agg #[.int .u64 0, .slice none 0 0]), 2, 32) := by kernel_rfl
def Rv.enc (r : Rv) : List Value := [.int .u64 r.stamp, .slice r.a r.ws.length r.cap]
/-- records, as elements -/
def kR : RowK Try.prog Rv where
  t := 24
  e := 35
  size := 2
  bytes := 32
  z := .agg #[.int .u64 0, .slice none 0 0]
  enc := Rv.enc
  ht := Try.underlying24
  info := infoRec
  hz := rfl
  pos := by decide
  small := by decide
  len := fun _ => rfl
  one := fun x u hu => by
    simp [Rv.enc] at hu
    rcases hu with rfl | rfl <;> rfl
theorem cell_two_new (w : World) (x y : Value) (t : TypeId) : ∀ j u, [x, y][j]? = some u → (w.alloc (.cells #[x, y] t)).cell? ((⟨w.heap.size, 0, none⟩ : Addr).add j) = some u := by
  intro j u hj
  have hn := heap_new w (.cells #[x, y] t)
  match j, hj with
  | 0, hj => injection hj with hj; subst hj; exact cell_of_blk hn 0
  | 1, hj => injection hj with hj; subst hj; exact cell_of_blk hn 1
set_option maxRecDepth 100000 in
set_option maxHeartbeats 2000000 in
/-- slices.AppendSeq(nil, seq) of what slices.Values of records hands back -/
theorem appR_in (F : Fence) (n : Nat) (h1 : F.fn 159) (h2 : F.fn 149) (hro : F.round = none) (hn : 3 ≤ n) (Bs : Nat) (a : Option Addr) (cap : Nat) (zs : List Rv) (hlen : zs.length ≤ 1000000) (w : World) (hBs : Bs < w.heap.size)
    (hc : w.cell? ⟨Bs, 0, none⟩ = some (.slice a zs.length cap)) (hz : RsV w a zs) :
    CallsIn F n Try.prog 159 #[.slice none 0 0, .func (.func 149) #[] #[.pointer (some ⟨Bs, 0, none⟩)]] w fun e W' => ∃ v, e = .returned v ∧ kR.Own W' w.heap.size v zs ∧ Below w.heap.size w W' := by
  have hn1 : 1 ≤ n := by omega
  obtain ⟨i0, hi, hz0, hz1, hz2⟩ := info_parts infoRec
  refine callsIn_of_wp_marks Try.func159 rfl h1 ?_ hro
  simp only [Try.ntmps159, List.size_toArray, List.length_cons, List.length_nil, Nat.reduceAdd, Nat.reduceSub, Array.replicate_succ, Array.replicate_zero, List.push_toArray, List.append_toArray, List.nil_append, List.cons_append]
  gi_wp2
  have bO := Boxed.new w 24 (.slice none 0 0)
  have hB0 : Below w.heap.size w (w.alloc (.cells #[.slice none 0 0] 24)) := below_box w _
  refine wpIn_rangeFunc_ownH hro hn1 (gf := 149) (lb := #[.pointer (some ⟨Bs, 0, none⟩)]) rfl h2 (enters_of Try.func149 (by kernel_rfl) rfl)
    (rval_stops F (n - 1) h2 hro (by omega) Bs w.heap.size a cap zs hlen _ (by simp; omega) (by simp) ((hB0.cell (p := ⟨Bs, 0, none⟩) hBs).trans hc) (fun hne => by
      obtain ⟨b, off, e, hat⟩ := hz hne
      exact ⟨b, off, e, hat.lt, hat.below hB0⟩)) belowK_t (belowK_b (by simp)) (Below.refl _ _) (fun _ => rfl)
    (fun pre W => (∃ v, Boxed W w.heap.size 24 v ∧ W.ownsRow w.heap.size 35 2 v pre.length (kR.cells pre) ∧ True) ∧ Below w.heap.size w W)
    (fun _ _ _ => False)
    (OwnFrom.and (Own.from (holdsRow_own w.heap.size w.heap.size 24 35 2 (fun pre => pre.length) (fun pre => kR.cells pre) (fun _ _ => True)) _) (ownFrom_below (Nat.le_refl _) (by simp)))
    (fun _ _ _ _ _ hs _ _ => hs)
    ⟨⟨_, bO, World.ownsRow_nil _ _ _ _, trivial⟩, hB0⟩
    (fun x a' W => ∃ Bx, w.heap.size < Bx ∧ W.heap[Bx]? = some (.cells #[.int .u64 x.stamp, .slice x.a x.ws.length x.cap] 35) ∧ a' = { tmps := #[.slice none 0 0, .func (.func 149) #[] #[.pointer (some ⟨Bs, 0, none⟩)], .pointer (some ⟨w.heap.size, 0, none⟩), undef, .slice none 0 0, .pointer (some ⟨Bx, 0, none⟩), .func (.func 149) #[] #[.pointer (some ⟨Bs, 0, none⟩)], x.val, undef, undef, undef, undef, undef], defers := [] })
    (fun x a' _ X Y row hs hg hr => by
      obtain ⟨Bx, q1, q2, q3⟩ := hs
      refine ⟨Bx, q1, (hg.block Bx (Array.getElem?_eq_some_iff.1 q2).1 (fun e => ?_)).trans q2, q3⟩
      obtain ⟨_, o, ho, hc⟩ := hr Bx e.symm
      rw [q2] at ho; cases ho; cases hc)
    ?assign ?body ?done ?stop
  case assign =>
    rintro l pre x W K ⟨⟨v, hv, hrow, _⟩, hB⟩ hK
    unfold Rv.val
    gi_wp2
    exact hK _ _ ((KeepsOthers.alloc _ _).from _) ((Below.refl _ W).alloc hB.size _) ⟨⟨v, hv.alloc _, hrow.alloc _, trivial⟩, hB.alloc hB.size _⟩ ⟨W.heap.size, hv.lt, heap_new W _, rfl⟩
  case body =>
    rintro l pre x a' W hl ⟨r, hr⟩ ⟨⟨v, hv, hrow, _⟩, hB⟩ ⟨Bx, hBx, hX, rfl⟩ hlt
    have hc := hv.cell
    have x0 := cell_of_blk hX 0
    have x1 := cell_of_blk hX 1
    simp at x0 x1
    have hml : ∀ u ∈ Rv.enc x, u.oneCell' = true := kR.one x
    gi_wp2_with (gi_at_builtin; refine wpListIn_append_own _ rfl _ _ 24 rfl w.heap.size 35 i0 (.agg #[.int .u64 0, .slice none 0 0]) 2 32 Try.underlying24 hi hz0 hz1 hz2 rfl (by decide) _ _ _ rfl (hrow.alloc _) ⟨W.heap.size, 0, none⟩ 1 1 (Rv.enc x) rfl rfl (cell_two_new _ _ _ _) hml (by unfold maxLen; omega) (by omega) (by have := hB.size; simp; omega) ?_; intro v' w1 hown' hgrow _; obtain ⟨g', cap', rfl⟩ := ownsRow_succ hown'; obtain ⟨hv1, hv2, hr2, hk2, hb2⟩ := hv.appended (by decide) hrow hB.size (Nat.le_refl _) hown' hgrow; have hc1 := hv1.cell; have hf1 := hv1.frozen)
    have ec : kR.cells (pre ++ [x]) = kR.cells pre ++ Rv.enc x := (RowK.cells_append kR pre [x]).trans (congrArg (kR.cells pre ++ ·) (List.append_nil (Rv.enc x)))
    exact ⟨hk2.from _, hb2, ⟨_, hv2, by rw [ec, List.length_append]; exact hr2, trivial⟩, hB.trans hb2⟩
  case done =>
    rintro D ys W hD rfl ⟨⟨v, hv, hrow, _⟩, hB⟩ hK
    have hc := hv.cell
    gi_wp2
    refine ⟨by simp, .inl ⟨_, _, rfl, run_takeDeferred hK, ?_⟩⟩
    exact ⟨_, results_tmp rfl _ _ _, v, rfl, ownsRow_putObj hrow _ hK rfl, hB.trans (belowK_b (w := w) (Nat.le_refl _) W D _ _ (by simp at hD; omega) hK rfl rfl)⟩
  case stop =>
    rintro D c pre W _ _ h _
    exact h.elim
set_option maxHeartbeats 1000000 in
theorem colR_in (F : Fence) (n : Nat) (h0 : F.fn 147) (h1 : F.fn 159) (h2 : F.fn 149) (hro : F.round = none) (hn : 4 ≤ n) (Bs : Nat) (a : Option Addr) (cap : Nat) (zs : List Rv) (hlen : zs.length ≤ 1000000) (w : World) (hBs : Bs < w.heap.size)
    (hc : w.cell? ⟨Bs, 0, none⟩ = some (.slice a zs.length cap)) (hz : RsV w a zs) :
    CallsIn F n Try.prog 147 #[.func (.func 149) #[] #[.pointer (some ⟨Bs, 0, none⟩)]] w fun e W' => ∃ v, e = .returned v ∧ kR.Own W' w.heap.size v zs ∧ Below w.heap.size w W' := by
  have hn1 : 1 ≤ n := by omega
  refine callsIn_of_wp Try.func147 rfl h0 ?_ hro
  simp only [Try.ntmps147, List.size_toArray, List.length_cons, List.length_nil, Nat.reduceAdd, Nat.reduceSub, Array.replicate_succ, Array.replicate_zero, List.push_toArray, List.append_toArray, List.nil_append, List.cons_append]
  gi_wp2_with (gi_at_call 159; refine (appR_in F (n - 1) h1 h2 hro (by omega) Bs a cap zs hlen _ hBs hc hz).mono ?_; rintro e w' ⟨v, rfl, ho, hb⟩)
  go_ret
  exact ⟨v, rfl, ho, hb⟩
/-- slices.Collect of slices.Values of records -/
theorem colR_any (Bs : Nat) (a : Option Addr) (cap : Nat) (zs : List Rv) (hlen : zs.length ≤ 1000000) (w : World) (hBs : Bs < w.heap.size) (hc : w.cell? ⟨Bs, 0, none⟩ = some (.slice a zs.length cap)) (hz : RsV w a zs) :
    Calls Try.prog 147 #[.func (.func 149) #[] #[.pointer (some ⟨Bs, 0, none⟩)]] w fun e W' => ∃ v, e = .returned v ∧ kR.Own W' w.heap.size v zs ∧ Below w.heap.size w W' :=
  (callsIn_wide (n := 4)).1 (colR_in _ 4 trivial trivial trivial rfl (by omega) Bs a cap zs hlen w hBs hc hz)
theorem valR_any (a : Option Addr) (len cap : Nat) (w : World) :
    Calls Try.prog 124 #[.slice a len cap] w fun e w' => e = .returned (.func (.func 149) #[] #[.pointer (some ⟨w.heap.size, 0, none⟩)]) ∧ w' = w.alloc (.cells #[.slice a len cap] 24) :=
  (callsIn_wide (n := 4)).1 (rval_in _ 4 trivial rfl a len cap w)
end Go.Proofs.Ytcghgnncmnoalaa
namespace Go.Proofs.Ytcghgnncmnoalaa
open Go.RowKit Go.Maps

theorem nanU_any (n : Nat) (w : World) : Calls Try.prog 150 #[.int .u64 n] w fun e w' => e = .returned (.bool false) ∧ w = w' := by
  have h : ((n : Int) != (n : Int)) = false := by simp
  go_enter Try.func150, Try.ntmps150
  go_wp2_with fail
  go_ret
  simp
def cmpN (a b : Nat) : Int := if a < b then -1 else if b < a then 1 else 0
theorem cmpU_any (a b : Nat) (w : World) : Calls Try.prog 126 #[.int .u64 a, .int .u64 b] w fun e w' => e = .returned (.int .i64 (cmpN a b)) ∧ w = w' := by
  unfold cmpN
  by_cases h1 : a < b
  · have t1 : decide ((a : Int) < (b : Int)) = true := by simp; omega
    rw [if_pos h1]
    go_enter Try.func126, Try.ntmps126
    go_wp2_with fail
    refine (nanU_any a _).mono ?_
    rintro e w1 ⟨rfl, rfl⟩
    go_wp2_with fail
    refine (nanU_any b _).mono ?_
    rintro e w1 ⟨rfl, rfl⟩
    go_wp2_with fail
    go_ret
    simp
  · have t1 : decide ((a : Int) < (b : Int)) = false := by simp; omega
    rw [if_neg h1]
    by_cases h2 : b < a
    · have t2 : decide ((b : Int) < (a : Int)) = true := by simp; omega
      rw [if_pos h2]
      go_enter Try.func126, Try.ntmps126
      go_wp2_with fail
      refine (nanU_any a _).mono ?_
      rintro e w1 ⟨rfl, rfl⟩
      go_wp2_with fail
      refine (nanU_any b _).mono ?_
      rintro e w1 ⟨rfl, rfl⟩
      go_wp2_with fail
      go_ret
      simp
    · have t2 : decide ((b : Int) < (a : Int)) = false := by simp; omega
      rw [if_neg h2]
      go_enter Try.func126, Try.ntmps126
      go_wp2_with fail
      refine (nanU_any a _).mono ?_
      rintro e w1 ⟨rfl, rfl⟩
      go_wp2_with fail
      refine (nanU_any b _).mono ?_
      rintro e w1 ⟨rfl, rfl⟩
      go_wp2_with fail
      go_ret
      simp
set_option maxRecDepth 10000 in
/-- what sorted compares by: stamps -/
theorem sortedCmp_any (x y : Rv) (w : World) : Calls Try.prog 125 #[x.val, y.val] w fun e w' => e = .returned (.int .i64 (cmpN x.stamp y.stamp)) ∧ w' = (w.alloc (.cells #[.int .u64 x.stamp, .slice x.a x.ws.length x.cap] 35)).alloc (.cells #[.int .u64 y.stamp, .slice y.a y.ws.length y.cap] 35) := by
  unfold Rv.val
  go_enter Try.func125, Try.ntmps125
  go_wp2_with fail
  refine (cmpU_any x.stamp y.stamp _).mono ?_
  rintro e w1 ⟨rfl, rfl⟩
  go_wp2_with fail
  go_ret
  simp
end Go.Proofs.Ytcghgnncmnoalaa
namespace Go.Proofs.Ytcghgnncmnoalaa
open Go.RowKit Go.Maps

theorem beq_cast' (a b : Nat) : ((a : Int) == (b : Int)) = (a == b) := by
  by_cases h : a = b
  · subst h; simp
  · have h2 : ¬ (a : Int) = (b : Int) := by omega
    rw [beq_eq_false_iff_ne.2 h2, beq_eq_false_iff_ne.2 h]
set_option maxRecDepth 10000 in
/-- are two stamps one? -/
theorem recover2_any (x y : Rv) (w : World) : Calls Try.prog 81 #[x.val, y.val] w (BoolPost w (x.stamp == y.stamp)) := by
  have hb : Below w.heap.size w ((w.alloc (.cells #[.int .u64 x.stamp, .slice x.a x.ws.length x.cap] 35)).alloc (.cells #[.int .u64 y.stamp, .slice y.a y.ws.length y.cap] 35)) := (below_box w _).alloc (by (try simp only [size_alloc]); omega) _
  have HB := Lib.hid hb
  clear hb
  obtain ⟨q, hq⟩ : ∃ q, (x.stamp == y.stamp) = q := ⟨_, rfl⟩
  have t1 : ((x.stamp : Int) == (y.stamp : Int)) = q := by rw [← hq]; exact beq_cast' x.stamp y.stamp
  rw [hq]
  clear hq
  unfold Rv.val
  go_enter Try.func81, Try.ntmps81
  go_wp2_with fail
  go_ret
  exact ⟨rfl, HB.out⟩
/-- a stamp's epoch -/
theorem epochOf_any (n : Nat) (w : World) (hn : n < 18446744073709551616) : Calls Try.prog 79 #[.int .u64 n] w fun e w' => e = .returned (.int .i64 ((n / 2147483648 : Nat) : Int)) ∧ w = w' := by
  go_enter Try.func79, Try.ntmps79
  go_wp2_with fail
  go_ret
  simp
end Go.Proofs.Ytcghgnncmnoalaa
