/- maps.Keys at two map types: the iterator. Conditions: each contract's own premises. slices.AppendSeq, slices.Collect of keys. Conditions: each contract's own premises. -/
import Derived.Test.YtkhkdedjffkhdaaGreatKq1
import Derived.Maps.AppendAt
namespace Go.Proofs.YtkhkdedjffkhdaaGreat
open Go.RowKit Go.Maps

attribute [local go_sem] Oper.semAt_some

set_option maxRecDepth 100000 in
set_option maxHeartbeats 2000000 in
/-- the closure of maps.Keys, whatever the rounds do that leave maps and iterators alone -/
theorem keys1S_in (F : Fence) (n : Nat) (hf : F.fn 108) (hro : F.round = none) (hn : 1 ≤ n) (l Bm b nn : Nat) (f : Lit → Option Value) (J Jx : List Ky → World → Prop)
    (hY : ∀ pre x W, J pre W → pre.length < nn → YieldAt F (n - 1) Tryz.prog l #[x.val] W fun e W' => (e = .returned (.bool true) ∧ J (pre ++ [x]) W' ∧ KeepsWalks W W') ∨ (e = .returned (.bool false) ∧ Jx (pre ++ [x]) W'))
    (W : World) (hJ : AbidesFrom W.heap.size J) (hm : W.cell? ⟨Bm, 0, none⟩ = some (.map (some b))) (hmap : mapR W Tryz.prog 47 b nn f) (h0 : J [] W) :
    CallsIn F n Tryz.prog 108 #[.func (.yield l) #[] #[], .pointer (some ⟨Bm, 0, none⟩)] W fun e W' => (∃ v, e = .returned v) ∧
      ((∃ ks, KsOf f nn ks ∧ J ks W') ∨ (∃ pre : List Ky, pre.Nodup ∧ Jx pre W')) := by
  obtain ⟨D0, hown, hsz, hhas, hat0⟩ := hmap.open'
  refine callsIn_of_wp Tryz.func108 rfl hf ?_ hro
  simp only [Tryz.ntmps108, List.size_toArray, List.length_cons, List.length_nil, Nat.reduceAdd, Nat.reduceSub, Array.replicate_succ, Array.replicate_zero, List.push_toArray, List.append_toArray, List.nil_append, List.cons_append]
  gi_wp2_with (first
    | (gi_at_range; refine wpListIn_range_own _ rfl _ 106 rfl 47 96 lawKey Tryz.underlying106 _ b nn _ rfl hown ?_; intro w0 hrg0 hg0 hs0)
    | gi_in)
  go_frame
  gi_loopw [3] (fun _ wr => ∃ (left : Lit → Bool) (cnt : Nat) (ks : List Ky), wr.ranges Tryz.prog 47 rawElem b W.heap.size nn D0 left cnt ∧ ks.length + cnt ≤ nn ∧ ColK f left ks ∧ J ks wr)
    (fun _ wr => wr.rangeLeft b W.heap.size)
  case atStart =>
    exact ⟨_, _, [], hrg0, by rw [hsz]; simp, ColK.start hhas, hJ [] W w0 none h0 hg0 (fun r e => by cases e)⟩
  case round =>
    obtain ⟨left, cnt, ks, hrg, hcs, hC, hJs⟩ := hrel
    gi_wp2_with (first
      | (gi_at_next; refine wpListIn_next_ranges _ rfl _ rfl 47 lawKey rawElem Ky.val id (fun key kl hk => by obtain ⟨x, _, hx, _⟩ := keyK_inv hk; exact ⟨x, hx⟩) (fun v _ _ => ⟨v, rfl⟩) b W.heap.size nn _ _ _ rfl hrg ?_ ?_)
      | gi_in)
    · intro hc0 hl0
      gi_wp2
      go_end0
      exact ⟨⟨_, rfl⟩, .inl ⟨ks, hC.end hl0 (by omega), hJs⟩⟩
    · intro x c kl yd yp w2 cnt2 hkey hlk hv hat hrg2 hlt hg2 hs2 hen
      obtain ⟨x', hxo, ex, rfl⟩ := keyK_inv hkey
      obtain rfl : x = x' := Ky.val_inj ex
      have hyd : yd = .held c := by
        simp only [rawElem, Option.some.injEq, Prod.mk.injEq] at hv
        exact hv.1.symm
      have hfx : (f x.lit).isSome = true := by
        rw [hat0 x.lit c (lawKey.key (keyK hxo)) (fun z => by rw [hat z]; exact hyd)]
        rfl
      have hJ2 : J ks w2 := hJ ks wr w2 (some W.heap.size) hJs hg2 (fun r e => by cases e; exact ⟨Nat.le_refl _, hrg.iter_walk⟩)
      have hJ4 : J ks (w2.alloc (.cells #[.int .i64 x.kind, .int .i64 x.a, .int .i64 x.b, .string x.s] 47)) := hJ ks w2 _ none hJ2 (World.grownBy_alloc _ _ _) (fun r e => by cases e)
      have hrg4 := hrg2.of_walks (KeepsWalks.alloc w2 (.cells #[.int .i64 x.kind, .int .i64 x.a, .int .i64 x.b, .string x.s] 47))
      obtain ⟨fn, tmps, assign, body, hy, hR⟩ := hY ks x _ hJ4 (by omega)
      have hC2 := hC.step hxo hfx hlk
      unfold Ky.val at hy hen
      have HC2 := Lib.hid hC2
      have HRG4 := Lib.hid hrg4
      clear hs2 hat hv hkey hlk hyd hfx hJ2 hJ4 hC2 hrg4 hrg2 hg2 ex
      unfold Ky.val
      gi_wp2
      refine hR.mono ?_
      rintro e W3 (⟨rfl, hJ3, hk3⟩ | ⟨rfl, hJx3⟩)
      · gi_wp2
        have hrg3 := HRG4.out.of_walks hk3
        go_roundw
        case rel => exact ⟨_, cnt2, ks ++ [x], hrg3, by simp; omega, HC2.out, hJ3⟩
        case measure => rw [hrg3.left_eq, hrg.left_eq]; exact hlt
      · gi_wp2
        refine bodyPost_ret (results_none rfl _ _ _) rfl ?_
        exact ⟨⟨_, rfl⟩, .inr ⟨ks ++ [x], HC2.out.1, hJx3⟩⟩
set_option maxHeartbeats 1000000 in
/-- maps.Keys -/
theorem keysS_in (F : Fence) (n : Nat) (hf : F.fn 83) (hro : F.round = none) (mb : Option Nat) (w : World) :
    CallsIn F n Tryz.prog 83 #[.map mb] w fun e w' => e = .returned (.func (.func 108) #[] #[.pointer (some ⟨w.heap.size, 0, none⟩)]) ∧ w' = w.alloc (.cells #[.map mb] 106) := by
  refine callsIn_of_wp Tryz.func83 rfl hf ?_ hro
  simp only [Tryz.ntmps83, List.size_toArray, List.length_cons, List.length_nil, Nat.reduceAdd, Nat.reduceSub, Array.replicate_succ, Array.replicate_zero, List.push_toArray, List.append_toArray, List.nil_append, List.cons_append]
  gi_wp2
  go_ret
  exact ⟨rfl, rfl⟩
/-- what maps.Keys hands back gives all keys, in some order -/
theorem keysS_stops (F : Fence) (n : Nat) (hf : F.fn 108) (hro : F.round = none) (hn : 1 ≤ n) (Bm b nn : Nat) (f : Lit → Option Value) (w : World) (hBm : Bm < w.heap.size) (hm : w.cell? ⟨Bm, 0, none⟩ = some (.map (some b))) (hmap : mapR w Tryz.prog 47 b nn f) :
    SeqStopsK F n Tryz.prog 108 #[.pointer (some ⟨Bm, 0, none⟩)] (fun x : Ky => #[x.val]) KeepsWalks (KsOf f nn) (fun pre => pre.Nodup) nn w := fun l J Jx W hW hJ _ hY h0 =>
  keys1S_in F n hf hro hn l Bm b nn f J Jx hY W hJ ((hW.cell (p := ⟨Bm, 0, none⟩) hBm).trans hm) (hmap.of_block (hW.block b hmap.lt)) h0
set_option maxRecDepth 100000 in
set_option maxHeartbeats 2000000 in
/-- the closure of maps.Keys, whatever the rounds do that leave maps and iterators alone -/
theorem keys1T_in (F : Fence) (n : Nat) (hf : F.fn 107) (hro : F.round = none) (hn : 1 ≤ n) (l Bm b nn : Nat) (f : Lit → Option Value) (J Jx : List Ky → World → Prop)
    (hY : ∀ pre x W, J pre W → pre.length < nn → YieldAt F (n - 1) Tryz.prog l #[x.val] W fun e W' => (e = .returned (.bool true) ∧ J (pre ++ [x]) W' ∧ KeepsWalks W W') ∨ (e = .returned (.bool false) ∧ Jx (pre ++ [x]) W'))
    (W : World) (hJ : AbidesFrom W.heap.size J) (hm : W.cell? ⟨Bm, 0, none⟩ = some (.map (some b))) (hmap : mapR W Tryz.prog 47 b nn f) (h0 : J [] W) :
    CallsIn F n Tryz.prog 107 #[.func (.yield l) #[] #[], .pointer (some ⟨Bm, 0, none⟩)] W fun e W' => (∃ v, e = .returned v) ∧
      ((∃ ks, KsOf f nn ks ∧ J ks W') ∨ (∃ pre : List Ky, pre.Nodup ∧ Jx pre W')) := by
  obtain ⟨D0, hown, hsz, hhas, hat0⟩ := hmap.open'
  refine callsIn_of_wp Tryz.func107 rfl hf ?_ hro
  simp only [Tryz.ntmps107, List.size_toArray, List.length_cons, List.length_nil, Nat.reduceAdd, Nat.reduceSub, Array.replicate_succ, Array.replicate_zero, List.push_toArray, List.append_toArray, List.nil_append, List.cons_append]
  gi_wp2_with (first
    | (gi_at_range; refine wpListIn_range_own _ rfl _ 107 rfl 47 105 lawKey Tryz.underlying107 _ b nn _ rfl hown ?_; intro w0 hrg0 hg0 hs0)
    | gi_in)
  go_frame
  gi_loopw [3] (fun _ wr => ∃ (left : Lit → Bool) (cnt : Nat) (ks : List Ky), wr.ranges Tryz.prog 47 rawElem b W.heap.size nn D0 left cnt ∧ ks.length + cnt ≤ nn ∧ ColK f left ks ∧ J ks wr)
    (fun _ wr => wr.rangeLeft b W.heap.size)
  case atStart =>
    exact ⟨_, _, [], hrg0, by rw [hsz]; simp, ColK.start hhas, hJ [] W w0 none h0 hg0 (fun r e => by cases e)⟩
  case round =>
    obtain ⟨left, cnt, ks, hrg, hcs, hC, hJs⟩ := hrel
    gi_wp2_with (first
      | (gi_at_next; refine wpListIn_next_ranges _ rfl _ rfl 47 lawKey rawElem Ky.val id (fun key kl hk => by obtain ⟨x, _, hx, _⟩ := keyK_inv hk; exact ⟨x, hx⟩) (fun v _ _ => ⟨v, rfl⟩) b W.heap.size nn _ _ _ rfl hrg ?_ ?_)
      | gi_in)
    · intro hc0 hl0
      gi_wp2
      go_end0
      exact ⟨⟨_, rfl⟩, .inl ⟨ks, hC.end hl0 (by omega), hJs⟩⟩
    · intro x c kl yd yp w2 cnt2 hkey hlk hv hat hrg2 hlt hg2 hs2 hen
      obtain ⟨x', hxo, ex, rfl⟩ := keyK_inv hkey
      obtain rfl : x = x' := Ky.val_inj ex
      have hyd : yd = .held c := by
        simp only [rawElem, Option.some.injEq, Prod.mk.injEq] at hv
        exact hv.1.symm
      have hfx : (f x.lit).isSome = true := by
        rw [hat0 x.lit c (lawKey.key (keyK hxo)) (fun z => by rw [hat z]; exact hyd)]
        rfl
      have hJ2 : J ks w2 := hJ ks wr w2 (some W.heap.size) hJs hg2 (fun r e => by cases e; exact ⟨Nat.le_refl _, hrg.iter_walk⟩)
      have hJ4 : J ks (w2.alloc (.cells #[.int .i64 x.kind, .int .i64 x.a, .int .i64 x.b, .string x.s] 47)) := hJ ks w2 _ none hJ2 (World.grownBy_alloc _ _ _) (fun r e => by cases e)
      have hrg4 := hrg2.of_walks (KeepsWalks.alloc w2 (.cells #[.int .i64 x.kind, .int .i64 x.a, .int .i64 x.b, .string x.s] 47))
      obtain ⟨fn, tmps, assign, body, hy, hR⟩ := hY ks x _ hJ4 (by omega)
      have hC2 := hC.step hxo hfx hlk
      unfold Ky.val at hy hen
      have HC2 := Lib.hid hC2
      have HRG4 := Lib.hid hrg4
      clear hs2 hat hv hkey hlk hyd hfx hJ2 hJ4 hC2 hrg4 hrg2 hg2 ex
      unfold Ky.val
      gi_wp2
      refine hR.mono ?_
      rintro e W3 (⟨rfl, hJ3, hk3⟩ | ⟨rfl, hJx3⟩)
      · gi_wp2
        have hrg3 := HRG4.out.of_walks hk3
        go_roundw
        case rel => exact ⟨_, cnt2, ks ++ [x], hrg3, by simp; omega, HC2.out, hJ3⟩
        case measure => rw [hrg3.left_eq, hrg.left_eq]; exact hlt
      · gi_wp2
        refine bodyPost_ret (results_none rfl _ _ _) rfl ?_
        exact ⟨⟨_, rfl⟩, .inr ⟨ks ++ [x], HC2.out.1, hJx3⟩⟩
set_option maxHeartbeats 1000000 in
/-- maps.Keys -/
theorem keysT_in (F : Fence) (n : Nat) (hf : F.fn 82) (hro : F.round = none) (mb : Option Nat) (w : World) :
    CallsIn F n Tryz.prog 82 #[.map mb] w fun e w' => e = .returned (.func (.func 107) #[] #[.pointer (some ⟨w.heap.size, 0, none⟩)]) ∧ w' = w.alloc (.cells #[.map mb] 107) := by
  refine callsIn_of_wp Tryz.func82 rfl hf ?_ hro
  simp only [Tryz.ntmps82, List.size_toArray, List.length_cons, List.length_nil, Nat.reduceAdd, Nat.reduceSub, Array.replicate_succ, Array.replicate_zero, List.push_toArray, List.append_toArray, List.nil_append, List.cons_append]
  gi_wp2
  go_ret
  exact ⟨rfl, rfl⟩
/-- what maps.Keys hands back gives all keys, in some order -/
theorem keysT_stops (F : Fence) (n : Nat) (hf : F.fn 107) (hro : F.round = none) (hn : 1 ≤ n) (Bm b nn : Nat) (f : Lit → Option Value) (w : World) (hBm : Bm < w.heap.size) (hm : w.cell? ⟨Bm, 0, none⟩ = some (.map (some b))) (hmap : mapR w Tryz.prog 47 b nn f) :
    SeqStopsK F n Tryz.prog 107 #[.pointer (some ⟨Bm, 0, none⟩)] (fun x : Ky => #[x.val]) KeepsWalks (KsOf f nn) (fun pre => pre.Nodup) nn w := fun l J Jx W hW hJ _ hY h0 =>
  keys1T_in F n hf hro hn l Bm b nn f J Jx hY W hJ ((hW.cell (p := ⟨Bm, 0, none⟩) hBm).trans hm) (hmap.of_block (hW.block b hmap.lt)) h0
end Go.Proofs.YtkhkdedjffkhdaaGreat
namespace Go.Proofs.YtkhkdedjffkhdaaGreat
open Go.RowKit Go.Maps

attribute [local go_sem] Oper.semAt_some

theorem infoKy : (Tryz.prog.info? 47).map (fun i => (i.zero, i.size, i.bytes)) = some (some (.agg #[.int .i64 0, .int .i64 0, .int .i64 0, .string ByteArray.empty]), 4, 40) := by kernel_rfl
def Ky.enc (k : Ky) : List Value := [.int .i64 k.kind, .int .i64 k.a, .int .i64 k.b, .string k.s]
/-- keys, as elements -/
def kK : RowK Tryz.prog Ky where
  t := 57
  e := 47
  size := 4
  bytes := 40
  z := .agg #[.int .i64 0, .int .i64 0, .int .i64 0, .string ByteArray.empty]
  enc := Ky.enc
  ht := Tryz.underlying57
  info := infoKy
  hz := rfl
  pos := by decide
  small := by decide
  len := fun _ => rfl
  one := fun x u hu => by
    simp [Ky.enc] at hu
    rcases hu with rfl | rfl | rfl | rfl <;> rfl
theorem cell_four_new (w : World) (x y z s : Value) (t : TypeId) : ∀ j u, [x, y, z, s][j]? = some u → (w.alloc (.cells #[x, y, z, s] t)).cell? ((⟨w.heap.size, 0, none⟩ : Addr).add j) = some u := by
  intro j u hj
  have hn := heap_new w (.cells #[x, y, z, s] t)
  match j, hj with
  | 0, hj => injection hj with hj; subst hj; exact cell_of_blk hn 0
  | 1, hj => injection hj with hj; subst hj; exact cell_of_blk hn 1
  | 2, hj => injection hj with hj; subst hj; exact cell_of_blk hn 2
  | 3, hj => injection hj with hj; subst hj; exact cell_of_blk hn 3
set_option maxRecDepth 100000 in
set_option maxHeartbeats 2000000 in
/-- slices.AppendSeq(nil, seq), whatever seq gives -/
theorem appK_in (F : Fence) (n : Nat) (h1 : F.fn 129) (hro : F.round = none) (hn : 3 ≤ n) (gf : Nat) (lb : Array Value) (h2 : F.fn gf) (eg : ∀ args w, (callFunc gf args).run Tryz.prog w = .ok (.enter gf args) w) (S Sp : List Ky → Prop) (N : Nat) (hN : N ≤ 1000000) (w : World)
    (hseq : SeqStopsK F (n - 1) Tryz.prog gf lb (fun x : Ky => #[x.val]) KeepsWalks S Sp N w) :
    CallsIn F n Tryz.prog 129 #[.slice none 0 0, .func (.func gf) #[] lb] w fun e W' => ∃ v ks, e = .returned v ∧ S ks ∧ kK.Own W' w.heap.size v ks ∧ Below w.heap.size w W' := by
  have hn1 : 1 ≤ n := by omega
  obtain ⟨i0, hi, hz0, hz1, hz2⟩ := info_parts infoKy
  refine callsIn_of_wp_marks Tryz.func129 rfl h1 ?_ hro
  simp only [Tryz.ntmps129, List.size_toArray, List.length_cons, List.length_nil, Nat.reduceAdd, Nat.reduceSub, Array.replicate_succ, Array.replicate_zero, List.push_toArray, List.append_toArray, List.nil_append, List.cons_append]
  gi_wp2
  have bO := Boxed.new w 57 (.slice none 0 0)
  have hB0 : Below w.heap.size w (w.alloc (.cells #[.slice none 0 0] 57)) := below_box w _
  refine wpIn_rangeFunc_ownH hro hn1 (gf := gf) (lb := lb) rfl h2 eg
    hseq walksK_t walksK_b hB0 (fun _ => rfl)
    (fun pre W => (∃ v, Boxed W w.heap.size 57 v ∧ W.ownsRow w.heap.size 47 4 v pre.length (kK.cells pre) ∧ True) ∧ Below w.heap.size w W)
    (fun _ _ _ => False)
    (OwnFrom.and (Own.from (holdsRow_own w.heap.size w.heap.size 57 47 4 (fun pre => pre.length) (fun pre => kK.cells pre) (fun _ _ => True)) _) (ownFrom_below (Nat.le_refl _) (by simp)))
    (fun _ _ _ _ _ hs _ _ => hs)
    ⟨⟨_, bO, World.ownsRow_nil _ _ _ _, trivial⟩, hB0⟩
    (fun x a' W => ∃ Bx, w.heap.size < Bx ∧ W.heap[Bx]? = some (.cells #[.int .i64 x.kind, .int .i64 x.a, .int .i64 x.b, .string x.s] 47) ∧ a' = { tmps := #[.slice none 0 0, .func (.func gf) #[] lb, .pointer (some ⟨w.heap.size, 0, none⟩), undef, .slice none 0 0, .pointer (some ⟨Bx, 0, none⟩), .func (.func gf) #[] lb, x.val, undef, undef, undef, undef, undef], defers := [] })
    (fun x a' _ X Y row hs hg hr => by
      obtain ⟨Bx, q1, q2, q3⟩ := hs
      refine ⟨Bx, q1, (hg.block Bx (Array.getElem?_eq_some_iff.1 q2).1 (fun e => ?_)).trans q2, q3⟩
      obtain ⟨_, o, ho, hc⟩ := hr Bx e.symm
      rw [q2] at ho; cases ho; cases hc)
    ?assign ?body ?done ?stop
  case assign =>
    rintro l pre x W K ⟨⟨v, hv, hrow, _⟩, hB⟩ hK
    unfold Ky.val
    gi_wp2
    exact hK _ _ ((KeepsOthers.alloc _ _).from _) (KeepsWalks.alloc _ _) ⟨⟨v, hv.alloc _, hrow.alloc _, trivial⟩, hB.alloc hB.size _⟩ ⟨W.heap.size, hv.lt, heap_new W _, rfl⟩
  case body =>
    rintro l pre x a' W hl ⟨r, hr⟩ ⟨⟨v, hv, hrow, _⟩, hB⟩ ⟨Bx, hBx, hX, rfl⟩ hlt
    have hc := hv.cell
    have x0 := cell_of_blk hX 0
    have x1 := cell_of_blk hX 1
    have x2 := cell_of_blk hX 2
    have x3 := cell_of_blk hX 3
    simp at x0 x1 x2 x3
    have hml : ∀ u ∈ Ky.enc x, u.oneCell' = true := kK.one x
    gi_wp2_with (gi_at_builtin; refine wpListIn_append_own _ rfl _ _ 57 rfl w.heap.size 47 i0 (.agg #[.int .i64 0, .int .i64 0, .int .i64 0, .string ByteArray.empty]) 4 40 Tryz.underlying57 hi hz0 hz1 hz2 rfl (by decide) _ _ _ rfl (hrow.alloc _) ⟨W.heap.size, 0, none⟩ 1 1 (Ky.enc x) rfl rfl (cell_four_new _ _ _ _ _ _) hml (by unfold maxLen; omega) (by omega) (by have := hB.size; simp; omega) ?_; intro v' w1 hown' hgrow _; obtain ⟨g', cap', rfl⟩ := ownsRow_succ hown'; obtain ⟨hv1, hv2, hr2, hk2, hb2⟩ := hv.appended (by decide) hrow hB.size (Nat.le_refl _) hown' hgrow; have hc1 := hv1.cell; have hf1 := hv1.frozen)
    have ec : kK.cells (pre ++ [x]) = kK.cells pre ++ Ky.enc x := (RowK.cells_append kK pre [x]).trans (congrArg (kK.cells pre ++ ·) (List.append_nil (Ky.enc x)))
    exact ⟨hk2.from _, hk2.walks, ⟨_, hv2, by rw [ec, List.length_append]; exact hr2, trivial⟩, hB.trans hb2⟩
  case done =>
    rintro D ys W hD hS ⟨⟨v, hv, hrow, _⟩, hB⟩ hK
    have hc := hv.cell
    gi_wp2
    refine ⟨by simp, .inl ⟨_, _, rfl, run_takeDeferred hK, ?_⟩⟩
    exact ⟨_, results_tmp rfl _ _ _, v, ys, rfl, hS, ownsRow_putObj hrow _ hK rfl, hB.trans (belowK_b (w := w) (Nat.le_refl _) W D _ _ (by simp at hD; omega) hK rfl rfl)⟩
  case stop =>
    rintro D c pre W _ _ h _
    exact h.elim
set_option maxHeartbeats 1000000 in
theorem colK_in (F : Fence) (n : Nat) (h0 : F.fn 106) (h1 : F.fn 129) (hro : F.round = none) (hn : 4 ≤ n) (gf : Nat) (lb : Array Value) (h2 : F.fn gf) (eg : ∀ args w, (callFunc gf args).run Tryz.prog w = .ok (.enter gf args) w) (S Sp : List Ky → Prop) (N : Nat) (hN : N ≤ 1000000) (w : World)
    (hseq : SeqStopsK F (n - 1 - 1) Tryz.prog gf lb (fun x : Ky => #[x.val]) KeepsWalks S Sp N w) :
    CallsIn F n Tryz.prog 106 #[.func (.func gf) #[] lb] w fun e W' => ∃ v ks, e = .returned v ∧ S ks ∧ kK.Own W' w.heap.size v ks ∧ Below w.heap.size w W' := by
  have hn1 : 1 ≤ n := by omega
  refine callsIn_of_wp Tryz.func106 rfl h0 ?_ hro
  simp only [Tryz.ntmps106, List.size_toArray, List.length_cons, List.length_nil, Nat.reduceAdd, Nat.reduceSub, Array.replicate_succ, Array.replicate_zero, List.push_toArray, List.append_toArray, List.nil_append, List.cons_append]
  gi_wp2_with (gi_at_call 129; refine (appK_in F (n - 1) h1 hro (by omega) gf lb h2 eg S Sp N hN _ hseq).mono ?_; rintro e w' ⟨v, ks, rfl, hs, ho, hb⟩)
  go_ret
  exact ⟨v, ks, rfl, hs, ho, hb⟩
/-- slices.Collect(maps.Keys(m)), at what was seen -/
theorem colKS_any (Bm b nn : Nat) (f : Lit → Option Value) (hN : nn ≤ 1000000) (w : World) (hBm : Bm < w.heap.size) (hm : w.cell? ⟨Bm, 0, none⟩ = some (.map (some b))) (hmap : mapR w Tryz.prog 47 b nn f) :
    Calls Tryz.prog 106 #[.func (.func 108) #[] #[.pointer (some ⟨Bm, 0, none⟩)]] w fun e W' => ∃ v ks, e = .returned v ∧ KsOf f nn ks ∧ kK.Own W' w.heap.size v ks ∧ Below w.heap.size w W' :=
  (callsIn_wide (n := 4)).1 (colK_in _ 4 trivial trivial rfl (by omega) 108 _ trivial (enters_of Tryz.func108 (by kernel_rfl) rfl) _ _ nn hN w (keysS_stops _ _ trivial rfl (by omega) Bm b nn f w hBm hm hmap))
theorem keysS_any (mb : Option Nat) (w : World) : Calls Tryz.prog 83 #[.map mb] w fun e w' => e = .returned (.func (.func 108) #[] #[.pointer (some ⟨w.heap.size, 0, none⟩)]) ∧ w' = w.alloc (.cells #[.map mb] 106) :=
  (callsIn_wide (n := 4)).1 (keysS_in _ 4 trivial rfl mb w)
/-- .., at what would be written -/
theorem colKT_any (Bm b nn : Nat) (f : Lit → Option Value) (hN : nn ≤ 1000000) (w : World) (hBm : Bm < w.heap.size) (hm : w.cell? ⟨Bm, 0, none⟩ = some (.map (some b))) (hmap : mapR w Tryz.prog 47 b nn f) :
    Calls Tryz.prog 106 #[.func (.func 107) #[] #[.pointer (some ⟨Bm, 0, none⟩)]] w fun e W' => ∃ v ks, e = .returned v ∧ KsOf f nn ks ∧ kK.Own W' w.heap.size v ks ∧ Below w.heap.size w W' :=
  (callsIn_wide (n := 4)).1 (colK_in _ 4 trivial trivial rfl (by omega) 107 _ trivial (enters_of Tryz.func107 (by kernel_rfl) rfl) _ _ nn hN w (keysT_stops _ _ trivial rfl (by omega) Bm b nn f w hBm hm hmap))
theorem keysT_any (mb : Option Nat) (w : World) : Calls Tryz.prog 82 #[.map mb] w fun e w' => e = .returned (.func (.func 107) #[] #[.pointer (some ⟨w.heap.size, 0, none⟩)]) ∧ w' = w.alloc (.cells #[.map mb] 107) :=
  (callsIn_wide (n := 4)).1 (keysT_in _ 4 trivial rfl mb w)
end Go.Proofs.YtkhkdedjffkhdaaGreat
