/- maps.Keys at two map types: the iterator. Conditions: each contract's own premises. -/
import Derived.Test.YtcghgnncmnoalaaKq1
namespace Go.Proofs.Ytcghgnncmnoalaa
open Go.RowKit Go.Maps

attribute [local go_sem] Oper.semAt_some

set_option maxRecDepth 100000 in
set_option maxHeartbeats 2000000 in
/-- the closure of maps.Keys, whatever the rounds do that leave maps and iterators alone -/
theorem keys1S_in (F : Fence) (n : Nat) (hf : F.fn 137) (hro : F.round = none) (hn : 1 ≤ n) (l Bm b nn : Nat) (f : Lit → Option Value) (J Jx : List Ky → World → Prop)
    (hY : ∀ pre x W, J pre W → pre.length < nn → YieldAt F (n - 1) Try.prog l #[x.val] W fun e W' => (e = .returned (.bool true) ∧ J (pre ++ [x]) W' ∧ KeepsWalks W W') ∨ (e = .returned (.bool false) ∧ Jx (pre ++ [x]) W'))
    (W : World) (hJ : AbidesFrom W.heap.size J) (hm : W.cell? ⟨Bm, 0, none⟩ = some (.map (some b))) (hmap : mapR W Try.prog 62 b nn f) (h0 : J [] W) :
    CallsIn F n Try.prog 137 #[.func (.yield l) #[] #[], .pointer (some ⟨Bm, 0, none⟩)] W fun e W' => (∃ v, e = .returned v) ∧
      ((∃ ks, KsOf f nn ks ∧ J ks W') ∨ (∃ pre : List Ky, pre.Nodup ∧ Jx pre W')) := by
  obtain ⟨D0, hown, hsz, hhas, hat0⟩ := hmap.open'
  refine callsIn_of_wp Try.func137 rfl hf ?_ hro
  simp only [Try.ntmps137, List.size_toArray, List.length_cons, List.length_nil, Nat.reduceAdd, Nat.reduceSub, Array.replicate_succ, Array.replicate_zero, List.push_toArray, List.append_toArray, List.nil_append, List.cons_append]
  gi_wp2_with (first
    | (gi_at_range; refine wpListIn_range_own _ rfl _ 153 rfl 62 64 lawKey Try.underlying153 _ b nn _ rfl hown ?_; intro w0 hrg0 hg0 hs0)
    | gi_in)
  go_frame
  gi_loopw [3] (fun _ wr => ∃ (left : Lit → Bool) (cnt : Nat) (ks : List Ky), wr.ranges Try.prog 62 rawElem b W.heap.size nn D0 left cnt ∧ ks.length + cnt ≤ nn ∧ ColK f left ks ∧ J ks wr)
    (fun _ wr => wr.rangeLeft b W.heap.size)
  case atStart =>
    exact ⟨_, _, [], hrg0, by rw [hsz]; simp, ColK.start hhas, hJ [] W w0 none h0 hg0 (fun r e => by cases e)⟩
  case round =>
    obtain ⟨left, cnt, ks, hrg, hcs, hC, hJs⟩ := hrel
    gi_wp2_with (first
      | (gi_at_next; refine wpListIn_next_ranges _ rfl _ rfl 62 lawKey rawElem Ky.val id (fun key kl hk => by obtain ⟨x, _, hx, _⟩ := keyK_inv hk; exact ⟨x, hx⟩) (fun v _ _ => ⟨v, rfl⟩) b W.heap.size nn _ _ _ rfl hrg ?_ ?_)
      | gi_in)
    · intro hc0 hl0
      gi_wp2
      go_end0
      exact ⟨⟨_, rfl⟩, .inl ⟨ks, hC.end hl0 (by omega), hJs⟩⟩
    · intro x c kl yd yp w2 cnt2 hkey hlk hv hat hrg2 hlt hg2 hs2 hen
      obtain ⟨x', hxo, ex, rfl⟩ := keyK_inv hkey
      obtain rfl : x = x' := Ky.val_inj ex
      have hyd : yd = .held c := by
        simp only [rawElem, Option.some.injEq, Prod.mk.injEq] at hv
        exact hv.1.symm
      have hfx : (f x.lit).isSome = true := by
        rw [hat0 x.lit c (lawKey.key (keyK hxo)) (fun z => by rw [hat z]; exact hyd)]
        rfl
      have hJ2 : J ks w2 := hJ ks wr w2 (some W.heap.size) hJs hg2 (fun r e => by cases e; exact ⟨Nat.le_refl _, hrg.iter_walk⟩)
      have hJ4 : J ks (w2.alloc (.cells #[.int .i64 x.kind, .int .i64 x.a, .int .i64 x.b, .string x.s] 62)) := hJ ks w2 _ none hJ2 (World.grownBy_alloc _ _ _) (fun r e => by cases e)
      have hrg4 := hrg2.of_walks (KeepsWalks.alloc w2 (.cells #[.int .i64 x.kind, .int .i64 x.a, .int .i64 x.b, .string x.s] 62))
      obtain ⟨fn, tmps, assign, body, hy, hR⟩ := hY ks x _ hJ4 (by omega)
      have hC2 := hC.step hxo hfx hlk
      unfold Ky.val at hy hen
      have HC2 := Lib.hid hC2
      have HRG4 := Lib.hid hrg4
      clear hs2 hat hv hkey hlk hyd hfx hJ2 hJ4 hC2 hrg4 hrg2 hg2 ex
      unfold Ky.val
      gi_wp2
      refine hR.mono ?_
      rintro e W3 (⟨rfl, hJ3, hk3⟩ | ⟨rfl, hJx3⟩)
      · gi_wp2
        have hrg3 := HRG4.out.of_walks hk3
        go_roundw
        case rel => exact ⟨_, cnt2, ks ++ [x], hrg3, by simp; omega, HC2.out, hJ3⟩
        case measure => rw [hrg3.left_eq, hrg.left_eq]; exact hlt
      · gi_wp2
        refine bodyPost_ret (results_none rfl _ _ _) rfl ?_
        exact ⟨⟨_, rfl⟩, .inr ⟨ks ++ [x], HC2.out.1, hJx3⟩⟩
set_option maxHeartbeats 1000000 in
/-- maps.Keys -/
theorem keysS_in (F : Fence) (n : Nat) (hf : F.fn 104) (hro : F.round = none) (mb : Option Nat) (w : World) :
    CallsIn F n Try.prog 104 #[.map mb] w fun e w' => e = .returned (.func (.func 137) #[] #[.pointer (some ⟨w.heap.size, 0, none⟩)]) ∧ w' = w.alloc (.cells #[.map mb] 153) := by
  refine callsIn_of_wp Try.func104 rfl hf ?_ hro
  simp only [Try.ntmps104, List.size_toArray, List.length_cons, List.length_nil, Nat.reduceAdd, Nat.reduceSub, Array.replicate_succ, Array.replicate_zero, List.push_toArray, List.append_toArray, List.nil_append, List.cons_append]
  gi_wp2
  go_ret
  exact ⟨rfl, rfl⟩
/-- what maps.Keys hands back gives all keys, in some order -/
theorem keysS_stops (F : Fence) (n : Nat) (hf : F.fn 137) (hro : F.round = none) (hn : 1 ≤ n) (Bm b nn : Nat) (f : Lit → Option Value) (w : World) (hBm : Bm < w.heap.size) (hm : w.cell? ⟨Bm, 0, none⟩ = some (.map (some b))) (hmap : mapR w Try.prog 62 b nn f) :
    SeqStopsK F n Try.prog 137 #[.pointer (some ⟨Bm, 0, none⟩)] (fun x : Ky => #[x.val]) KeepsWalks (KsOf f nn) (fun pre => pre.Nodup) nn w := fun l J Jx W hW hJ _ hY h0 =>
  keys1S_in F n hf hro hn l Bm b nn f J Jx hY W hJ ((hW.cell (p := ⟨Bm, 0, none⟩) hBm).trans hm) (hmap.of_block (hW.block b hmap.lt)) h0
set_option maxRecDepth 100000 in
set_option maxHeartbeats 2000000 in
/-- the closure of maps.Keys, whatever the rounds do that leave maps and iterators alone -/
theorem keys1T_in (F : Fence) (n : Nat) (hf : F.fn 141) (hro : F.round = none) (hn : 1 ≤ n) (l Bm b nn : Nat) (f : Lit → Option Value) (J Jx : List Ky → World → Prop)
    (hY : ∀ pre x W, J pre W → pre.length < nn → YieldAt F (n - 1) Try.prog l #[x.val] W fun e W' => (e = .returned (.bool true) ∧ J (pre ++ [x]) W' ∧ KeepsWalks W W') ∨ (e = .returned (.bool false) ∧ Jx (pre ++ [x]) W'))
    (W : World) (hJ : AbidesFrom W.heap.size J) (hm : W.cell? ⟨Bm, 0, none⟩ = some (.map (some b))) (hmap : mapR W Try.prog 62 b nn f) (h0 : J [] W) :
    CallsIn F n Try.prog 141 #[.func (.yield l) #[] #[], .pointer (some ⟨Bm, 0, none⟩)] W fun e W' => (∃ v, e = .returned v) ∧
      ((∃ ks, KsOf f nn ks ∧ J ks W') ∨ (∃ pre : List Ky, pre.Nodup ∧ Jx pre W')) := by
  obtain ⟨D0, hown, hsz, hhas, hat0⟩ := hmap.open'
  refine callsIn_of_wp Try.func141 rfl hf ?_ hro
  simp only [Try.ntmps141, List.size_toArray, List.length_cons, List.length_nil, Nat.reduceAdd, Nat.reduceSub, Array.replicate_succ, Array.replicate_zero, List.push_toArray, List.append_toArray, List.nil_append, List.cons_append]
  gi_wp2_with (first
    | (gi_at_range; refine wpListIn_range_own _ rfl _ 154 rfl 62 159 lawKey Try.underlying154 _ b nn _ rfl hown ?_; intro w0 hrg0 hg0 hs0)
    | gi_in)
  go_frame
  gi_loopw [3] (fun _ wr => ∃ (left : Lit → Bool) (cnt : Nat) (ks : List Ky), wr.ranges Try.prog 62 rawElem b W.heap.size nn D0 left cnt ∧ ks.length + cnt ≤ nn ∧ ColK f left ks ∧ J ks wr)
    (fun _ wr => wr.rangeLeft b W.heap.size)
  case atStart =>
    exact ⟨_, _, [], hrg0, by rw [hsz]; simp, ColK.start hhas, hJ [] W w0 none h0 hg0 (fun r e => by cases e)⟩
  case round =>
    obtain ⟨left, cnt, ks, hrg, hcs, hC, hJs⟩ := hrel
    gi_wp2_with (first
      | (gi_at_next; refine wpListIn_next_ranges _ rfl _ rfl 62 lawKey rawElem Ky.val id (fun key kl hk => by obtain ⟨x, _, hx, _⟩ := keyK_inv hk; exact ⟨x, hx⟩) (fun v _ _ => ⟨v, rfl⟩) b W.heap.size nn _ _ _ rfl hrg ?_ ?_)
      | gi_in)
    · intro hc0 hl0
      gi_wp2
      go_end0
      exact ⟨⟨_, rfl⟩, .inl ⟨ks, hC.end hl0 (by omega), hJs⟩⟩
    · intro x c kl yd yp w2 cnt2 hkey hlk hv hat hrg2 hlt hg2 hs2 hen
      obtain ⟨x', hxo, ex, rfl⟩ := keyK_inv hkey
      obtain rfl : x = x' := Ky.val_inj ex
      have hyd : yd = .held c := by
        simp only [rawElem, Option.some.injEq, Prod.mk.injEq] at hv
        exact hv.1.symm
      have hfx : (f x.lit).isSome = true := by
        rw [hat0 x.lit c (lawKey.key (keyK hxo)) (fun z => by rw [hat z]; exact hyd)]
        rfl
      have hJ2 : J ks w2 := hJ ks wr w2 (some W.heap.size) hJs hg2 (fun r e => by cases e; exact ⟨Nat.le_refl _, hrg.iter_walk⟩)
      have hJ4 : J ks (w2.alloc (.cells #[.int .i64 x.kind, .int .i64 x.a, .int .i64 x.b, .string x.s] 62)) := hJ ks w2 _ none hJ2 (World.grownBy_alloc _ _ _) (fun r e => by cases e)
      have hrg4 := hrg2.of_walks (KeepsWalks.alloc w2 (.cells #[.int .i64 x.kind, .int .i64 x.a, .int .i64 x.b, .string x.s] 62))
      obtain ⟨fn, tmps, assign, body, hy, hR⟩ := hY ks x _ hJ4 (by omega)
      have hC2 := hC.step hxo hfx hlk
      unfold Ky.val at hy hen
      have HC2 := Lib.hid hC2
      have HRG4 := Lib.hid hrg4
      clear hs2 hat hv hkey hlk hyd hfx hJ2 hJ4 hC2 hrg4 hrg2 hg2 ex
      unfold Ky.val
      gi_wp2
      refine hR.mono ?_
      rintro e W3 (⟨rfl, hJ3, hk3⟩ | ⟨rfl, hJx3⟩)
      · gi_wp2
        have hrg3 := HRG4.out.of_walks hk3
        go_roundw
        case rel => exact ⟨_, cnt2, ks ++ [x], hrg3, by simp; omega, HC2.out, hJ3⟩
        case measure => rw [hrg3.left_eq, hrg.left_eq]; exact hlt
      · gi_wp2
        refine bodyPost_ret (results_none rfl _ _ _) rfl ?_
        exact ⟨⟨_, rfl⟩, .inr ⟨ks ++ [x], HC2.out.1, hJx3⟩⟩
set_option maxHeartbeats 1000000 in
/-- maps.Keys -/
theorem keysT_in (F : Fence) (n : Nat) (hf : F.fn 106) (hro : F.round = none) (mb : Option Nat) (w : World) :
    CallsIn F n Try.prog 106 #[.map mb] w fun e w' => e = .returned (.func (.func 141) #[] #[.pointer (some ⟨w.heap.size, 0, none⟩)]) ∧ w' = w.alloc (.cells #[.map mb] 154) := by
  refine callsIn_of_wp Try.func106 rfl hf ?_ hro
  simp only [Try.ntmps106, List.size_toArray, List.length_cons, List.length_nil, Nat.reduceAdd, Nat.reduceSub, Array.replicate_succ, Array.replicate_zero, List.push_toArray, List.append_toArray, List.nil_append, List.cons_append]
  gi_wp2
  go_ret
  exact ⟨rfl, rfl⟩
/-- what maps.Keys hands back gives all keys, in some order -/
theorem keysT_stops (F : Fence) (n : Nat) (hf : F.fn 141) (hro : F.round = none) (hn : 1 ≤ n) (Bm b nn : Nat) (f : Lit → Option Value) (w : World) (hBm : Bm < w.heap.size) (hm : w.cell? ⟨Bm, 0, none⟩ = some (.map (some b))) (hmap : mapR w Try.prog 62 b nn f) :
    SeqStopsK F n Try.prog 141 #[.pointer (some ⟨Bm, 0, none⟩)] (fun x : Ky => #[x.val]) KeepsWalks (KsOf f nn) (fun pre => pre.Nodup) nn w := fun l J Jx W hW hJ _ hY h0 =>
  keys1T_in F n hf hro hn l Bm b nn f J Jx hY W hJ ((hW.cell (p := ⟨Bm, 0, none⟩) hBm).trans hm) (hmap.of_block (hW.block b hmap.lt)) h0
end Go.Proofs.Ytcghgnncmnoalaa
