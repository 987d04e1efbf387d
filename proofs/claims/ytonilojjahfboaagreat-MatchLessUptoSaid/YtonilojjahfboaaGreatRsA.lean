/- Reference 17: a walk in memory; Pay, of any number of steps, there and here. Conditions: each contract's own premises. Reference 16: Ends; reference 17: put. Conditions: each contract's own premises. (Printed by gen_rs2.py.) Reference 17: Is. Conditions: the contract's own premises. -/
import Derived.Test.YtonilojjahfboaaGreatWkA
import Derived.Test.YtonilojjahfboaaGreatRgA
import Derived.Test.YtonilojjahfboaaGreatRg3
import Derived.Deep.Cut
import Derived.Test.YtonilojjahfboaaGreatFdA
import Derived.Test.YtonilojjahfboaaGreatGfA
import Derived.BigQuiet
namespace Go.Proofs.YtonilojjahfboaaGreat
open Go.RowKit Go.Maps

theorem payS_none (n : Nat) : payS none n = none := rfl
theorem payS_lt {k n : Nat} (h : k < n) : payS (some k) n = none := by
  show (if n ≤ k then some (k - n) else none) = _
  rw [if_neg (by omega)]
theorem payS_le {k n : Nat} (h : n ≤ k) : payS (some k) n = some (k - n) := by
  show (if n ≤ k then some (k - n) else none) = _
  rw [if_pos h]
theorem WkS.takeN {w0 w : World} {wb gb k m : Nat} (h : WkS w0 w wb gb (some k)) (x : Int) (hx : x = ((k - m : Nat) : Int)) : WkS w0 (w.setCell ⟨wb, 1, none⟩ (.int .i64 x)) wb gb (some (k - m)) ∧ Chg w (w.setCell ⟨wb, 1, none⟩ (.int .i64 x)) (fun i => i = wb) := by
  subst hx
  refine ⟨⟨h.bel.setCell h.new _, h.new, ?_, by have := h.small; simp at *; omega⟩, (Chg.refl w (fun i => i = wb)).setCell (p := ⟨wb, 1, none⟩) (fun _ => rfl) _⟩
  rw [blk_setCell h.blk _]
  simp
/-- what a call that pays n leaves -/
def PyPostN (w0 w : World) (wb gb : Nat) (st : Option Nat) (n : Nat) (e : Ending) (w' : World) : Prop := e = .returned (.bool (payS st n).isSome) ∧ WkS w0 w' wb gb (payS st n) ∧ Chg w w' (fun i => i = wb)
set_option maxRecDepth 100000 in
set_option maxHeartbeats 1000000 in
theorem payN_any (w0 w : World) (wb gb : Nat) (st : Option Nat) (n : Int) (h : WkS w0 w wb gb st) : Calls Tryz.prog 55 #[.pointer (some ⟨wb, 0, none⟩), .int .i64 n] w (PyPostN w0 w wb gb st n.toNat) := by
  obtain ⟨_, c1, c2, f1, f2⟩ := h.cells
  have hl := h.lt
  have HH := Lib.hid h
  have hs := h.small
  clear h
  cases st with
  | none =>
    have HE : Hid (payS none n.toNat = none) := Lib.hid rfl
    simp at c1 c2
    clear hs
    go_enter Tryz.func55, Tryz.ntmps55
    go_wp2
    go_ret
    unfold PyPostN
    rw [HE.out]
    exact ⟨rfl, HH.out.spend.1, HH.out.spend.2⟩
  | some k =>
    simp at c1 c2 hs
    by_cases hk : (k : Int) < n
    · have t1 : decide ((k : Int) < n) = true := decide_eq_true hk
      have HE : Hid (payS (some k) n.toNat = none) := Lib.hid (payS_lt (by omega))
      clear hk hs
      go_enter Tryz.func55, Tryz.ntmps55
      go_wp2
      go_ret
      unfold PyPostN
      rw [HE.out]
      exact ⟨rfl, HH.out.spend.1, HH.out.spend.2⟩
    · have t1 : decide ((k : Int) < n) = false := decide_eq_false hk
      have HE : Hid (payS (some k) n.toNat = some (k - n.toNat)) := Lib.hid (payS_le (by omega))
      obtain ⟨m, hm⟩ : ∃ m, max n 0 = m := ⟨_, rfl⟩
      have HM : Hid (m = (n.toNat : Int)) := Lib.hid (by omega)
      have w1 : IntKind.i64.wrap ((k : Int) - m) = (k : Int) - m := IntWalk.i64_in _ (by have := HM.out; omega)
      have HS : Hid ((k : Int) - m = ((k - n.toNat : Nat) : Int)) := Lib.hid (by have := HM.out; omega)
      clear hk hs
      go_enter Tryz.func55, Tryz.ntmps55
      go_wp2
      go_ret
      unfold PyPostN
      rw [HE.out]
      exact ⟨rfl, (HH.out.takeN _ HS.out).1, (HH.out.takeN _ HS.out).2⟩
/-- the reference's walk in memory, made since w0 -/
structure WrS (w0 w : World) (rb qb : Nat) (st : Option Nat) : Prop where
  bel : Below w0.heap.size w0 w
  new : w0.heap.size ≤ rb
  blk : w.heap[rb]? = some (.cells #[.pointer (some ⟨qb, 0, none⟩), .int .i64 ((st.getD 0 : Nat) : Int), .bool st.isNone] 109 (0, 0))
  small : st.getD 0 ≤ 1073741824
section
variable {w0 w w' : World} {rb qb k : Nat} {st : Option Nat}
theorem WrS.lt (h : WrS w0 w rb qb st) : rb < w.heap.size := (Array.getElem?_eq_some_iff.1 h.blk).1
theorem WrS.below (h : WrS w0 w rb qb st) (hb : Below w.heap.size w w') : WrS w0 w' rb qb st := ⟨h.bel.trans (hb.mono h.bel.size), h.new, (hb.block _ h.lt).trans h.blk, h.small⟩
theorem WrS.chg {S : Nat → Prop} (h : WrS w0 w rb qb st) (hc : Chg w w' S) (hn : ¬ S rb) (hS : ∀ j, S j → w0.heap.size ≤ j) : WrS w0 w' rb qb st :=
  ⟨⟨hc.os.trans h.bel.os, hc.tape.trans h.bel.tape, hc.output.trans h.bel.output, Nat.le_trans h.bel.size hc.size, fun k hk => (hc.block k (Nat.lt_of_lt_of_le hk h.bel.size) (fun hs => by have := hS k hs; omega)).trans (h.bel.block k hk)⟩, h.new, (hc.block _ h.lt hn).trans h.blk, h.small⟩
theorem WrS.cells (h : WrS w0 w rb qb st) : w.cell? ⟨rb, 0, none⟩ = some (.pointer (some ⟨qb, 0, none⟩)) ∧ w.cell? ⟨rb, 1, none⟩ = some (.int .i64 ((st.getD 0 : Nat) : Int)) ∧ w.cell? ⟨rb, 2, none⟩ = some (.bool st.isNone) ∧ w.frozen? ⟨rb, 1, none⟩ = false ∧ w.frozen? ⟨rb, 2, none⟩ = false :=
  ⟨by rw [cell_of_blk h.blk]; rfl, by rw [cell_of_blk h.blk]; rfl, by rw [cell_of_blk h.blk]; rfl, frozen_of_blk h.blk _, frozen_of_blk h.blk _⟩
theorem WrS.spend (h : WrS w0 w rb qb st) : WrS w0 ((w.setCell ⟨rb, 2, none⟩ (.bool true)).setCell ⟨rb, 1, none⟩ (.int .i64 0)) rb qb none ∧ Chg w ((w.setCell ⟨rb, 2, none⟩ (.bool true)).setCell ⟨rb, 1, none⟩ (.int .i64 0)) (fun i => i = rb) := by
  refine ⟨⟨(h.bel.setCell h.new _).setCell h.new _, h.new, ?_, Nat.zero_le _⟩, ((Chg.refl w (fun i => i = rb)).setCell (p := ⟨rb, 2, none⟩) (fun _ => rfl) _).setCell (p := ⟨rb, 1, none⟩) (fun _ => rfl) _⟩
  rw [blk_setCell (blk_setCell h.blk _) _]
  simp
theorem WrS.takeN (h : WrS w0 w rb qb (some k)) (m : Nat) (x : Int) (hx : x = ((k - m : Nat) : Int)) : WrS w0 (w.setCell ⟨rb, 1, none⟩ (.int .i64 x)) rb qb (some (k - m)) ∧ Chg w (w.setCell ⟨rb, 1, none⟩ (.int .i64 x)) (fun i => i = rb) := by
  subst hx
  refine ⟨⟨h.bel.setCell h.new _, h.new, ?_, by have := h.small; simp at *; omega⟩, (Chg.refl w (fun i => i = rb)).setCell (p := ⟨rb, 1, none⟩) (fun _ => rfl) _⟩
  rw [blk_setCell h.blk _]
  simp
end
def PrPost (w0 w : World) (rb qb : Nat) (st : Option Nat) (n : Nat) (e : Ending) (w' : World) : Prop := e = .returned (.bool (payS st n).isSome) ∧ WrS w0 w' rb qb (payS st n) ∧ Chg w w' (fun i => i = rb)
set_option maxRecDepth 100000 in
set_option maxHeartbeats 1000000 in
theorem r17pay_any (w0 w : World) (rb qb : Nat) (st : Option Nat) (n : Int) (h : WrS w0 w rb qb st) : Calls Tryz.prog 120 #[.pointer (some ⟨rb, 0, none⟩), .int .i64 n] w (PrPost w0 w rb qb st n.toNat) := by
  obtain ⟨_, c1, c2, f1, f2⟩ := h.cells
  have hl := h.lt
  have HH := Lib.hid h
  have hs := h.small
  clear h
  obtain ⟨m, hm⟩ : ∃ m, m = n.toNat := ⟨_, rfl⟩
  have HM := Lib.hid hm
  rw [← hm]
  clear hm
  by_cases h0 : n < 0
  · have t0 : decide (n < 0) = true := decide_eq_true h0
    obtain rfl : m = 0 := by have := HM.out; omega
    clear h0
    cases st with
    | none =>
      have HE : Hid (payS none 0 = none) := Lib.hid rfl
      simp at c1 c2
      clear hs
      go_enter Tryz.func120, Tryz.ntmps120
      go_wp2
      go_ret
      unfold PrPost
      rw [HE.out]
      exact ⟨rfl, HH.out.spend.1, HH.out.spend.2⟩
    | some k =>
      simp at c1 c2 hs
      have HE : Hid (payS (some k) 0 = some (k - 0)) := Lib.hid (payS_le (by omega))
      have t1 : decide ((k : Int) < 0) = false := decide_eq_false (by omega)
      have w1 : IntKind.i64.wrap ((k : Int)) = (k : Int) := IntWalk.i64_in _ (by omega)
      clear hs
      go_enter Tryz.func120, Tryz.ntmps120
      go_wp2
      go_ret
      unfold PrPost
      rw [HE.out]
      exact ⟨rfl, (HH.out.takeN 0 _ (by simp)).1, (HH.out.takeN 0 _ (by simp)).2⟩
  · have t0 : decide (n < 0) = false := decide_eq_false h0
    obtain rfl : n = (m : Int) := by have := HM.out; omega
    clear h0 HM
    cases st with
    | none =>
      have HE : Hid (payS none m = none) := Lib.hid rfl
      simp at c1 c2
      clear hs
      go_enter Tryz.func120, Tryz.ntmps120
      go_wp2
      go_ret
      unfold PrPost
      rw [HE.out]
      exact ⟨rfl, HH.out.spend.1, HH.out.spend.2⟩
    | some k =>
      simp at c1 c2 hs
      by_cases hk : k < m
      · have t1 : decide (k < m) = true := decide_eq_true hk
        have HE : Hid (payS (some k) m = none) := Lib.hid (payS_lt hk)
        clear hk hs
        go_enter Tryz.func120, Tryz.ntmps120
        go_wp2
        go_ret
        unfold PrPost
        rw [HE.out]
        exact ⟨rfl, HH.out.spend.1, HH.out.spend.2⟩
      · have t1 : decide (k < m) = false := decide_eq_false hk
        have HE : Hid (payS (some k) m = some (k - m)) := Lib.hid (payS_le (by omega))
        have w1 : IntKind.i64.wrap ((k : Int) - (m : Int)) = (k : Int) - (m : Int) := IntWalk.i64_in _ (by omega)
        have HS : Hid ((k : Int) - (m : Int) = ((k - m : Nat) : Int)) := Lib.hid (by omega)
        clear hk hs
        go_enter Tryz.func120, Tryz.ntmps120
        go_wp2
        go_ret
        unfold PrPost
        rw [HE.out]
        exact ⟨rfl, (HH.out.takeN m _ HS.out).1, (HH.out.takeN m _ HS.out).2⟩
end Go.Proofs.YtonilojjahfboaaGreat
namespace Go.Proofs.YtonilojjahfboaaGreat
open Go.RowKit Go.Maps

theorem idsE_take {EL : List Er} {j : Nat} {x : Er} (p : Eg → Bool) (hx : EL[j]? = some x) : idsE ((EL.take (j + 1)).map Er.e) p = idsE ((EL.take j).map Er.e) p ++ (if p x.e then [x.e.id] else []) := by
  unfold idsE
  rw [List.take_add_one, hx, List.map_append, List.filter_append, List.map_append]
  congr 1
  cases h : p x.e <;> simp [h]
set_option maxRecDepth 100000 in
set_option maxHeartbeats 2000000 in
theorem r16ends_any {w : World} {rb : Nat} {EL : List Er} {ea : Option Addr} {ec : Nat} (c1 : w.cell? ⟨rb, 1, none⟩ = some (.slice ea EL.length ec)) (hv : kEr.V w ea EL) (hl : EL.length ≤ 1000000) (n : Int) (out : Bool) :
    Calls Tryz.prog 121 #[.pointer (some ⟨rb, 0, none⟩), .int .i64 n, .bool out] w (EsPost (EL.map Er.e) (sideP out n) w) := by
  obtain ⟨m, hm⟩ : ∃ m, m = EL.length := ⟨_, rfl⟩
  have hz := block_lt_of_cell c1
  have HC : Hid (∀ u, Below w.heap.size w u → u.cell? ⟨rb, 1, none⟩ = some (.slice ea m ec) ∧ rb < u.heap.size ∧ kEr.V u ea EL) := Lib.hid (fun u hu => ⟨by rw [hm]; exact below_cell hu 1 hz c1, Nat.lt_of_lt_of_le hz hu.size, hv.below hu⟩)
  have HM : Hid (m = EL.length ∧ m ≤ 1000000) := Lib.hid ⟨hm, by omega⟩
  clear c1 hv hl hm hz
  go_enter Tryz.func121, Tryz.ntmps121
  go_wp2_with fail
  go_loopw [7, 8] (fun v i wr => ∃ j : Nat, i = .int .i64 j ∧ j ≤ m ∧ kI.Own wr w.heap.size v (idsE ((EL.take j).map Er.e) (sideP out n)) ∧ Below w.heap.size w wr) (fun _ i _ => m - (intOf i).toNat)
  case atStart => exact ⟨0, rfl, Nat.zero_le _, RowK.Own.nil kI _ _, Below.refl _ _⟩
  case round =>
    obtain ⟨j, rfl, hj, hO, hB⟩ := hrel
    have hml := HM.out.2
    obtain ⟨oa, oc, rfl⟩ := hO.shape
    obtain ⟨acc, hacc⟩ : ∃ l, l = idsE ((EL.take j).map Er.e) (sideP out n) := ⟨_, rfl⟩
    rw [← hacc] at hO ⊢
    have HAC := Lib.hid hacc
    have HO := Lib.hid hO
    have HB := Lib.hid hB
    have HAL : Hid (acc.length ≤ j) := Lib.hid (by rw [hacc]; refine Nat.le_trans (idsE_len _ _) ?_; rw [List.length_map, List.length_take]; omega)
    obtain ⟨d1, hz, hv⟩ := HC.out wr hB
    clear hacc hO hB
    by_cases hlt : j < m
    · have hne : EL ≠ [] := fun e => by have := HM.out; rw [e] at this; simp at this; omega
      obtain ⟨b, off, rfl, hat⟩ := hv hne
      obtain ⟨x, hx⟩ : ∃ x, EL[j]? = some x := ⟨_, List.getElem?_eq_getElem (by have := HM.out; omega)⟩
      have x0 := hat.cells j x hx 0 _ rfl
      have x2 := hat.cells j x hx 2 _ rfl
      have x3 := hat.cells j x hx 3 _ rfl
      simp [kEr] at x0 x2 x3
      have hbl := hat.lt
      have HX := Lib.hid hx
      have HT := Lib.hid (idsE_take (sideP out n) hx)
      clear hat hx hne hv
      have HXV := Lib.hid (int_new wr wr.heap.size rfl x.e.id)
      have HOA := Lib.hid (HO.out.alloc (.cells #[.int .i64 x.e.id] 3))
      have HZW := Lib.hid HB.out.size
      cases out
      · by_cases he : x.e.to = n
        · have t1 : (x.e.to == n) = true := by simpa using he
          have HP : Hid (acc ++ [x.e.id] = idsE ((EL.take (j + 1)).map Er.e) (sideP false n)) := Lib.hid (by rw [HT.out, ← HAC.out, if_pos (show sideP false n x.e = true from t1)])
          clear he
          go_wp2_with (first | (at_builtin; refine RowK.wpList_app (k := kI) rfl (.tmp 47) (.tmp 56) rfl rfl HOA.out (some ⟨wr.heap.size, 0, none⟩) 1 [x.e.id] 1 rfl rfl HXV.out (fun e => by cases e) (by have := HAL.out; simp; omega) (by have := HZW.out; simp; omega) ?_; intro v8 w8 hA; have HA8 := Lib.hid hA; clear hA) | fail)
          obtain ⟨oA, gA, kA⟩ := HA8.out
          refine ⟨⟨j + 1, by simp, hlt, by rw [← HP.out]; exact oA, (HB.out.alloc HZW.out _).grown gA (by have := HZW.out; simp; omega) (fun q hq => (HOA.out.lt q hq).1)⟩, by simp [intOf]; omega⟩
        · have t1 : (x.e.to == n) = false := by simpa using he
          have HP : Hid (acc = idsE ((EL.take (j + 1)).map Er.e) (sideP false n)) := Lib.hid (by rw [HT.out, ← HAC.out, if_neg (show ¬ sideP false n x.e = true from by unfold sideP inP; simpa using he), List.append_nil])
          clear he
          go_wp2_with fail
          exact ⟨⟨j + 1, by simp, hlt, by rw [← HP.out]; exact HO.out, HB.out⟩, by simp [intOf]; omega⟩
      · by_cases he : x.e.fr = n
        · have t1 : (x.e.fr == n) = true := by simpa using he
          have HP : Hid (acc ++ [x.e.id] = idsE ((EL.take (j + 1)).map Er.e) (sideP true n)) := Lib.hid (by rw [HT.out, ← HAC.out, if_pos (show sideP true n x.e = true from t1)])
          clear he
          go_wp2_with (first | (at_builtin; refine RowK.wpList_app (k := kI) rfl (.tmp 47) (.tmp 56) rfl rfl HOA.out (some ⟨wr.heap.size, 0, none⟩) 1 [x.e.id] 1 rfl rfl HXV.out (fun e => by cases e) (by have := HAL.out; simp; omega) (by have := HZW.out; simp; omega) ?_; intro v8 w8 hA; have HA8 := Lib.hid hA; clear hA) | fail)
          obtain ⟨oA, gA, kA⟩ := HA8.out
          refine ⟨⟨j + 1, by simp, hlt, by rw [← HP.out]; exact oA, (HB.out.alloc HZW.out _).grown gA (by have := HZW.out; simp; omega) (fun q hq => (HOA.out.lt q hq).1)⟩, by simp [intOf]; omega⟩
        · have t1 : (x.e.fr == n) = false := by simpa using he
          have HP : Hid (acc = idsE ((EL.take (j + 1)).map Er.e) (sideP true n)) := Lib.hid (by rw [HT.out, ← HAC.out, if_neg (show ¬ sideP true n x.e = true from by unfold sideP outP; simpa using he), List.append_nil])
          clear he
          go_wp2_with fail
          exact ⟨⟨j + 1, by simp, hlt, by rw [← HP.out]; exact HO.out, HB.out⟩, by simp [intOf]; omega⟩
    · have hjm : j = m := by omega
      have tj : decide ((j : Int) < (m : Int)) = false := decide_eq_false (by omega)
      have HEND : Hid (acc = idsE (EL.map Er.e) (sideP out n)) := Lib.hid (by rw [HAC.out, List.take_of_length_le (by rw [← HM.out.1]; omega)])
      clear hjm
      go_wp2_with fail
      go_ret
      exact ⟨_, rfl, by rw [← HEND.out]; exact HO.out, HB.out⟩

theorem put_same {l : List Int} {j : Nat} {x : Int} (h : IncI l) (hx : l[j]? = some x) : setI (l ++ [x]) = l :=
  incI_uniq (setI_spec _).1 h (fun k => by
    rw [(setI_spec _).2, List.mem_append, List.mem_singleton]
    exact ⟨fun e => e.elim id (fun e => by rw [e]; exact List.mem_of_getElem? hx), .inl⟩)
theorem put_new {l : List Int} {j : Nat} {x : Int} (h : IncI l) (h1 : ∀ i y, i < j → l[i]? = some y → y < x) (h2 : ∀ y, l[j]? = some y → x < y) : setI (l ++ [x]) = l.take j ++ [x] ++ l.drop j := by
  have hd : ∀ y ∈ l.drop j, x < y := by
    intro y hy
    obtain ⟨i, hi⟩ := List.getElem?_of_mem hy
    rw [List.getElem?_drop] at hi
    cases i with
    | zero => exact h2 y hi
    | succ i =>
      have hl := (List.getElem?_eq_some_iff.1 hi).1
      have h3 := h2 _ (List.getElem?_eq_getElem (show j < l.length by omega))
      have h4 := List.pairwise_iff_getElem.1 h j (j + (i + 1)) (by omega) hl (by omega)
      have h5 := (List.getElem?_eq_some_iff.1 hi).2
      omega
  have ht : ∀ y ∈ l.take j, y < x := by
    intro y hy
    obtain ⟨i, hi⟩ := List.getElem?_of_mem hy
    have hl := (List.getElem?_eq_some_iff.1 hi).1
    rw [List.length_take] at hl
    rw [List.getElem?_take_of_lt (by omega)] at hi
    exact h1 i y (by omega) hi
  refine incI_uniq (setI_spec _).1 ?_ (fun k => ?_)
  · show List.Pairwise (· < ·) _
    rw [List.pairwise_append, List.pairwise_append]
    refine ⟨⟨h.sublist (List.take_sublist _ _), List.pairwise_singleton _ _, fun a ha b hb => ?_⟩, h.sublist (List.drop_sublist _ _), fun a ha b hb => ?_⟩
    · rw [List.mem_singleton.1 hb]; exact ht a ha
    · rcases List.mem_append.1 ha with ha | ha
      · have := ht a ha; have := hd b hb; omega
      · rw [List.mem_singleton.1 ha]; exact hd b hb
  · rw [(setI_spec _).2]
    simp only [List.mem_append, List.mem_singleton]
    constructor
    · rintro (e | e)
      · rw [← List.take_append_drop j l] at e
        rcases List.mem_append.1 e with e | e
        · exact .inl (.inl e)
        · exact .inr e
      · exact .inl (.inr e)
    · rintro ((e | e) | e)
      · exact .inl (List.mem_of_mem_take e)
      · exact .inr e
      · exact .inl (List.mem_of_mem_drop e)
theorem put_set (L : List Int) (x : Int) : setI (setI L ++ [x]) = setI (L ++ [x]) :=
  incI_uniq (setI_spec _).1 (setI_spec _).1 (fun k => by
    rw [(setI_spec _).2, (setI_spec _).2, List.mem_append, List.mem_append, (setI_spec _).2])
def PtPost (w : World) (B : Nat) (l : List Int) (e : Ending) (w' : World) : Prop := ∃ a c, e = .returned (.slice a l.length c) ∧ kI.Own w' B (.slice a l.length c) l ∧ Below w.heap.size w w'
set_option maxRecDepth 100000 in
set_option maxHeartbeats 2000000 in
theorem r17put_any {w : World} {B cap : Nat} {a : Option Addr} {l : List Int} (h : kI.Own w B (.slice a l.length cap) l) (hi : IncI l) (hl : l.length ≤ 1000000) (x : Int) (hB : B ≤ w.heap.size) :
    Calls Tryz.prog 220 #[.slice a l.length cap, .int .i64 x] w (PtPost w B (setI (l ++ [x]))) := by
  obtain ⟨m, hm⟩ : ∃ m, m = l.length := ⟨_, rfl⟩
  have hcp : l.length ≤ cap := h.cap
  have HM : Hid (m = l.length ∧ m ≤ 1000000 ∧ m ≤ cap) := Lib.hid ⟨hm, by omega, by omega⟩
  have HO := Lib.hid h
  have HI := Lib.hid hi
  have HBB := Lib.hid hB
  rw [← hm]
  clear h hi hl hB hm hcp
  go_enter Tryz.func220, Tryz.ntmps220
  go_wp2_with fail
  go_loopw [5] (fun i wr => ∃ j : Nat, i = .int .i64 j ∧ wr = w ∧ j ≤ m ∧ Hid (∀ i' y, i' < j → l[i']? = some y → y < x)) (fun i _ => m - (intOf i).toNat)
  case atStart => exact ⟨0, rfl, rfl, Nat.zero_le _, Lib.hid (fun _ _ h => absurd h (Nat.not_lt_zero _))⟩
  case round =>
    obtain ⟨j, rfl, rfl, hj, HLT⟩ := hrel
    have hml := HM.out.2.1
    by_cases hlt : j < m
    · have hne : l ≠ [] := fun e => by have := HM.out; rw [e] at this; simp at this; omega
      obtain ⟨b, cp, hbe, _, _, hat⟩ := HO.out.at' hne
      injection hbe with e1 e2 e3
      subst e1
      clear e2 e3
      obtain ⟨y, hy⟩ : ∃ y, l[j]? = some y := ⟨_, List.getElem?_eq_getElem (by have := HM.out; omega)⟩
      have x0 := hat.cells j y hy 0 _ rfl
      simp [kI] at x0
      have hbl := hat.lt
      have HY := Lib.hid hy
      clear hat hy hne
      by_cases he : y < x
      · have HE := Lib.hid he
        have t3 : decide (y < x) = true := decide_eq_true he
        go_wp2_with fail
        refine ⟨⟨j + 1, by simp, trivial, hlt, Lib.hid (fun i' z hi' hz => ?_)⟩, by simp [intOf]; omega⟩
        by_cases e : i' < j
        · exact HLT.out i' z e hz
        · obtain rfl : i' = j := by omega
          rw [HY.out] at hz
          injection hz with hz
          subst hz
          exact HE.out
      · have t3 : decide (y < x) = false := decide_eq_false he
        by_cases hq : y = x
        · have t4 : (y == x) = true := by simpa using hq
          have HS : Hid (setI (l ++ [x]) = l) := Lib.hid (put_same HI.out (by rw [← hq]; exact HY.out))
          clear he hq
          go_wp2_with fail
          go_ret
          unfold PtPost
          rw [HS.out, ← HM.out.1]
          exact ⟨_, cap, rfl, by rw [HM.out.1]; exact HO.out, Below.refl _ _⟩
        · have t4 : (y == x) = false := by simpa using hq
          have HS : Hid (setI (l ++ [x]) = l.take j ++ [x] ++ l.drop j) := Lib.hid (put_new HI.out HLT.out (fun z hz => by rw [HY.out] at hz; injection hz with hz; omega))
          clear he hq
          go_upto_region 7 with fail
          clear t3 t4 x0
          obtain ⟨a1, ha1⟩ : ∃ a1, kI.pfx ((some ⟨b, 0, none⟩) : Option Addr) cap = a1 := ⟨_, rfl⟩
          obtain ⟨a3, ha3⟩ : ∃ a3, kI.sfx ((some ⟨b, 0, none⟩) : Option Addr) cap j = a3 := ⟨_, rfl⟩
          obtain ⟨n3, hn3⟩ : ∃ n3, m - j = n3 := ⟨_, rfl⟩
          obtain ⟨c3, hc3⟩ : ∃ c3, cap - j = c3 := ⟨_, rfl⟩
          have HV1 : Hid (∀ u, Below wr.heap.size wr u → kI.V u a1 (l.take j)) := Lib.hid (fun u hu => by rw [← ha1]; exact ((HO.out.below hu).toV).take j cap)
          have HV3 : Hid (∀ u, Below wr.heap.size wr u → kI.V u a3 (l.drop j)) := Lib.hid (fun u hu => by rw [← ha3]; exact ((HO.out.below hu).toV).drop (by rw [← HM.out.1]; exact HM.out.2.2))
          have HNN1 : Hid (a1 = none → cap = 0) := Lib.hid (fun e => RowK.pfx_none (k := kI) (a := ((some ⟨b, 0, none⟩) : Option Addr)) (fun (ea : ((some ⟨b, 0, none⟩) : Option Addr) = none) => by first | (cases ea; done) | (have := HO.out; rw [ea] at this; exact this.noneCap)) (ha1.trans e))
          have HNN3 : Hid (a3 = none → c3 = 0) := Lib.hid (fun e => by rw [← hc3]; exact RowK.sfx_none (k := kI) (a := ((some ⟨b, 0, none⟩) : Option Addr)) (fun (ea : ((some ⟨b, 0, none⟩) : Option Addr) = none) => by first | (cases ea; done) | (have := HO.out; rw [ea] at this; exact this.noneCap)) (ha3.trans e))
          have HL1 : Hid ((l.take j).length = j) := Lib.hid (by rw [List.length_take]; have := HM.out.1; omega)
          have HL3 : Hid ((l.drop j).length = n3) := Lib.hid (by rw [List.length_drop, ← HM.out.1]; exact hn3)
          have HA1 := Lib.hid ha1
          have HA3 := Lib.hid ha3
          have HN3 := Lib.hid hn3
          have HC3 := Lib.hid hc3
          have hjc : j ≤ cap := Nat.le_trans hj HM.out.2.2
          clear ha1 ha3 hn3 hc3
          go_upto_region 8 with (first | (refine RowK.wpList_pfx (k := kI) (o := ⟨some 37, _, _, _, _, _⟩) rfl (.tmp 35) (.tmp 36) rfl _ m cap j rfl rfl hjc HA1.out ?_) | (at_builtin; refine RowK.wpList_app (k := kI) (B := wr.heap.size) (v := .slice none 0 0) (l := []) rfl (.tmp 34) (.tmp 37) rfl rfl (RowK.Own.nil kI _ _) a1 j (l.take j) cap rfl HL1.out (HV1.out _ (Below.refl _ _)) HNN1.out (by have := HM.out.2.1; rw [HL1.out]; simp; omega) (Nat.le_refl _) ?_; rintro v1 u1 g1; have G1 := Lib.hid g1; clear g1))
          obtain ⟨av1, cv1, hv1⟩ := G1.out.1.shape
          rw [List.nil_append, HL1.out] at hv1
          subst hv1
          have HB1 : Hid (Below wr.heap.size wr u1) := Lib.hid (below_nilR G1.out.2.1)
          have HO1 : Hid (kI.Own u1 wr.heap.size (.slice av1 j cv1) (l.take j)) := Lib.hid G1.out.1
          clear G1
          have HXV := Lib.hid (int_new u1 u1.heap.size rfl x)
          have HO2 := Lib.hid (HO1.out.alloc (.cells #[.int .i64 x] 3))
          have HB2 := Lib.hid (below_then HB1.out (below_box u1 (.cells #[.int .i64 x] 3)))
          go_upto_region 9 with ((at_builtin; refine RowK.wpList_app (k := kI) (B := wr.heap.size) (v := .slice av1 j cv1) (l := l.take j) rfl (.tmp 39) (.tmp 41) rfl rfl HO2.out (some ⟨u1.heap.size, 0, none⟩) 1 [x] 1 rfl rfl HXV.out (fun e => by cases e) (by have := HM.out.2.1; rw [HL1.out]; simp; omega) HB2.out.size ?_; rintro v2 u2 g2; have G2 := Lib.hid g2; clear g2))
          have HB3 : Hid (Below wr.heap.size wr u2) := Lib.hid (HB2.out.trans (below_grownR HO2.out G2.out.2.1 HB2.out.size))
          obtain ⟨av2, cv2, hv2⟩ := G2.out.1.shape
          subst hv2
          obtain ⟨m2, hm2⟩ : ∃ m2, m2 = (l.take j ++ [x]).length := ⟨_, rfl⟩
          rw [← hm2]
          have HO3 : Hid (kI.Own u2 wr.heap.size (.slice av2 m2 cv2) (l.take j ++ [x])) := Lib.hid (by rw [hm2]; exact G2.out.1)
          have HM2 := Lib.hid hm2
          clear hm2 G2
          go_wp2_with (first | (refine RowK.wpList_sfx (k := kI) (o := ⟨some 46, _, _, _, _, _⟩) rfl (.tmp 44) (.tmp 45) rfl _ m cap j rfl rfl hj HA3.out HN3.out HC3.out ?_) | (at_builtin; refine RowK.wpList_app (k := kI) (B := wr.heap.size) (v := .slice av2 m2 cv2) (l := l.take j ++ [x]) rfl (.tmp 43) (.tmp 46) rfl rfl HO3.out a3 n3 (l.drop j) c3 rfl HL3.out (HV3.out _ HB3.out) HNN3.out (by have := HM.out.1; have := HM.out.2.1; rw [List.length_append, HL1.out, HL3.out]; have := HN3.out; simp; omega) HB3.out.size ?_; rintro v3 u3 g3; have G3 := Lib.hid g3; clear g3))
          have HB4 : Hid (Below wr.heap.size wr u3) := Lib.hid (HB3.out.trans (below_grownR HO3.out G3.out.2.1 HB3.out.size))
          obtain ⟨av3, cv3, hv3⟩ := G3.out.1.shape
          subst hv3
          go_ret
          unfold PtPost
          rw [HS.out]
          exact ⟨av3, cv3, rfl, G3.out.1.mono HBB.out, HB4.out⟩
    · have tj : decide ((j : Int) < (m : Int)) = false := decide_eq_false (by omega)
      have HS : Hid (setI (l ++ [x]) = l.take j ++ [x] ++ l.drop j) := Lib.hid (put_new HI.out HLT.out (fun z hz => by have := (List.getElem?_eq_some_iff.1 hz).1; have := HM.out; omega))
      go_upto_region 7 with fail
      clear tj
      obtain ⟨a1, ha1⟩ : ∃ a1, kI.pfx (a : Option Addr) cap = a1 := ⟨_, rfl⟩
      obtain ⟨a3, ha3⟩ : ∃ a3, kI.sfx (a : Option Addr) cap j = a3 := ⟨_, rfl⟩
      obtain ⟨n3, hn3⟩ : ∃ n3, m - j = n3 := ⟨_, rfl⟩
      obtain ⟨c3, hc3⟩ : ∃ c3, cap - j = c3 := ⟨_, rfl⟩
      have HV1 : Hid (∀ u, Below wr.heap.size wr u → kI.V u a1 (l.take j)) := Lib.hid (fun u hu => by rw [← ha1]; exact ((HO.out.below hu).toV).take j cap)
      have HV3 : Hid (∀ u, Below wr.heap.size wr u → kI.V u a3 (l.drop j)) := Lib.hid (fun u hu => by rw [← ha3]; exact ((HO.out.below hu).toV).drop (by rw [← HM.out.1]; exact HM.out.2.2))
      have HNN1 : Hid (a1 = none → cap = 0) := Lib.hid (fun e => RowK.pfx_none (k := kI) (a := (a : Option Addr)) (fun (ea : (a : Option Addr) = none) => by first | (cases ea; done) | (have := HO.out; rw [ea] at this; exact this.noneCap)) (ha1.trans e))
      have HNN3 : Hid (a3 = none → c3 = 0) := Lib.hid (fun e => by rw [← hc3]; exact RowK.sfx_none (k := kI) (a := (a : Option Addr)) (fun (ea : (a : Option Addr) = none) => by first | (cases ea; done) | (have := HO.out; rw [ea] at this; exact this.noneCap)) (ha3.trans e))
      have HL1 : Hid ((l.take j).length = j) := Lib.hid (by rw [List.length_take]; have := HM.out.1; omega)
      have HL3 : Hid ((l.drop j).length = n3) := Lib.hid (by rw [List.length_drop, ← HM.out.1]; exact hn3)
      have HA1 := Lib.hid ha1
      have HA3 := Lib.hid ha3
      have HN3 := Lib.hid hn3
      have HC3 := Lib.hid hc3
      have hjc : j ≤ cap := Nat.le_trans hj HM.out.2.2
      clear ha1 ha3 hn3 hc3
      go_upto_region 8 with (first | (refine RowK.wpList_pfx (k := kI) (o := ⟨some 37, _, _, _, _, _⟩) rfl (.tmp 35) (.tmp 36) rfl _ m cap j rfl rfl hjc HA1.out ?_) | (at_builtin; refine RowK.wpList_app (k := kI) (B := wr.heap.size) (v := .slice none 0 0) (l := []) rfl (.tmp 34) (.tmp 37) rfl rfl (RowK.Own.nil kI _ _) a1 j (l.take j) cap rfl HL1.out (HV1.out _ (Below.refl _ _)) HNN1.out (by have := HM.out.2.1; rw [HL1.out]; simp; omega) (Nat.le_refl _) ?_; rintro v1 u1 g1; have G1 := Lib.hid g1; clear g1))
      obtain ⟨av1, cv1, hv1⟩ := G1.out.1.shape
      rw [List.nil_append, HL1.out] at hv1
      subst hv1
      have HB1 : Hid (Below wr.heap.size wr u1) := Lib.hid (below_nilR G1.out.2.1)
      have HO1 : Hid (kI.Own u1 wr.heap.size (.slice av1 j cv1) (l.take j)) := Lib.hid G1.out.1
      clear G1
      have HXV := Lib.hid (int_new u1 u1.heap.size rfl x)
      have HO2 := Lib.hid (HO1.out.alloc (.cells #[.int .i64 x] 3))
      have HB2 := Lib.hid (below_then HB1.out (below_box u1 (.cells #[.int .i64 x] 3)))
      go_upto_region 9 with ((at_builtin; refine RowK.wpList_app (k := kI) (B := wr.heap.size) (v := .slice av1 j cv1) (l := l.take j) rfl (.tmp 39) (.tmp 41) rfl rfl HO2.out (some ⟨u1.heap.size, 0, none⟩) 1 [x] 1 rfl rfl HXV.out (fun e => by cases e) (by have := HM.out.2.1; rw [HL1.out]; simp; omega) HB2.out.size ?_; rintro v2 u2 g2; have G2 := Lib.hid g2; clear g2))
      have HB3 : Hid (Below wr.heap.size wr u2) := Lib.hid (HB2.out.trans (below_grownR HO2.out G2.out.2.1 HB2.out.size))
      obtain ⟨av2, cv2, hv2⟩ := G2.out.1.shape
      subst hv2
      obtain ⟨m2, hm2⟩ : ∃ m2, m2 = (l.take j ++ [x]).length := ⟨_, rfl⟩
      rw [← hm2]
      have HO3 : Hid (kI.Own u2 wr.heap.size (.slice av2 m2 cv2) (l.take j ++ [x])) := Lib.hid (by rw [hm2]; exact G2.out.1)
      have HM2 := Lib.hid hm2
      clear hm2 G2
      go_wp2_with (first | (refine RowK.wpList_sfx (k := kI) (o := ⟨some 46, _, _, _, _, _⟩) rfl (.tmp 44) (.tmp 45) rfl _ m cap j rfl rfl hj HA3.out HN3.out HC3.out ?_) | (at_builtin; refine RowK.wpList_app (k := kI) (B := wr.heap.size) (v := .slice av2 m2 cv2) (l := l.take j ++ [x]) rfl (.tmp 43) (.tmp 46) rfl rfl HO3.out a3 n3 (l.drop j) c3 rfl HL3.out (HV3.out _ HB3.out) HNN3.out (by have := HM.out.1; have := HM.out.2.1; rw [List.length_append, HL1.out, HL3.out]; have := HN3.out; simp; omega) HB3.out.size ?_; rintro v3 u3 g3; have G3 := Lib.hid g3; clear g3))
      have HB4 : Hid (Below wr.heap.size wr u3) := Lib.hid (HB3.out.trans (below_grownR HO3.out G3.out.2.1 HB3.out.size))
      obtain ⟨av3, cv3, hv3⟩ := G3.out.1.shape
      subst hv3
      go_ret
      unfold PtPost
      rw [HS.out]
      exact ⟨av3, cv3, rfl, G3.out.1.mono HBB.out, HB4.out⟩
end Go.Proofs.YtonilojjahfboaaGreat
namespace Go.Proofs.YtonilojjahfboaaGreat
open Go.RowKit Go.Maps

/-- does a vertex of a graph fit a node? -/
def isN (V : List Vt) (lab key : ByteArray) (low high : Vl) (id : Int) : Bool := match findB Vt.id V id with
  | some y => fitP lab key low high y
  | none => false
theorem fitP_eq (lab key : ByteArray) (low high : Vl) (y : Vt) : fitP lab key low high y = (decide (y.label = lab) && (key.toList.isEmpty || (vq y key && (decide (0 ≤ (vo y key).cmp low) && decide ((vo y key).cmp high ≤ 0))))) := by
  unfold fitP outS
  congr 2
  cases vq y key
  · simp
  · have e1 : decide ((vo y key).cmp low < 0) = !decide (0 ≤ (vo y key).cmp low) := by rw [← decide_not]; exact decide_eq_decide.2 (by omega)
    have e2 : decide (0 < (vo y key).cmp high) = !decide ((vo y key).cmp high ≤ 0) := by rw [← decide_not]; exact decide_eq_decide.2 (by omega)
    rw [e1, e2]
    simp
/-- a reference graph whose rows lie anywhere -/
structure RgV (w : World) (rb : Nat) (VL : List Vr) : Prop where
  ex : ∃ va vc, w.cell? ⟨rb, 0, none⟩ = some (.slice va VL.length vc) ∧ kVr.V w va VL
  ps : ∀ x ∈ VL, PsV w x.a x.v.ps ∧ x.v.ps.length ≤ 1000000
  len : VL.length ≤ 1000000
  so : SortB Vt.id (VL.map Vr.v)
theorem RgV.below {w w' : World} {rb : Nat} {VL : List Vr} (h : RgV w rb VL) (hb : Below w.heap.size w w') : RgV w' rb VL := by
  obtain ⟨⟨va, vc, c0, hv⟩, h2, h3, h4⟩ := h
  exact ⟨⟨va, vc, below_cell hb 0 (block_lt_of_cell c0) c0, hv.below hb⟩, fun x hx => ⟨(h2 x hx).1.below hb, (h2 x hx).2⟩, h3, h4⟩
theorem isN_none {V : List Vt} {lab key : ByteArray} {low high : Vl} {id : Int} (h : ∀ y ∈ V, y.id ≠ id) : isN V lab key low high id = false := by
  unfold isN; rw [findB_none.2 h]
theorem isN_some {V : List Vt} (hs : SortB Vt.id V) {lab key : ByteArray} {low high : Vl} {y : Vt} (hy : y ∈ V) : isN V lab key low high y.id = fitP lab key low high y := by
  unfold isN; rw [findB_mem hs hy]
set_option maxRecDepth 100000 in
set_option maxHeartbeats 4000000 in
theorem r17is_any {w : World} {rb : Nat} {VL : List Vr} (h : RgV w rb VL) (lab key : ByteArray) (low high : Vl) (id : Int) :
    Calls Tryz.prog 125 #[.pointer (some ⟨rb, 0, none⟩), .agg #[.string lab, .string key, .int .i64 low.kind, .int .i64 low.n, .string low.s, .int .i64 high.kind, .int .i64 high.n, .string high.s], .int .i64 id] w fun e w' => e = .returned (.bool (isN (VL.map Vr.v) lab key low high id)) ∧ Below w.heap.size w w' := by
  obtain ⟨W, hW⟩ : ∃ W, W = w.alloc (.cells #[.string lab, .string key, .int .i64 low.kind, .int .i64 low.n, .string low.s, .int .i64 high.kind, .int .i64 high.n, .string high.s] 100) := ⟨_, rfl⟩
  have hBW : Below w.heap.size w W := by rw [hW]; exact below_box w _
  obtain ⟨nb, hnb⟩ : ∃ b, b = w.heap.size := ⟨_, rfl⟩
  have eN : W.heap[nb]? = some (.cells #[.string lab, .string key, .int .i64 low.kind, .int .i64 low.n, .string low.s, .int .i64 high.kind, .int .i64 high.n, .string high.s] 100 (0, 0)) := by rw [hW, hnb]; exact heap_new w _
  have HNB : Hid (∀ u, Below W.heap.size W u → u.cell? ⟨nb, 0, none⟩ = some (.string lab) ∧ u.cell? ⟨nb, 1, none⟩ = some (.string key) ∧ u.cell? ⟨nb, 2, none⟩ = some (.int .i64 low.kind) ∧ u.cell? ⟨nb, 3, none⟩ = some (.int .i64 low.n) ∧ u.cell? ⟨nb, 4, none⟩ = some (.string low.s) ∧ u.cell? ⟨nb, 5, none⟩ = some (.int .i64 high.kind) ∧ u.cell? ⟨nb, 6, none⟩ = some (.int .i64 high.n) ∧ u.cell? ⟨nb, 7, none⟩ = some (.string high.s) ∧ nb < u.heap.size) := Lib.hid (fun u hu => by
    have e := (hu.block _ (Array.getElem?_eq_some_iff.1 eN).1).trans eN
    exact ⟨by rw [cell_of_blk e]; rfl, by rw [cell_of_blk e]; rfl, by rw [cell_of_blk e]; rfl, by rw [cell_of_blk e]; rfl, by rw [cell_of_blk e]; rfl, by rw [cell_of_blk e]; rfl, by rw [cell_of_blk e]; rfl, by rw [cell_of_blk e]; rfl, (Array.getElem?_eq_some_iff.1 e).1⟩)
  have hG := h.below hBW
  have HG := Lib.hid hG
  obtain ⟨⟨va, vc, c0, hv⟩, _, hlen, hso⟩ := hG
  have h16 := r16V_at c0 hv hlen id
  obtain ⟨n, hn⟩ : ∃ n, n = VL.length := ⟨_, rfl⟩
  have HN : Hid (n = VL.length ∧ n ≤ 1000000) := Lib.hid ⟨hn, by omega⟩
  rw [← hn] at c0
  have HV := Lib.hid hv
  have H16 := Lib.hid h16
  have HSO := Lib.hid hso
  have hzr := block_lt_of_cell c0
  have HBW := Lib.hid hBW
  have HW := Lib.hid hW
  have HNBE := Lib.hid hnb
  obtain ⟨p0, p1, p2, p3, p4, p5, p6, p7, pl⟩ := HNB.out W (Below.refl _ _)
  obtain ⟨b, hb⟩ : ∃ b, b = isN (VL.map Vr.v) lab key low high id := ⟨_, rfl⟩
  have HBV := Lib.hid hb
  rw [← hb]
  clear h hW hBW hnb eN hlen hso h16 hn hv hb
  go_enter Tryz.func125, Tryz.ntmps125
  go_upto_region 1 with fail
  rw [← HW.out, ← HNBE.out]
  go_upto_region 2 with (go_at_call 66; (with_reducible refine H16.out.mono ?_); rintro e w1 ⟨rfl, r, rfl, hr⟩; have HR := Lib.hid hr; clear hr)
  rcases HR.out with ⟨rfl, hno⟩ | ⟨i, x, rfl, hx, hxi⟩
  · have HF : Hid (b = false) := Lib.hid (by rw [HBV.out]; exact isN_none (fun y hy => by obtain ⟨z, hz, rfl⟩ := List.mem_map.1 hy; exact hno z hz))
    clear hno HR
    go_quiet (fail)
    go_wp2_with fail
    go_ret
    exact ⟨by (rw [HF.out]; first | done | rfl), HBW.out.trans ((below_drewN (Below.refl _ _) _).mono HBW.out.size)⟩
  · subst hxi
    have hmem : x.v ∈ VL.map Vr.v := List.mem_map.2 ⟨x, List.mem_of_getElem? hx, rfl⟩
    have HE : Hid (b = (decide (x.v.label = lab) && (key.toList.isEmpty || (vq x.v key && (decide (0 ≤ (vo x.v key).cmp low) && decide ((vo x.v key).cmp high ≤ 0)))))) := Lib.hid (by rw [HBV.out, isN_some HSO.out hmem, fitP_eq])
    have HRV : Hid (∀ u, Below W.heap.size W u → Calls Tryz.prog 59 #[.pointer (some ⟨rb, 0, none⟩), .int .i64 x.v.id, .string key] u (V1Post u (vo x.v key) (vq x.v key))) := Lib.hid (fun u hu => by
      obtain ⟨⟨va', vc', c0', hv'⟩, hps, hl', hs'⟩ := HG.out.below hu
      exact r16value_any c0' hv' hl' hs' hx (hps x (List.mem_of_getElem? hx)).1 (hps x (List.mem_of_getElem? hx)).2 key)
    have HVO : Hid ((vo x.v key).Ok) := Lib.hid (vo_ok (fun p hp => by
      have := (HG.out.ps x (List.mem_of_getElem? hx)).1
      obtain ⟨_, _, _, hat⟩ := this (fun e => by rw [e] at hp; cases hp)
      exact hat.ok p hp) key)
    obtain ⟨bb, off, rfl, hat⟩ := HV.out (fun e => by rw [e] at hx; simp at hx)
    obtain ⟨k0, k1, k2⟩ := kVr_cells hat hx
    have hbl := hat.lt
    have hil : i < n := by have := (List.getElem?_eq_some_iff.1 hx).1; have := HN.out.1; omega
    have hzi : (i : Int) < (n : Int) := by omega
    have n1 : decide ((i : Int) < 0) = false := decide_eq_false (by omega)
    obtain ⟨yl, hyl⟩ : ∃ l, l = x.v.label := ⟨_, rfl⟩
    rw [← hyl] at k1
    have HYL := Lib.hid hyl
    obtain ⟨tl, htl⟩ : ∃ t, decide (yl = lab) = t := ⟨_, rfl⟩
    have hne : (yl.toList == lab.toList) = tl := by rw [← htl]; exact bytes_eqB _ _
    rw [← hyl, htl] at HE
    clear hyl htl hmem hat hx HR k0 k2
    cases tl
    · have HF : Hid (b = false) := Lib.hid (by rw [HE.out]; rfl)
      go_quiet (fail)
      go_wp2_with fail
      go_ret
      exact ⟨by (rw [HF.out]; first | done | rfl), HBW.out.trans ((below_drewN (Below.refl _ _) _).mono HBW.out.size)⟩
    · by_cases hk : key.toList = []
      · have t1 : key.toList.isEmpty = true := by simp [hk]
        have HF : Hid (b = true) := Lib.hid (by rw [HE.out, t1]; rfl)
        clear hk
        go_quiet (fail)
        go_wp2_with fail
        go_ret
        exact ⟨by (rw [HF.out]; first | done | rfl), HBW.out.trans ((below_drewN (Below.refl _ _) _).mono HBW.out.size)⟩
      · have t1 : key.toList.isEmpty = false := by simpa using hk
        rw [t1] at HE
        clear hk
        obtain ⟨⟨vk, vn, vs⟩, hvx⟩ : ∃ v, vo x.v key = v := ⟨_, rfl⟩
        obtain ⟨q, hq⟩ : ∃ v, vq x.v key = v := ⟨_, rfl⟩
        rw [hvx] at HVO
        rw [hvx, hq] at HRV HE
        unfold V1Post at HRV
        clear hvx hq
        go_quiet (fail)
        go_upto_region 7 with (go_at_call 59; (refine (HRV.out _ (below_drewN (Below.refl _ _) _)).mono ?_); rintro e w1 ⟨rfl, b1⟩; have HB1 := Lib.hid (below_then (below_drewN (Below.refl W.heap.size W) _) b1); clear b1)
        obtain ⟨U, hU⟩ : ∃ U, U = w1.alloc (.cells #[.int .i64 vk, .int .i64 vn, .string vs] 98) := ⟨_, rfl⟩
        obtain ⟨xb, hxb⟩ : ∃ b, b = w1.heap.size := ⟨_, rfl⟩
        have hBU : Below W.heap.size W U := below_then HB1.out (by rw [hU]; exact below_box _ _)
        have eX : U.heap[xb]? = some (.cells #[.int .i64 vk, .int .i64 vn, .string vs] 98 (0, 0)) := by rw [hU, hxb]; exact heap_new _ _
        rw [← hU, ← hxb]
        have HXB : Hid (∀ u, Below U.heap.size U u → u.cell? ⟨xb, 0, none⟩ = some (.int .i64 vk) ∧ u.cell? ⟨xb, 1, none⟩ = some (.int .i64 vn) ∧ u.cell? ⟨xb, 2, none⟩ = some (.string vs) ∧ xb < u.heap.size) := Lib.hid (fun u hu => by
          have e := (hu.block _ (Array.getElem?_eq_some_iff.1 eX).1).trans eX
          exact ⟨by rw [cell_of_blk e]; rfl, by rw [cell_of_blk e]; rfl, by rw [cell_of_blk e]; rfl, (Array.getElem?_eq_some_iff.1 e).1⟩)
        have HBU := Lib.hid hBU
        clear hU hxb hBU eX p0 p1 p2 p3 p4 p5 p6 p7 pl c0 hzr k1 hbl n1 hzi hil hne t1
        obtain ⟨p0, p1, p2, p3, p4, p5, p6, p7, pl⟩ := HNB.out U HBU.out
        obtain ⟨x0, x1, x2, xl⟩ := HXB.out U (Below.refl _ _)
        have hfin : ∀ u, Below U.heap.size U u → Below w.heap.size w u := fun u hu => HBW.out.trans ((below_then HBU.out hu).mono HBW.out.size)
        have HFIN := Lib.hid hfin
        clear hfin
        cases q
        · have HF : Hid (b = false) := Lib.hid (by rw [HE.out]; rfl)
          go_wp2_with fail
          go_ret
          exact ⟨by (rw [HF.out]; first | done | rfl), HFIN.out _ (Below.refl _ _)⟩
        · have HC1a : ∀ u, Calls Tryz.prog 60 #[.agg #[.int .i64 vk, .int .i64 vn, .string vs], .agg #[.int .i64 low.kind, .int .i64 low.n, .string low.s]] u fun e w' => e = .returned (.int .i64 (Vl.cmp ⟨vk, vn, vs⟩ low)) ∧ Below u.heap.size u w' := fun u => r2compare_any ⟨vk, vn, vs⟩ low u HVO.out
          have HC2a : ∀ u, Calls Tryz.prog 60 #[.agg #[.int .i64 vk, .int .i64 vn, .string vs], .agg #[.int .i64 high.kind, .int .i64 high.n, .string high.s]] u fun e w' => e = .returned (.int .i64 (Vl.cmp ⟨vk, vn, vs⟩ high)) ∧ Below u.heap.size u w' := fun u => r2compare_any ⟨vk, vn, vs⟩ high u HVO.out
          obtain ⟨c1, hc1⟩ : ∃ c, Vl.cmp ⟨vk, vn, vs⟩ low = c := ⟨_, rfl⟩
          obtain ⟨c2, hc2⟩ : ∃ c, Vl.cmp ⟨vk, vn, vs⟩ high = c := ⟨_, rfl⟩
          obtain ⟨d1, hd1⟩ : ∃ p, decide (0 ≤ c1) = p := ⟨_, rfl⟩
          obtain ⟨d2, hd2⟩ : ∃ p, decide (c2 ≤ 0) = p := ⟨_, rfl⟩
          rw [hc1, hc2, hd1, hd2] at HE
          simp only [hc1] at HC1a
          simp only [hc2] at HC2a
          have HC1 := Lib.hid HC1a
          have HC2 := Lib.hid HC2a
          clear HC1a HC2a hc1 hc2
          go_wp2_with fail
          refine (HC1.out U).mono ?_
          rintro e u1 ⟨rfl, bu1⟩
          have HBU1 := Lib.hid bu1
          obtain ⟨p0', p1', p2', p3', p4', p5', p6', p7', pl'⟩ := HNB.out u1 (below_then HBU.out bu1)
          obtain ⟨x0', x1', x2', xl'⟩ := HXB.out u1 bu1
          clear bu1
          cases d1
          · have HF : Hid (b = false) := Lib.hid (by rw [HE.out]; rfl)
            go_wp2_with fail
            go_ret
            exact ⟨by (rw [HF.out]; first | done | rfl), HFIN.out _ HBU1.out⟩
          · have HF : Hid (b = d2) := Lib.hid (by rw [HE.out]; rfl)
            go_wp2_with fail
            refine (HC2.out u1).mono ?_
            rintro e u2 ⟨rfl, bu2⟩
            have HBU2 := Lib.hid (below_then HBU1.out bu2)
            clear bu2
            go_wp2_with fail
            go_ret
            exact ⟨by (rw [HF.out]; first | done | rfl), HFIN.out _ HBU2.out⟩
end Go.Proofs.YtonilojjahfboaaGreat
