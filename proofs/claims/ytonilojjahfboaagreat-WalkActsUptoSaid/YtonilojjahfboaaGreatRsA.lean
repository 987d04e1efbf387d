/- Reference 17: a walk in memory; Pay, of any number of steps, there and here. Conditions: each contract's own premises. Reference 16: Ends; reference 17: put. Conditions: each contract's own premises. (Printed by gen_rs2.py.) Reference 17: Is. Conditions: the contract's own premises. Reference 17: Next. Conditions: the contract's own premises. Reference 17: Find. Conditions: the contract's own premises. A walk: Edge and Vertex, with what is known of the properties. Conditions: each contract's own premises. (Printed by gen_wk6.py out of Wk1.) A walk: Fits. Conditions: the contract's own premises. -/
import Derived.Test.YtonilojjahfboaaGreatWkA
import Derived.Test.YtonilojjahfboaaGreatRgA
import Derived.Test.YtonilojjahfboaaGreatRg3
import Derived.Deep.Cut
import Derived.Test.YtonilojjahfboaaGreatFdA
import Derived.Test.YtonilojjahfboaaGreatGfA
import Derived.BigQuiet
import Derived.Deep.RegionHeld3
import Derived.Deep.CutRange
namespace Go.Proofs.YtonilojjahfboaaGreat
open Go.RowKit Go.Maps

theorem payS_none (n : Nat) : payS none n = none := rfl
theorem payS_lt {k n : Nat} (h : k < n) : payS (some k) n = none := by
  show (if n ≤ k then some (k - n) else none) = _
  rw [if_neg (by omega)]
theorem payS_le {k n : Nat} (h : n ≤ k) : payS (some k) n = some (k - n) := by
  show (if n ≤ k then some (k - n) else none) = _
  rw [if_pos h]
theorem WkS.takeN {w0 w : World} {wb gb k m : Nat} (h : WkS w0 w wb gb (some k)) (x : Int) (hx : x = ((k - m : Nat) : Int)) : WkS w0 (w.setCell ⟨wb, 1, none⟩ (.int .i64 x)) wb gb (some (k - m)) ∧ Chg w (w.setCell ⟨wb, 1, none⟩ (.int .i64 x)) (fun i => i = wb) := by
  subst hx
  refine ⟨⟨h.bel.setCell h.new _, h.new, ?_, by have := h.small; simp at *; omega⟩, (Chg.refl w (fun i => i = wb)).setCell (p := ⟨wb, 1, none⟩) (fun _ => rfl) _⟩
  rw [blk_setCell h.blk _]
  simp
/-- what a call that pays n leaves -/
def PyPostN (w0 w : World) (wb gb : Nat) (st : Option Nat) (n : Nat) (e : Ending) (w' : World) : Prop := e = .returned (.bool (payS st n).isSome) ∧ WkS w0 w' wb gb (payS st n) ∧ Chg w w' (fun i => i = wb)
set_option maxRecDepth 100000 in
set_option maxHeartbeats 1000000 in
theorem payN_any (w0 w : World) (wb gb : Nat) (st : Option Nat) (n : Int) (h : WkS w0 w wb gb st) : Calls Tryz.prog 55 #[.pointer (some ⟨wb, 0, none⟩), .int .i64 n] w (PyPostN w0 w wb gb st n.toNat) := by
  obtain ⟨_, c1, c2, f1, f2⟩ := h.cells
  have hl := h.lt
  have HH := Lib.hid h
  have hs := h.small
  clear h
  cases st with
  | none =>
    have HE : Hid (payS none n.toNat = none) := Lib.hid rfl
    simp at c1 c2
    clear hs
    go_enter Tryz.func55, Tryz.ntmps55
    go_wp2
    go_ret
    unfold PyPostN
    rw [HE.out]
    exact ⟨rfl, HH.out.spend.1, HH.out.spend.2⟩
  | some k =>
    simp at c1 c2 hs
    by_cases hk : (k : Int) < n
    · have t1 : decide ((k : Int) < n) = true := decide_eq_true hk
      have HE : Hid (payS (some k) n.toNat = none) := Lib.hid (payS_lt (by omega))
      clear hk hs
      go_enter Tryz.func55, Tryz.ntmps55
      go_wp2
      go_ret
      unfold PyPostN
      rw [HE.out]
      exact ⟨rfl, HH.out.spend.1, HH.out.spend.2⟩
    · have t1 : decide ((k : Int) < n) = false := decide_eq_false hk
      have HE : Hid (payS (some k) n.toNat = some (k - n.toNat)) := Lib.hid (payS_le (by omega))
      obtain ⟨m, hm⟩ : ∃ m, max n 0 = m := ⟨_, rfl⟩
      have HM : Hid (m = (n.toNat : Int)) := Lib.hid (by omega)
      have w1 : IntKind.i64.wrap ((k : Int) - m) = (k : Int) - m := IntWalk.i64_in _ (by have := HM.out; omega)
      have HS : Hid ((k : Int) - m = ((k - n.toNat : Nat) : Int)) := Lib.hid (by have := HM.out; omega)
      clear hk hs
      go_enter Tryz.func55, Tryz.ntmps55
      go_wp2
      go_ret
      unfold PyPostN
      rw [HE.out]
      exact ⟨rfl, (HH.out.takeN _ HS.out).1, (HH.out.takeN _ HS.out).2⟩
/-- the reference's walk in memory, made since w0 -/
structure WrS (w0 w : World) (rb qb : Nat) (st : Option Nat) : Prop where
  bel : Below w0.heap.size w0 w
  new : w0.heap.size ≤ rb
  blk : w.heap[rb]? = some (.cells #[.pointer (some ⟨qb, 0, none⟩), .int .i64 ((st.getD 0 : Nat) : Int), .bool st.isNone] 109 (0, 0))
  small : st.getD 0 ≤ 1073741824
section
variable {w0 w w' : World} {rb qb k : Nat} {st : Option Nat}
theorem WrS.lt (h : WrS w0 w rb qb st) : rb < w.heap.size := (Array.getElem?_eq_some_iff.1 h.blk).1
theorem WrS.below (h : WrS w0 w rb qb st) (hb : Below w.heap.size w w') : WrS w0 w' rb qb st := ⟨h.bel.trans (hb.mono h.bel.size), h.new, (hb.block _ h.lt).trans h.blk, h.small⟩
theorem WrS.chg {S : Nat → Prop} (h : WrS w0 w rb qb st) (hc : Chg w w' S) (hn : ¬ S rb) (hS : ∀ j, S j → w0.heap.size ≤ j) : WrS w0 w' rb qb st :=
  ⟨⟨hc.os.trans h.bel.os, hc.tape.trans h.bel.tape, hc.output.trans h.bel.output, Nat.le_trans h.bel.size hc.size, fun k hk => (hc.block k (Nat.lt_of_lt_of_le hk h.bel.size) (fun hs => by have := hS k hs; omega)).trans (h.bel.block k hk)⟩, h.new, (hc.block _ h.lt hn).trans h.blk, h.small⟩
theorem WrS.cells (h : WrS w0 w rb qb st) : w.cell? ⟨rb, 0, none⟩ = some (.pointer (some ⟨qb, 0, none⟩)) ∧ w.cell? ⟨rb, 1, none⟩ = some (.int .i64 ((st.getD 0 : Nat) : Int)) ∧ w.cell? ⟨rb, 2, none⟩ = some (.bool st.isNone) ∧ w.frozen? ⟨rb, 1, none⟩ = false ∧ w.frozen? ⟨rb, 2, none⟩ = false :=
  ⟨by rw [cell_of_blk h.blk]; rfl, by rw [cell_of_blk h.blk]; rfl, by rw [cell_of_blk h.blk]; rfl, frozen_of_blk h.blk _, frozen_of_blk h.blk _⟩
theorem WrS.spend (h : WrS w0 w rb qb st) : WrS w0 ((w.setCell ⟨rb, 2, none⟩ (.bool true)).setCell ⟨rb, 1, none⟩ (.int .i64 0)) rb qb none ∧ Chg w ((w.setCell ⟨rb, 2, none⟩ (.bool true)).setCell ⟨rb, 1, none⟩ (.int .i64 0)) (fun i => i = rb) := by
  refine ⟨⟨(h.bel.setCell h.new _).setCell h.new _, h.new, ?_, Nat.zero_le _⟩, ((Chg.refl w (fun i => i = rb)).setCell (p := ⟨rb, 2, none⟩) (fun _ => rfl) _).setCell (p := ⟨rb, 1, none⟩) (fun _ => rfl) _⟩
  rw [blk_setCell (blk_setCell h.blk _) _]
  simp
theorem WrS.takeN (h : WrS w0 w rb qb (some k)) (m : Nat) (x : Int) (hx : x = ((k - m : Nat) : Int)) : WrS w0 (w.setCell ⟨rb, 1, none⟩ (.int .i64 x)) rb qb (some (k - m)) ∧ Chg w (w.setCell ⟨rb, 1, none⟩ (.int .i64 x)) (fun i => i = rb) := by
  subst hx
  refine ⟨⟨h.bel.setCell h.new _, h.new, ?_, by have := h.small; simp at *; omega⟩, (Chg.refl w (fun i => i = rb)).setCell (p := ⟨rb, 1, none⟩) (fun _ => rfl) _⟩
  rw [blk_setCell h.blk _]
  simp
end
def PrPost (w0 w : World) (rb qb : Nat) (st : Option Nat) (n : Nat) (e : Ending) (w' : World) : Prop := e = .returned (.bool (payS st n).isSome) ∧ WrS w0 w' rb qb (payS st n) ∧ Chg w w' (fun i => i = rb)
set_option maxRecDepth 100000 in
set_option maxHeartbeats 1000000 in
theorem r17pay_any (w0 w : World) (rb qb : Nat) (st : Option Nat) (n : Int) (h : WrS w0 w rb qb st) : Calls Tryz.prog 120 #[.pointer (some ⟨rb, 0, none⟩), .int .i64 n] w (PrPost w0 w rb qb st n.toNat) := by
  obtain ⟨_, c1, c2, f1, f2⟩ := h.cells
  have hl := h.lt
  have HH := Lib.hid h
  have hs := h.small
  clear h
  obtain ⟨m, hm⟩ : ∃ m, m = n.toNat := ⟨_, rfl⟩
  have HM := Lib.hid hm
  rw [← hm]
  clear hm
  by_cases h0 : n < 0
  · have t0 : decide (n < 0) = true := decide_eq_true h0
    obtain rfl : m = 0 := by have := HM.out; omega
    clear h0
    cases st with
    | none =>
      have HE : Hid (payS none 0 = none) := Lib.hid rfl
      simp at c1 c2
      clear hs
      go_enter Tryz.func120, Tryz.ntmps120
      go_wp2
      go_ret
      unfold PrPost
      rw [HE.out]
      exact ⟨rfl, HH.out.spend.1, HH.out.spend.2⟩
    | some k =>
      simp at c1 c2 hs
      have HE : Hid (payS (some k) 0 = some (k - 0)) := Lib.hid (payS_le (by omega))
      have t1 : decide ((k : Int) < 0) = false := decide_eq_false (by omega)
      have w1 : IntKind.i64.wrap ((k : Int)) = (k : Int) := IntWalk.i64_in _ (by omega)
      clear hs
      go_enter Tryz.func120, Tryz.ntmps120
      go_wp2
      go_ret
      unfold PrPost
      rw [HE.out]
      exact ⟨rfl, (HH.out.takeN 0 _ (by simp)).1, (HH.out.takeN 0 _ (by simp)).2⟩
  · have t0 : decide (n < 0) = false := decide_eq_false h0
    obtain rfl : n = (m : Int) := by have := HM.out; omega
    clear h0 HM
    cases st with
    | none =>
      have HE : Hid (payS none m = none) := Lib.hid rfl
      simp at c1 c2
      clear hs
      go_enter Tryz.func120, Tryz.ntmps120
      go_wp2
      go_ret
      unfold PrPost
      rw [HE.out]
      exact ⟨rfl, HH.out.spend.1, HH.out.spend.2⟩
    | some k =>
      simp at c1 c2 hs
      by_cases hk : k < m
      · have t1 : decide (k < m) = true := decide_eq_true hk
        have HE : Hid (payS (some k) m = none) := Lib.hid (payS_lt hk)
        clear hk hs
        go_enter Tryz.func120, Tryz.ntmps120
        go_wp2
        go_ret
        unfold PrPost
        rw [HE.out]
        exact ⟨rfl, HH.out.spend.1, HH.out.spend.2⟩
      · have t1 : decide (k < m) = false := decide_eq_false hk
        have HE : Hid (payS (some k) m = some (k - m)) := Lib.hid (payS_le (by omega))
        have w1 : IntKind.i64.wrap ((k : Int) - (m : Int)) = (k : Int) - (m : Int) := IntWalk.i64_in _ (by omega)
        have HS : Hid ((k : Int) - (m : Int) = ((k - m : Nat) : Int)) := Lib.hid (by omega)
        clear hk hs
        go_enter Tryz.func120, Tryz.ntmps120
        go_wp2
        go_ret
        unfold PrPost
        rw [HE.out]
        exact ⟨rfl, (HH.out.takeN m _ HS.out).1, (HH.out.takeN m _ HS.out).2⟩
end Go.Proofs.YtonilojjahfboaaGreat
namespace Go.Proofs.YtonilojjahfboaaGreat
open Go.RowKit Go.Maps

theorem idsE_take {EL : List Er} {j : Nat} {x : Er} (p : Eg → Bool) (hx : EL[j]? = some x) : idsE ((EL.take (j + 1)).map Er.e) p = idsE ((EL.take j).map Er.e) p ++ (if p x.e then [x.e.id] else []) := by
  unfold idsE
  rw [List.take_add_one, hx, List.map_append, List.filter_append, List.map_append]
  congr 1
  cases h : p x.e <;> simp [h]
set_option maxRecDepth 100000 in
set_option maxHeartbeats 2000000 in
theorem r16ends_any {w : World} {rb : Nat} {EL : List Er} {ea : Option Addr} {ec : Nat} (c1 : w.cell? ⟨rb, 1, none⟩ = some (.slice ea EL.length ec)) (hv : kEr.V w ea EL) (hl : EL.length ≤ 1000000) (n : Int) (out : Bool) :
    Calls Tryz.prog 121 #[.pointer (some ⟨rb, 0, none⟩), .int .i64 n, .bool out] w (EsPost (EL.map Er.e) (sideP out n) w) := by
  obtain ⟨m, hm⟩ : ∃ m, m = EL.length := ⟨_, rfl⟩
  have hz := block_lt_of_cell c1
  have HC : Hid (∀ u, Below w.heap.size w u → u.cell? ⟨rb, 1, none⟩ = some (.slice ea m ec) ∧ rb < u.heap.size ∧ kEr.V u ea EL) := Lib.hid (fun u hu => ⟨by rw [hm]; exact below_cell hu 1 hz c1, Nat.lt_of_lt_of_le hz hu.size, hv.below hu⟩)
  have HM : Hid (m = EL.length ∧ m ≤ 1000000) := Lib.hid ⟨hm, by omega⟩
  clear c1 hv hl hm hz
  go_enter Tryz.func121, Tryz.ntmps121
  go_wp2_with fail
  go_loopw [7, 8] (fun v i wr => ∃ j : Nat, i = .int .i64 j ∧ j ≤ m ∧ kI.Own wr w.heap.size v (idsE ((EL.take j).map Er.e) (sideP out n)) ∧ Below w.heap.size w wr) (fun _ i _ => m - (intOf i).toNat)
  case atStart => exact ⟨0, rfl, Nat.zero_le _, RowK.Own.nil kI _ _, Below.refl _ _⟩
  case round =>
    obtain ⟨j, rfl, hj, hO, hB⟩ := hrel
    have hml := HM.out.2
    obtain ⟨oa, oc, rfl⟩ := hO.shape
    obtain ⟨acc, hacc⟩ : ∃ l, l = idsE ((EL.take j).map Er.e) (sideP out n) := ⟨_, rfl⟩
    rw [← hacc] at hO ⊢
    have HAC := Lib.hid hacc
    have HO := Lib.hid hO
    have HB := Lib.hid hB
    have HAL : Hid (acc.length ≤ j) := Lib.hid (by rw [hacc]; refine Nat.le_trans (idsE_len _ _) ?_; rw [List.length_map, List.length_take]; omega)
    obtain ⟨d1, hz, hv⟩ := HC.out wr hB
    clear hacc hO hB
    by_cases hlt : j < m
    · have hne : EL ≠ [] := fun e => by have := HM.out; rw [e] at this; simp at this; omega
      obtain ⟨b, off, rfl, hat⟩ := hv hne
      obtain ⟨x, hx⟩ : ∃ x, EL[j]? = some x := ⟨_, List.getElem?_eq_getElem (by have := HM.out; omega)⟩
      have x0 := hat.cells j x hx 0 _ rfl
      have x2 := hat.cells j x hx 2 _ rfl
      have x3 := hat.cells j x hx 3 _ rfl
      simp [kEr] at x0 x2 x3
      have hbl := hat.lt
      have HX := Lib.hid hx
      have HT := Lib.hid (idsE_take (sideP out n) hx)
      clear hat hx hne hv
      have HXV := Lib.hid (int_new wr wr.heap.size rfl x.e.id)
      have HOA := Lib.hid (HO.out.alloc (.cells #[.int .i64 x.e.id] 3))
      have HZW := Lib.hid HB.out.size
      cases out
      · by_cases he : x.e.to = n
        · have t1 : (x.e.to == n) = true := by simpa using he
          have HP : Hid (acc ++ [x.e.id] = idsE ((EL.take (j + 1)).map Er.e) (sideP false n)) := Lib.hid (by rw [HT.out, ← HAC.out, if_pos (show sideP false n x.e = true from t1)])
          clear he
          go_wp2_with (first | (at_builtin; refine RowK.wpList_app (k := kI) rfl (.tmp 47) (.tmp 56) rfl rfl HOA.out (some ⟨wr.heap.size, 0, none⟩) 1 [x.e.id] 1 rfl rfl HXV.out (fun e => by cases e) (by have := HAL.out; simp; omega) (by have := HZW.out; simp; omega) ?_; intro v8 w8 hA; have HA8 := Lib.hid hA; clear hA) | fail)
          obtain ⟨oA, gA, kA⟩ := HA8.out
          refine ⟨⟨j + 1, by simp, hlt, by rw [← HP.out]; exact oA, (HB.out.alloc HZW.out _).grown gA (by have := HZW.out; simp; omega) (fun q hq => (HOA.out.lt q hq).1)⟩, by simp [intOf]; omega⟩
        · have t1 : (x.e.to == n) = false := by simpa using he
          have HP : Hid (acc = idsE ((EL.take (j + 1)).map Er.e) (sideP false n)) := Lib.hid (by rw [HT.out, ← HAC.out, if_neg (show ¬ sideP false n x.e = true from by unfold sideP inP; simpa using he), List.append_nil])
          clear he
          go_wp2_with fail
          exact ⟨⟨j + 1, by simp, hlt, by rw [← HP.out]; exact HO.out, HB.out⟩, by simp [intOf]; omega⟩
      · by_cases he : x.e.fr = n
        · have t1 : (x.e.fr == n) = true := by simpa using he
          have HP : Hid (acc ++ [x.e.id] = idsE ((EL.take (j + 1)).map Er.e) (sideP true n)) := Lib.hid (by rw [HT.out, ← HAC.out, if_pos (show sideP true n x.e = true from t1)])
          clear he
          go_wp2_with (first | (at_builtin; refine RowK.wpList_app (k := kI) rfl (.tmp 47) (.tmp 56) rfl rfl HOA.out (some ⟨wr.heap.size, 0, none⟩) 1 [x.e.id] 1 rfl rfl HXV.out (fun e => by cases e) (by have := HAL.out; simp; omega) (by have := HZW.out; simp; omega) ?_; intro v8 w8 hA; have HA8 := Lib.hid hA; clear hA) | fail)
          obtain ⟨oA, gA, kA⟩ := HA8.out
          refine ⟨⟨j + 1, by simp, hlt, by rw [← HP.out]; exact oA, (HB.out.alloc HZW.out _).grown gA (by have := HZW.out; simp; omega) (fun q hq => (HOA.out.lt q hq).1)⟩, by simp [intOf]; omega⟩
        · have t1 : (x.e.fr == n) = false := by simpa using he
          have HP : Hid (acc = idsE ((EL.take (j + 1)).map Er.e) (sideP true n)) := Lib.hid (by rw [HT.out, ← HAC.out, if_neg (show ¬ sideP true n x.e = true from by unfold sideP outP; simpa using he), List.append_nil])
          clear he
          go_wp2_with fail
          exact ⟨⟨j + 1, by simp, hlt, by rw [← HP.out]; exact HO.out, HB.out⟩, by simp [intOf]; omega⟩
    · have hjm : j = m := by omega
      have tj : decide ((j : Int) < (m : Int)) = false := decide_eq_false (by omega)
      have HEND : Hid (acc = idsE (EL.map Er.e) (sideP out n)) := Lib.hid (by rw [HAC.out, List.take_of_length_le (by rw [← HM.out.1]; omega)])
      clear hjm
      go_wp2_with fail
      go_ret
      exact ⟨_, rfl, by rw [← HEND.out]; exact HO.out, HB.out⟩

theorem put_same {l : List Int} {j : Nat} {x : Int} (h : IncI l) (hx : l[j]? = some x) : setI (l ++ [x]) = l :=
  incI_uniq (setI_spec _).1 h (fun k => by
    rw [(setI_spec _).2, List.mem_append, List.mem_singleton]
    exact ⟨fun e => e.elim id (fun e => by rw [e]; exact List.mem_of_getElem? hx), .inl⟩)
theorem put_new {l : List Int} {j : Nat} {x : Int} (h : IncI l) (h1 : ∀ i y, i < j → l[i]? = some y → y < x) (h2 : ∀ y, l[j]? = some y → x < y) : setI (l ++ [x]) = l.take j ++ [x] ++ l.drop j := by
  have hd : ∀ y ∈ l.drop j, x < y := by
    intro y hy
    obtain ⟨i, hi⟩ := List.getElem?_of_mem hy
    rw [List.getElem?_drop] at hi
    cases i with
    | zero => exact h2 y hi
    | succ i =>
      have hl := (List.getElem?_eq_some_iff.1 hi).1
      have h3 := h2 _ (List.getElem?_eq_getElem (show j < l.length by omega))
      have h4 := List.pairwise_iff_getElem.1 h j (j + (i + 1)) (by omega) hl (by omega)
      have h5 := (List.getElem?_eq_some_iff.1 hi).2
      omega
  have ht : ∀ y ∈ l.take j, y < x := by
    intro y hy
    obtain ⟨i, hi⟩ := List.getElem?_of_mem hy
    have hl := (List.getElem?_eq_some_iff.1 hi).1
    rw [List.length_take] at hl
    rw [List.getElem?_take_of_lt (by omega)] at hi
    exact h1 i y (by omega) hi
  refine incI_uniq (setI_spec _).1 ?_ (fun k => ?_)
  · show List.Pairwise (· < ·) _
    rw [List.pairwise_append, List.pairwise_append]
    refine ⟨⟨h.sublist (List.take_sublist _ _), List.pairwise_singleton _ _, fun a ha b hb => ?_⟩, h.sublist (List.drop_sublist _ _), fun a ha b hb => ?_⟩
    · rw [List.mem_singleton.1 hb]; exact ht a ha
    · rcases List.mem_append.1 ha with ha | ha
      · have := ht a ha; have := hd b hb; omega
      · rw [List.mem_singleton.1 ha]; exact hd b hb
  · rw [(setI_spec _).2]
    simp only [List.mem_append, List.mem_singleton]
    constructor
    · rintro (e | e)
      · rw [← List.take_append_drop j l] at e
        rcases List.mem_append.1 e with e | e
        · exact .inl (.inl e)
        · exact .inr e
      · exact .inl (.inr e)
    · rintro ((e | e) | e)
      · exact .inl (List.mem_of_mem_take e)
      · exact .inr e
      · exact .inl (List.mem_of_mem_drop e)
theorem put_set (L : List Int) (x : Int) : setI (setI L ++ [x]) = setI (L ++ [x]) :=
  incI_uniq (setI_spec _).1 (setI_spec _).1 (fun k => by
    rw [(setI_spec _).2, (setI_spec _).2, List.mem_append, List.mem_append, (setI_spec _).2])
def PtPost (w : World) (B : Nat) (l : List Int) (e : Ending) (w' : World) : Prop := ∃ a c, e = .returned (.slice a l.length c) ∧ kI.Own w' B (.slice a l.length c) l ∧ Below w.heap.size w w'
set_option maxRecDepth 100000 in
set_option maxHeartbeats 2000000 in
theorem r17put_any {w : World} {B cap : Nat} {a : Option Addr} {l : List Int} (h : kI.Own w B (.slice a l.length cap) l) (hi : IncI l) (hl : l.length ≤ 1000000) (x : Int) (hB : B ≤ w.heap.size) :
    Calls Tryz.prog 220 #[.slice a l.length cap, .int .i64 x] w (PtPost w B (setI (l ++ [x]))) := by
  obtain ⟨m, hm⟩ : ∃ m, m = l.length := ⟨_, rfl⟩
  have hcp : l.length ≤ cap := h.cap
  have HM : Hid (m = l.length ∧ m ≤ 1000000 ∧ m ≤ cap) := Lib.hid ⟨hm, by omega, by omega⟩
  have HO := Lib.hid h
  have HI := Lib.hid hi
  have HBB := Lib.hid hB
  rw [← hm]
  clear h hi hl hB hm hcp
  go_enter Tryz.func220, Tryz.ntmps220
  go_wp2_with fail
  go_loopw [5] (fun i wr => ∃ j : Nat, i = .int .i64 j ∧ wr = w ∧ j ≤ m ∧ Hid (∀ i' y, i' < j → l[i']? = some y → y < x)) (fun i _ => m - (intOf i).toNat)
  case atStart => exact ⟨0, rfl, rfl, Nat.zero_le _, Lib.hid (fun _ _ h => absurd h (Nat.not_lt_zero _))⟩
  case round =>
    obtain ⟨j, rfl, rfl, hj, HLT⟩ := hrel
    have hml := HM.out.2.1
    by_cases hlt : j < m
    · have hne : l ≠ [] := fun e => by have := HM.out; rw [e] at this; simp at this; omega
      obtain ⟨b, cp, hbe, _, _, hat⟩ := HO.out.at' hne
      injection hbe with e1 e2 e3
      subst e1
      clear e2 e3
      obtain ⟨y, hy⟩ : ∃ y, l[j]? = some y := ⟨_, List.getElem?_eq_getElem (by have := HM.out; omega)⟩
      have x0 := hat.cells j y hy 0 _ rfl
      simp [kI] at x0
      have hbl := hat.lt
      have HY := Lib.hid hy
      clear hat hy hne
      by_cases he : y < x
      · have HE := Lib.hid he
        have t3 : decide (y < x) = true := decide_eq_true he
        go_wp2_with fail
        refine ⟨⟨j + 1, by simp, trivial, hlt, Lib.hid (fun i' z hi' hz => ?_)⟩, by simp [intOf]; omega⟩
        by_cases e : i' < j
        · exact HLT.out i' z e hz
        · obtain rfl : i' = j := by omega
          rw [HY.out] at hz
          injection hz with hz
          subst hz
          exact HE.out
      · have t3 : decide (y < x) = false := decide_eq_false he
        by_cases hq : y = x
        · have t4 : (y == x) = true := by simpa using hq
          have HS : Hid (setI (l ++ [x]) = l) := Lib.hid (put_same HI.out (by rw [← hq]; exact HY.out))
          clear he hq
          go_wp2_with fail
          go_ret
          unfold PtPost
          rw [HS.out, ← HM.out.1]
          exact ⟨_, cap, rfl, by rw [HM.out.1]; exact HO.out, Below.refl _ _⟩
        · have t4 : (y == x) = false := by simpa using hq
          have HS : Hid (setI (l ++ [x]) = l.take j ++ [x] ++ l.drop j) := Lib.hid (put_new HI.out HLT.out (fun z hz => by rw [HY.out] at hz; injection hz with hz; omega))
          clear he hq
          go_upto_region 7 with fail
          clear t3 t4 x0
          obtain ⟨a1, ha1⟩ : ∃ a1, kI.pfx ((some ⟨b, 0, none⟩) : Option Addr) cap = a1 := ⟨_, rfl⟩
          obtain ⟨a3, ha3⟩ : ∃ a3, kI.sfx ((some ⟨b, 0, none⟩) : Option Addr) cap j = a3 := ⟨_, rfl⟩
          obtain ⟨n3, hn3⟩ : ∃ n3, m - j = n3 := ⟨_, rfl⟩
          obtain ⟨c3, hc3⟩ : ∃ c3, cap - j = c3 := ⟨_, rfl⟩
          have HV1 : Hid (∀ u, Below wr.heap.size wr u → kI.V u a1 (l.take j)) := Lib.hid (fun u hu => by rw [← ha1]; exact ((HO.out.below hu).toV).take j cap)
          have HV3 : Hid (∀ u, Below wr.heap.size wr u → kI.V u a3 (l.drop j)) := Lib.hid (fun u hu => by rw [← ha3]; exact ((HO.out.below hu).toV).drop (by rw [← HM.out.1]; exact HM.out.2.2))
          have HNN1 : Hid (a1 = none → cap = 0) := Lib.hid (fun e => RowK.pfx_none (k := kI) (a := ((some ⟨b, 0, none⟩) : Option Addr)) (fun (ea : ((some ⟨b, 0, none⟩) : Option Addr) = none) => by first | (cases ea; done) | (have := HO.out; rw [ea] at this; exact this.noneCap)) (ha1.trans e))
          have HNN3 : Hid (a3 = none → c3 = 0) := Lib.hid (fun e => by rw [← hc3]; exact RowK.sfx_none (k := kI) (a := ((some ⟨b, 0, none⟩) : Option Addr)) (fun (ea : ((some ⟨b, 0, none⟩) : Option Addr) = none) => by first | (cases ea; done) | (have := HO.out; rw [ea] at this; exact this.noneCap)) (ha3.trans e))
          have HL1 : Hid ((l.take j).length = j) := Lib.hid (by rw [List.length_take]; have := HM.out.1; omega)
          have HL3 : Hid ((l.drop j).length = n3) := Lib.hid (by rw [List.length_drop, ← HM.out.1]; exact hn3)
          have HA1 := Lib.hid ha1
          have HA3 := Lib.hid ha3
          have HN3 := Lib.hid hn3
          have HC3 := Lib.hid hc3
          have hjc : j ≤ cap := Nat.le_trans hj HM.out.2.2
          clear ha1 ha3 hn3 hc3
          go_upto_region 8 with (first | (refine RowK.wpList_pfx (k := kI) (o := ⟨some 37, _, _, _, _, _⟩) rfl (.tmp 35) (.tmp 36) rfl _ m cap j rfl rfl hjc HA1.out ?_) | (at_builtin; refine RowK.wpList_app (k := kI) (B := wr.heap.size) (v := .slice none 0 0) (l := []) rfl (.tmp 34) (.tmp 37) rfl rfl (RowK.Own.nil kI _ _) a1 j (l.take j) cap rfl HL1.out (HV1.out _ (Below.refl _ _)) HNN1.out (by have := HM.out.2.1; rw [HL1.out]; simp; omega) (Nat.le_refl _) ?_; rintro v1 u1 g1; have G1 := Lib.hid g1; clear g1))
          obtain ⟨av1, cv1, hv1⟩ := G1.out.1.shape
          rw [List.nil_append, HL1.out] at hv1
          subst hv1
          have HB1 : Hid (Below wr.heap.size wr u1) := Lib.hid (below_nilR G1.out.2.1)
          have HO1 : Hid (kI.Own u1 wr.heap.size (.slice av1 j cv1) (l.take j)) := Lib.hid G1.out.1
          clear G1
          have HXV := Lib.hid (int_new u1 u1.heap.size rfl x)
          have HO2 := Lib.hid (HO1.out.alloc (.cells #[.int .i64 x] 3))
          have HB2 := Lib.hid (below_then HB1.out (below_box u1 (.cells #[.int .i64 x] 3)))
          go_upto_region 9 with ((at_builtin; refine RowK.wpList_app (k := kI) (B := wr.heap.size) (v := .slice av1 j cv1) (l := l.take j) rfl (.tmp 39) (.tmp 41) rfl rfl HO2.out (some ⟨u1.heap.size, 0, none⟩) 1 [x] 1 rfl rfl HXV.out (fun e => by cases e) (by have := HM.out.2.1; rw [HL1.out]; simp; omega) HB2.out.size ?_; rintro v2 u2 g2; have G2 := Lib.hid g2; clear g2))
          have HB3 : Hid (Below wr.heap.size wr u2) := Lib.hid (HB2.out.trans (below_grownR HO2.out G2.out.2.1 HB2.out.size))
          obtain ⟨av2, cv2, hv2⟩ := G2.out.1.shape
          subst hv2
          obtain ⟨m2, hm2⟩ : ∃ m2, m2 = (l.take j ++ [x]).length := ⟨_, rfl⟩
          rw [← hm2]
          have HO3 : Hid (kI.Own u2 wr.heap.size (.slice av2 m2 cv2) (l.take j ++ [x])) := Lib.hid (by rw [hm2]; exact G2.out.1)
          have HM2 := Lib.hid hm2
          clear hm2 G2
          go_wp2_with (first | (refine RowK.wpList_sfx (k := kI) (o := ⟨some 46, _, _, _, _, _⟩) rfl (.tmp 44) (.tmp 45) rfl _ m cap j rfl rfl hj HA3.out HN3.out HC3.out ?_) | (at_builtin; refine RowK.wpList_app (k := kI) (B := wr.heap.size) (v := .slice av2 m2 cv2) (l := l.take j ++ [x]) rfl (.tmp 43) (.tmp 46) rfl rfl HO3.out a3 n3 (l.drop j) c3 rfl HL3.out (HV3.out _ HB3.out) HNN3.out (by have := HM.out.1; have := HM.out.2.1; rw [List.length_append, HL1.out, HL3.out]; have := HN3.out; simp; omega) HB3.out.size ?_; rintro v3 u3 g3; have G3 := Lib.hid g3; clear g3))
          have HB4 : Hid (Below wr.heap.size wr u3) := Lib.hid (HB3.out.trans (below_grownR HO3.out G3.out.2.1 HB3.out.size))
          obtain ⟨av3, cv3, hv3⟩ := G3.out.1.shape
          subst hv3
          go_ret
          unfold PtPost
          rw [HS.out]
          exact ⟨av3, cv3, rfl, G3.out.1.mono HBB.out, HB4.out⟩
    · have tj : decide ((j : Int) < (m : Int)) = false := decide_eq_false (by omega)
      have HS : Hid (setI (l ++ [x]) = l.take j ++ [x] ++ l.drop j) := Lib.hid (put_new HI.out HLT.out (fun z hz => by have := (List.getElem?_eq_some_iff.1 hz).1; have := HM.out; omega))
      go_upto_region 7 with fail
      clear tj
      obtain ⟨a1, ha1⟩ : ∃ a1, kI.pfx (a : Option Addr) cap = a1 := ⟨_, rfl⟩
      obtain ⟨a3, ha3⟩ : ∃ a3, kI.sfx (a : Option Addr) cap j = a3 := ⟨_, rfl⟩
      obtain ⟨n3, hn3⟩ : ∃ n3, m - j = n3 := ⟨_, rfl⟩
      obtain ⟨c3, hc3⟩ : ∃ c3, cap - j = c3 := ⟨_, rfl⟩
      have HV1 : Hid (∀ u, Below wr.heap.size wr u → kI.V u a1 (l.take j)) := Lib.hid (fun u hu => by rw [← ha1]; exact ((HO.out.below hu).toV).take j cap)
      have HV3 : Hid (∀ u, Below wr.heap.size wr u → kI.V u a3 (l.drop j)) := Lib.hid (fun u hu => by rw [← ha3]; exact ((HO.out.below hu).toV).drop (by rw [← HM.out.1]; exact HM.out.2.2))
      have HNN1 : Hid (a1 = none → cap = 0) := Lib.hid (fun e => RowK.pfx_none (k := kI) (a := (a : Option Addr)) (fun (ea : (a : Option Addr) = none) => by first | (cases ea; done) | (have := HO.out; rw [ea] at this; exact this.noneCap)) (ha1.trans e))
      have HNN3 : Hid (a3 = none → c3 = 0) := Lib.hid (fun e => by rw [← hc3]; exact RowK.sfx_none (k := kI) (a := (a : Option Addr)) (fun (ea : (a : Option Addr) = none) => by first | (cases ea; done) | (have := HO.out; rw [ea] at this; exact this.noneCap)) (ha3.trans e))
      have HL1 : Hid ((l.take j).length = j) := Lib.hid (by rw [List.length_take]; have := HM.out.1; omega)
      have HL3 : Hid ((l.drop j).length = n3) := Lib.hid (by rw [List.length_drop, ← HM.out.1]; exact hn3)
      have HA1 := Lib.hid ha1
      have HA3 := Lib.hid ha3
      have HN3 := Lib.hid hn3
      have HC3 := Lib.hid hc3
      have hjc : j ≤ cap := Nat.le_trans hj HM.out.2.2
      clear ha1 ha3 hn3 hc3
      go_upto_region 8 with (first | (refine RowK.wpList_pfx (k := kI) (o := ⟨some 37, _, _, _, _, _⟩) rfl (.tmp 35) (.tmp 36) rfl _ m cap j rfl rfl hjc HA1.out ?_) | (at_builtin; refine RowK.wpList_app (k := kI) (B := wr.heap.size) (v := .slice none 0 0) (l := []) rfl (.tmp 34) (.tmp 37) rfl rfl (RowK.Own.nil kI _ _) a1 j (l.take j) cap rfl HL1.out (HV1.out _ (Below.refl _ _)) HNN1.out (by have := HM.out.2.1; rw [HL1.out]; simp; omega) (Nat.le_refl _) ?_; rintro v1 u1 g1; have G1 := Lib.hid g1; clear g1))
      obtain ⟨av1, cv1, hv1⟩ := G1.out.1.shape
      rw [List.nil_append, HL1.out] at hv1
      subst hv1
      have HB1 : Hid (Below wr.heap.size wr u1) := Lib.hid (below_nilR G1.out.2.1)
      have HO1 : Hid (kI.Own u1 wr.heap.size (.slice av1 j cv1) (l.take j)) := Lib.hid G1.out.1
      clear G1
      have HXV := Lib.hid (int_new u1 u1.heap.size rfl x)
      have HO2 := Lib.hid (HO1.out.alloc (.cells #[.int .i64 x] 3))
      have HB2 := Lib.hid (below_then HB1.out (below_box u1 (.cells #[.int .i64 x] 3)))
      go_upto_region 9 with ((at_builtin; refine RowK.wpList_app (k := kI) (B := wr.heap.size) (v := .slice av1 j cv1) (l := l.take j) rfl (.tmp 39) (.tmp 41) rfl rfl HO2.out (some ⟨u1.heap.size, 0, none⟩) 1 [x] 1 rfl rfl HXV.out (fun e => by cases e) (by have := HM.out.2.1; rw [HL1.out]; simp; omega) HB2.out.size ?_; rintro v2 u2 g2; have G2 := Lib.hid g2; clear g2))
      have HB3 : Hid (Below wr.heap.size wr u2) := Lib.hid (HB2.out.trans (below_grownR HO2.out G2.out.2.1 HB2.out.size))
      obtain ⟨av2, cv2, hv2⟩ := G2.out.1.shape
      subst hv2
      obtain ⟨m2, hm2⟩ : ∃ m2, m2 = (l.take j ++ [x]).length := ⟨_, rfl⟩
      rw [← hm2]
      have HO3 : Hid (kI.Own u2 wr.heap.size (.slice av2 m2 cv2) (l.take j ++ [x])) := Lib.hid (by rw [hm2]; exact G2.out.1)
      have HM2 := Lib.hid hm2
      clear hm2 G2
      go_wp2_with (first | (refine RowK.wpList_sfx (k := kI) (o := ⟨some 46, _, _, _, _, _⟩) rfl (.tmp 44) (.tmp 45) rfl _ m cap j rfl rfl hj HA3.out HN3.out HC3.out ?_) | (at_builtin; refine RowK.wpList_app (k := kI) (B := wr.heap.size) (v := .slice av2 m2 cv2) (l := l.take j ++ [x]) rfl (.tmp 43) (.tmp 46) rfl rfl HO3.out a3 n3 (l.drop j) c3 rfl HL3.out (HV3.out _ HB3.out) HNN3.out (by have := HM.out.1; have := HM.out.2.1; rw [List.length_append, HL1.out, HL3.out]; have := HN3.out; simp; omega) HB3.out.size ?_; rintro v3 u3 g3; have G3 := Lib.hid g3; clear g3))
      have HB4 : Hid (Below wr.heap.size wr u3) := Lib.hid (HB3.out.trans (below_grownR HO3.out G3.out.2.1 HB3.out.size))
      obtain ⟨av3, cv3, hv3⟩ := G3.out.1.shape
      subst hv3
      go_ret
      unfold PtPost
      rw [HS.out]
      exact ⟨av3, cv3, rfl, G3.out.1.mono HBB.out, HB4.out⟩
end Go.Proofs.YtonilojjahfboaaGreat
namespace Go.Proofs.YtonilojjahfboaaGreat
open Go.RowKit Go.Maps

/-- does a vertex of a graph fit a node? -/
def isN (V : List Vt) (lab key : ByteArray) (low high : Vl) (id : Int) : Bool := match findB Vt.id V id with
  | some y => fitP lab key low high y
  | none => false
theorem fitP_eq (lab key : ByteArray) (low high : Vl) (y : Vt) : fitP lab key low high y = (decide (y.label = lab) && (key.toList.isEmpty || (vq y key && (decide (0 ≤ (vo y key).cmp low) && decide ((vo y key).cmp high ≤ 0))))) := by
  unfold fitP outS
  congr 2
  cases vq y key
  · simp
  · have e1 : decide ((vo y key).cmp low < 0) = !decide (0 ≤ (vo y key).cmp low) := by rw [← decide_not]; exact decide_eq_decide.2 (by omega)
    have e2 : decide (0 < (vo y key).cmp high) = !decide ((vo y key).cmp high ≤ 0) := by rw [← decide_not]; exact decide_eq_decide.2 (by omega)
    rw [e1, e2]
    simp
/-- a reference graph whose rows lie anywhere -/
structure RgV (w : World) (rb : Nat) (VL : List Vr) : Prop where
  ex : ∃ va vc, w.cell? ⟨rb, 0, none⟩ = some (.slice va VL.length vc) ∧ kVr.V w va VL
  ps : ∀ x ∈ VL, PsV w x.a x.v.ps ∧ x.v.ps.length ≤ 1000000
  len : VL.length ≤ 1000000
  so : SortB Vt.id (VL.map Vr.v)
theorem RgV.below {w w' : World} {rb : Nat} {VL : List Vr} (h : RgV w rb VL) (hb : Below w.heap.size w w') : RgV w' rb VL := by
  obtain ⟨⟨va, vc, c0, hv⟩, h2, h3, h4⟩ := h
  exact ⟨⟨va, vc, below_cell hb 0 (block_lt_of_cell c0) c0, hv.below hb⟩, fun x hx => ⟨(h2 x hx).1.below hb, (h2 x hx).2⟩, h3, h4⟩
theorem isN_none {V : List Vt} {lab key : ByteArray} {low high : Vl} {id : Int} (h : ∀ y ∈ V, y.id ≠ id) : isN V lab key low high id = false := by
  unfold isN; rw [findB_none.2 h]
theorem isN_some {V : List Vt} (hs : SortB Vt.id V) {lab key : ByteArray} {low high : Vl} {y : Vt} (hy : y ∈ V) : isN V lab key low high y.id = fitP lab key low high y := by
  unfold isN; rw [findB_mem hs hy]
set_option maxRecDepth 100000 in
set_option maxHeartbeats 4000000 in
theorem r17is_any {w : World} {rb : Nat} {VL : List Vr} (h : RgV w rb VL) (lab key : ByteArray) (low high : Vl) (id : Int) :
    Calls Tryz.prog 125 #[.pointer (some ⟨rb, 0, none⟩), .agg #[.string lab, .string key, .int .i64 low.kind, .int .i64 low.n, .string low.s, .int .i64 high.kind, .int .i64 high.n, .string high.s], .int .i64 id] w fun e w' => e = .returned (.bool (isN (VL.map Vr.v) lab key low high id)) ∧ Below w.heap.size w w' := by
  obtain ⟨W, hW⟩ : ∃ W, W = w.alloc (.cells #[.string lab, .string key, .int .i64 low.kind, .int .i64 low.n, .string low.s, .int .i64 high.kind, .int .i64 high.n, .string high.s] 100) := ⟨_, rfl⟩
  have hBW : Below w.heap.size w W := by rw [hW]; exact below_box w _
  obtain ⟨nb, hnb⟩ : ∃ b, b = w.heap.size := ⟨_, rfl⟩
  have eN : W.heap[nb]? = some (.cells #[.string lab, .string key, .int .i64 low.kind, .int .i64 low.n, .string low.s, .int .i64 high.kind, .int .i64 high.n, .string high.s] 100 (0, 0)) := by rw [hW, hnb]; exact heap_new w _
  have HNB : Hid (∀ u, Below W.heap.size W u → u.cell? ⟨nb, 0, none⟩ = some (.string lab) ∧ u.cell? ⟨nb, 1, none⟩ = some (.string key) ∧ u.cell? ⟨nb, 2, none⟩ = some (.int .i64 low.kind) ∧ u.cell? ⟨nb, 3, none⟩ = some (.int .i64 low.n) ∧ u.cell? ⟨nb, 4, none⟩ = some (.string low.s) ∧ u.cell? ⟨nb, 5, none⟩ = some (.int .i64 high.kind) ∧ u.cell? ⟨nb, 6, none⟩ = some (.int .i64 high.n) ∧ u.cell? ⟨nb, 7, none⟩ = some (.string high.s) ∧ nb < u.heap.size) := Lib.hid (fun u hu => by
    have e := (hu.block _ (Array.getElem?_eq_some_iff.1 eN).1).trans eN
    exact ⟨by rw [cell_of_blk e]; rfl, by rw [cell_of_blk e]; rfl, by rw [cell_of_blk e]; rfl, by rw [cell_of_blk e]; rfl, by rw [cell_of_blk e]; rfl, by rw [cell_of_blk e]; rfl, by rw [cell_of_blk e]; rfl, by rw [cell_of_blk e]; rfl, (Array.getElem?_eq_some_iff.1 e).1⟩)
  have hG := h.below hBW
  have HG := Lib.hid hG
  obtain ⟨⟨va, vc, c0, hv⟩, _, hlen, hso⟩ := hG
  have h16 := r16V_at c0 hv hlen id
  obtain ⟨n, hn⟩ : ∃ n, n = VL.length := ⟨_, rfl⟩
  have HN : Hid (n = VL.length ∧ n ≤ 1000000) := Lib.hid ⟨hn, by omega⟩
  rw [← hn] at c0
  have HV := Lib.hid hv
  have H16 := Lib.hid h16
  have HSO := Lib.hid hso
  have hzr := block_lt_of_cell c0
  have HBW := Lib.hid hBW
  have HW := Lib.hid hW
  have HNBE := Lib.hid hnb
  obtain ⟨p0, p1, p2, p3, p4, p5, p6, p7, pl⟩ := HNB.out W (Below.refl _ _)
  obtain ⟨b, hb⟩ : ∃ b, b = isN (VL.map Vr.v) lab key low high id := ⟨_, rfl⟩
  have HBV := Lib.hid hb
  rw [← hb]
  clear h hW hBW hnb eN hlen hso h16 hn hv hb
  go_enter Tryz.func125, Tryz.ntmps125
  go_upto_region 1 with fail
  rw [← HW.out, ← HNBE.out]
  go_upto_region 2 with (go_at_call 66; (with_reducible refine H16.out.mono ?_); rintro e w1 ⟨rfl, r, rfl, hr⟩; have HR := Lib.hid hr; clear hr)
  rcases HR.out with ⟨rfl, hno⟩ | ⟨i, x, rfl, hx, hxi⟩
  · have HF : Hid (b = false) := Lib.hid (by rw [HBV.out]; exact isN_none (fun y hy => by obtain ⟨z, hz, rfl⟩ := List.mem_map.1 hy; exact hno z hz))
    clear hno HR
    go_quiet (fail)
    go_wp2_with fail
    go_ret
    exact ⟨by (rw [HF.out]; first | done | rfl), HBW.out.trans ((below_drewN (Below.refl _ _) _).mono HBW.out.size)⟩
  · subst hxi
    have hmem : x.v ∈ VL.map Vr.v := List.mem_map.2 ⟨x, List.mem_of_getElem? hx, rfl⟩
    have HE : Hid (b = (decide (x.v.label = lab) && (key.toList.isEmpty || (vq x.v key && (decide (0 ≤ (vo x.v key).cmp low) && decide ((vo x.v key).cmp high ≤ 0)))))) := Lib.hid (by rw [HBV.out, isN_some HSO.out hmem, fitP_eq])
    have HRV : Hid (∀ u, Below W.heap.size W u → Calls Tryz.prog 59 #[.pointer (some ⟨rb, 0, none⟩), .int .i64 x.v.id, .string key] u (V1Post u (vo x.v key) (vq x.v key))) := Lib.hid (fun u hu => by
      obtain ⟨⟨va', vc', c0', hv'⟩, hps, hl', hs'⟩ := HG.out.below hu
      exact r16value_any c0' hv' hl' hs' hx (hps x (List.mem_of_getElem? hx)).1 (hps x (List.mem_of_getElem? hx)).2 key)
    have HVO : Hid ((vo x.v key).Ok) := Lib.hid (vo_ok (fun p hp => by
      have := (HG.out.ps x (List.mem_of_getElem? hx)).1
      obtain ⟨_, _, _, hat⟩ := this (fun e => by rw [e] at hp; cases hp)
      exact hat.ok p hp) key)
    obtain ⟨bb, off, rfl, hat⟩ := HV.out (fun e => by rw [e] at hx; simp at hx)
    obtain ⟨k0, k1, k2⟩ := kVr_cells hat hx
    have hbl := hat.lt
    have hil : i < n := by have := (List.getElem?_eq_some_iff.1 hx).1; have := HN.out.1; omega
    have hzi : (i : Int) < (n : Int) := by omega
    have n1 : decide ((i : Int) < 0) = false := decide_eq_false (by omega)
    obtain ⟨yl, hyl⟩ : ∃ l, l = x.v.label := ⟨_, rfl⟩
    rw [← hyl] at k1
    have HYL := Lib.hid hyl
    obtain ⟨tl, htl⟩ : ∃ t, decide (yl = lab) = t := ⟨_, rfl⟩
    have hne : (yl.toList == lab.toList) = tl := by rw [← htl]; exact bytes_eqB _ _
    rw [← hyl, htl] at HE
    clear hyl htl hmem hat hx HR k0 k2
    cases tl
    · have HF : Hid (b = false) := Lib.hid (by rw [HE.out]; rfl)
      go_quiet (fail)
      go_wp2_with fail
      go_ret
      exact ⟨by (rw [HF.out]; first | done | rfl), HBW.out.trans ((below_drewN (Below.refl _ _) _).mono HBW.out.size)⟩
    · by_cases hk : key.toList = []
      · have t1 : key.toList.isEmpty = true := by simp [hk]
        have HF : Hid (b = true) := Lib.hid (by rw [HE.out, t1]; rfl)
        clear hk
        go_quiet (fail)
        go_wp2_with fail
        go_ret
        exact ⟨by (rw [HF.out]; first | done | rfl), HBW.out.trans ((below_drewN (Below.refl _ _) _).mono HBW.out.size)⟩
      · have t1 : key.toList.isEmpty = false := by simpa using hk
        rw [t1] at HE
        clear hk
        obtain ⟨⟨vk, vn, vs⟩, hvx⟩ : ∃ v, vo x.v key = v := ⟨_, rfl⟩
        obtain ⟨q, hq⟩ : ∃ v, vq x.v key = v := ⟨_, rfl⟩
        rw [hvx] at HVO
        rw [hvx, hq] at HRV HE
        unfold V1Post at HRV
        clear hvx hq
        go_quiet (fail)
        go_upto_region 7 with (go_at_call 59; (refine (HRV.out _ (below_drewN (Below.refl _ _) _)).mono ?_); rintro e w1 ⟨rfl, b1⟩; have HB1 := Lib.hid (below_then (below_drewN (Below.refl W.heap.size W) _) b1); clear b1)
        obtain ⟨U, hU⟩ : ∃ U, U = w1.alloc (.cells #[.int .i64 vk, .int .i64 vn, .string vs] 98) := ⟨_, rfl⟩
        obtain ⟨xb, hxb⟩ : ∃ b, b = w1.heap.size := ⟨_, rfl⟩
        have hBU : Below W.heap.size W U := below_then HB1.out (by rw [hU]; exact below_box _ _)
        have eX : U.heap[xb]? = some (.cells #[.int .i64 vk, .int .i64 vn, .string vs] 98 (0, 0)) := by rw [hU, hxb]; exact heap_new _ _
        rw [← hU, ← hxb]
        have HXB : Hid (∀ u, Below U.heap.size U u → u.cell? ⟨xb, 0, none⟩ = some (.int .i64 vk) ∧ u.cell? ⟨xb, 1, none⟩ = some (.int .i64 vn) ∧ u.cell? ⟨xb, 2, none⟩ = some (.string vs) ∧ xb < u.heap.size) := Lib.hid (fun u hu => by
          have e := (hu.block _ (Array.getElem?_eq_some_iff.1 eX).1).trans eX
          exact ⟨by rw [cell_of_blk e]; rfl, by rw [cell_of_blk e]; rfl, by rw [cell_of_blk e]; rfl, (Array.getElem?_eq_some_iff.1 e).1⟩)
        have HBU := Lib.hid hBU
        clear hU hxb hBU eX p0 p1 p2 p3 p4 p5 p6 p7 pl c0 hzr k1 hbl n1 hzi hil hne t1
        obtain ⟨p0, p1, p2, p3, p4, p5, p6, p7, pl⟩ := HNB.out U HBU.out
        obtain ⟨x0, x1, x2, xl⟩ := HXB.out U (Below.refl _ _)
        have hfin : ∀ u, Below U.heap.size U u → Below w.heap.size w u := fun u hu => HBW.out.trans ((below_then HBU.out hu).mono HBW.out.size)
        have HFIN := Lib.hid hfin
        clear hfin
        cases q
        · have HF : Hid (b = false) := Lib.hid (by rw [HE.out]; rfl)
          go_wp2_with fail
          go_ret
          exact ⟨by (rw [HF.out]; first | done | rfl), HFIN.out _ (Below.refl _ _)⟩
        · have HC1a : ∀ u, Calls Tryz.prog 60 #[.agg #[.int .i64 vk, .int .i64 vn, .string vs], .agg #[.int .i64 low.kind, .int .i64 low.n, .string low.s]] u fun e w' => e = .returned (.int .i64 (Vl.cmp ⟨vk, vn, vs⟩ low)) ∧ Below u.heap.size u w' := fun u => r2compare_any ⟨vk, vn, vs⟩ low u HVO.out
          have HC2a : ∀ u, Calls Tryz.prog 60 #[.agg #[.int .i64 vk, .int .i64 vn, .string vs], .agg #[.int .i64 high.kind, .int .i64 high.n, .string high.s]] u fun e w' => e = .returned (.int .i64 (Vl.cmp ⟨vk, vn, vs⟩ high)) ∧ Below u.heap.size u w' := fun u => r2compare_any ⟨vk, vn, vs⟩ high u HVO.out
          obtain ⟨c1, hc1⟩ : ∃ c, Vl.cmp ⟨vk, vn, vs⟩ low = c := ⟨_, rfl⟩
          obtain ⟨c2, hc2⟩ : ∃ c, Vl.cmp ⟨vk, vn, vs⟩ high = c := ⟨_, rfl⟩
          obtain ⟨d1, hd1⟩ : ∃ p, decide (0 ≤ c1) = p := ⟨_, rfl⟩
          obtain ⟨d2, hd2⟩ : ∃ p, decide (c2 ≤ 0) = p := ⟨_, rfl⟩
          rw [hc1, hc2, hd1, hd2] at HE
          simp only [hc1] at HC1a
          simp only [hc2] at HC2a
          have HC1 := Lib.hid HC1a
          have HC2 := Lib.hid HC2a
          clear HC1a HC2a hc1 hc2
          go_wp2_with fail
          refine (HC1.out U).mono ?_
          rintro e u1 ⟨rfl, bu1⟩
          have HBU1 := Lib.hid bu1
          obtain ⟨p0', p1', p2', p3', p4', p5', p6', p7', pl'⟩ := HNB.out u1 (below_then HBU.out bu1)
          obtain ⟨x0', x1', x2', xl'⟩ := HXB.out u1 bu1
          clear bu1
          cases d1
          · have HF : Hid (b = false) := Lib.hid (by rw [HE.out]; rfl)
            go_wp2_with fail
            go_ret
            exact ⟨by (rw [HF.out]; first | done | rfl), HFIN.out _ HBU1.out⟩
          · have HF : Hid (b = d2) := Lib.hid (by rw [HE.out]; rfl)
            go_wp2_with fail
            refine (HC2.out u1).mono ?_
            rintro e u2 ⟨rfl, bu2⟩
            have HBU2 := Lib.hid (below_then HBU1.out bu2)
            clear bu2
            go_wp2_with fail
            go_ret
            exact ⟨by (rw [HF.out]; first | done | rfl), HFIN.out _ HBU2.out⟩
end Go.Proofs.YtonilojjahfboaaGreat
namespace Go.Proofs.YtonilojjahfboaaGreat
open Go.RowKit Go.Maps

theorem atB_sortedE {EL : List Er} (hs : SortB Eg.id (EL.map Er.e)) {i : Nat} {x : Er} (hx : EL[i]? = some x) {r : Int} (h : AtB (fun x : Er => x.e.id) EL x.e.id r) : r = i := by
  rcases h with ⟨_, h⟩ | ⟨j, y, h1, h2, h3⟩
  · exact absurd rfl (h x (List.mem_of_getElem? hx))
  · have hp : EL.Pairwise (fun a b => a.e.id < b.e.id) := by
      have h' : (EL.map Er.e).Pairwise (fun a b => a.id < b.id) := hs
      rwa [List.pairwise_map] at h'
    rw [h1]
    rcases Nat.lt_trichotomy i j with hij | hij | hij
    · have hi := (List.getElem?_eq_some_iff.1 hx)
      have hj := (List.getElem?_eq_some_iff.1 h2)
      have := List.pairwise_iff_getElem.1 hp i j hi.1 hj.1 hij
      rw [hi.2, hj.2] at this
      have h3' : y.e.id = x.e.id := h3
      omega
    · rw [hij]
    · have hi := (List.getElem?_eq_some_iff.1 hx)
      have hj := (List.getElem?_eq_some_iff.1 h2)
      have := List.pairwise_iff_getElem.1 hp j i hj.1 hi.1 hij
      rw [hi.2, hj.2] at this
      have h3' : y.e.id = x.e.id := h3
      omega
/-- a struct of five cells stored into a block of one's own -/
theorem res5 {w wc W9 : World} {B : Nat} {u0 u1 u2 u3 u4 : Value} {ty : TypeId} (hB : w.heap.size ≤ B) (hb : Below w.heap.size w wc) (hbv : wc.heap[B]? = some (.cells #[u0, u1, u2, u3, u4] ty (0, 0))) (x y z u v : Value) (e9 : W9 = ((((wc.setCell ⟨B, 0, none⟩ x).setCell ⟨B, 1, none⟩ y).setCell ⟨B, 2, none⟩ z).setCell ⟨B, 3, none⟩ u).setCell ⟨B, 4, none⟩ v) :
    Below w.heap.size w W9 ∧ W9.heap[B]? = some (.cells #[x, y, z, u, v] ty (0, 0)) := by
  subst e9
  have hb9 := blk_setCell (blk_setCell (blk_setCell (blk_setCell (blk_setCell hbv x (i := 0)) y (i := 1)) z (i := 2)) u (i := 3)) v (i := 4)
  exact ⟨((((hb.setCell (p := ⟨B, 0, none⟩) hB _).setCell (p := ⟨B, 1, none⟩) hB _).setCell (p := ⟨B, 2, none⟩) hB _).setCell (p := ⟨B, 3, none⟩) hB _).setCell (p := ⟨B, 4, none⟩) hB _, hb9⟩
def NrPost (w0 w : World) (rb qb : Nat) (st : Option Nat) (E : List Eg) (n : Int) (out : Bool) (lab : ByteArray) (e : Ending) (w' : World) : Prop :=
  ∃ a c L, e = .returned (.slice a L.length c) ∧ L = (if (payS st (1 + (idsE E (sideP out n)).length)).isSome then nextL E out lab n else []) ∧ kI.Own w' w.heap.size (.slice a L.length c) L ∧ WrS w0 w' rb qb (payS st (1 + (idsE E (sideP out n)).length)) ∧ Chg w w' (fun i => i = rb)
def NrRel (w0 w : World) (rb qb : Nat) (st1 : Option Nat) (E : List Eg) (out : Bool) (lab : ByteArray) (ids : List Int) (ia : Option Addr) (ic : Nat) (v i : Value) (wr : World) : Prop :=
  ∃ k : Nat, k ≤ ids.length ∧ i = .int .i64 k ∧ kI.Own wr w.heap.size v (setI ((ids.take k).flatMap (nx E out lab))) ∧ WrS w0 wr rb qb (payS st1 k) ∧ (payS st1 k).isSome = true ∧ kI.Own wr w.heap.size (.slice ia ids.length ic) ids ∧ Chg w wr (fun i => i = rb)
theorem setI_nil : setI [] = [] := incI_uniq (setI_spec _).1 List.Pairwise.nil (fun k => by rw [(setI_spec _).2])
theorem setI_len (l : List Int) : (setI l).length ≤ l.length := by
  unfold setI
  exact Nat.le_trans (compact_len _) (Nat.le_of_eq (sortI_perm l).length_eq)
set_option maxRecDepth 100000 in
set_option maxHeartbeats 4000000 in
theorem r17next_any (w0 w : World) (rb qb B : Nat) (VL : List Vr) (EL : List Er) (st : Option Nat) (n : Int) (out : Bool) (lab : ByteArray) (hg : RgL w0 qb B VL EL) (hs : SortB Eg.id (EL.map Er.e)) (h : WrS w0 w rb qb st) (hE : EL.length ≤ 1000000) :
    Calls Tryz.prog 122 #[.pointer (some ⟨rb, 0, none⟩), .int .i64 n, .bool out, .string lab] w (NrPost w0 w rb qb st (EL.map Er.e) n out lab) := by
  obtain ⟨m, hm⟩ : ∃ m, m = EL.length := ⟨_, rfl⟩
  have HQ : Hid (∃ ea ec, ∀ u, Below w0.heap.size w0 u → u.cell? ⟨qb, 1, none⟩ = some (.slice ea m ec) ∧ qb < u.heap.size ∧ kEr.V u ea EL) := Lib.hid (by
    obtain ⟨⟨va, vc, ea, ec, h1, h2, h3⟩, _⟩ := hg
    refine ⟨ea, ec, fun u hu => ?_⟩
    have e := (hu.block _ (Array.getElem?_eq_some_iff.1 h1).1).trans h1
    exact ⟨by rw [cell_of_blk e, hm]; rfl, (Array.getElem?_eq_some_iff.1 e).1, (h3.below hu).toV⟩)
  have HE16 : Hid (∀ u, Below w0.heap.size w0 u → ∀ k, Calls Tryz.prog 67 #[.pointer (some ⟨qb, 0, none⟩), .int .i64 k] u fun e w' => u = w' ∧ ∃ r, e = .returned (.int .i64 r) ∧ AtB (fun x : Er => x.e.id) EL k r) := Lib.hid (fun u hu k => r16E_any (hg.below hu) hE k)
  have HM : Hid (m = EL.length ∧ m ≤ 1000000) := Lib.hid ⟨hm, by omega⟩
  have HS := Lib.hid hs
  have H0 := Lib.hid h
  obtain ⟨E, hEE⟩ : ∃ E, E = EL.map Er.e := ⟨_, rfl⟩
  have HEE := Lib.hid hEE
  rw [← hEE]
  clear hm hg hs h hE hEE
  go_enter Tryz.func122, Tryz.ntmps122
  go_wp2_with fail
  refine (r17pay_any w0 w rb qb st 1 H0.out).mono ?_
  rintro e w1 ⟨rfl, s1, k1⟩
  obtain ⟨st1, hst1⟩ : ∃ s, s = payS st 1 := ⟨_, rfl⟩
  have e1 : (1 : Int).toNat = 1 := rfl
  rw [e1, ← hst1] at s1 ⊢
  have HFIN : Hid (∀ d, payS st (1 + d) = payS st1 d) := Lib.hid (fun d => by rw [hst1, payS_add])
  have S1 := Lib.hid s1
  have K1 := Lib.hid k1
  clear s1 k1 hst1 e1
  obtain ⟨ea, ec, hq⟩ := HQ.out
  have HQQ := Lib.hid hq
  clear hq HQ
  cases st1 with
  | none =>
    have HP : Hid (payS none (idsE E (sideP out n)).length = none) := Lib.hid rfl
    simp only [Option.isSome_none]
    go_wp2_with fail
    go_ret
    unfold NrPost
    rw [HFIN.out, HP.out]
    exact ⟨none, 0, [], rfl, rfl, RowK.Own.nil kI _ _, S1.out, K1.out⟩
  | some s =>
    simp only [Option.isSome_some]
    obtain ⟨d1, d2, d3⟩ := HQQ.out w1 S1.out.bel
    have HEN : Hid (Calls Tryz.prog 121 #[.pointer (some ⟨qb, 0, none⟩), .int .i64 n, .bool out] w1 (EsPost E (sideP out n) w1)) := Lib.hid (by rw [HM.out.1] at d1; rw [HEE.out]; exact r16ends_any d1 d3 (by rw [← HM.out.1]; exact HM.out.2) n out)
    obtain ⟨c0, _⟩ := S1.out.cells
    have hl := S1.out.lt
    clear d3
    go_wp2_with fail
    refine HEN.out.mono ?_
    rintro e w2 ⟨v, rfl, o2, b2⟩
    obtain ⟨ia, ic, rfl⟩ := o2.shape
    obtain ⟨ids, hids⟩ : ∃ ids, ids = idsE E (sideP out n) := ⟨_, rfl⟩
    rw [← hids] at o2 ⊢
    have HIDS := Lib.hid hids
    have HO2 : Hid (kI.Own w2 w.heap.size (.slice ia ids.length ic) ids) := Lib.hid (o2.mono K1.out.size)
    have S2 := Lib.hid (S1.out.below b2)
    have K2 : Hid (Chg w w2 (fun i => i = rb)) := Lib.hid (K1.out.trans (Chg.of_below b2 (fun _ => False)) (fun _ _ e => e.elim))
    have HIL : Hid (ids.length ≤ 1000000) := Lib.hid (by rw [hids, HEE.out]; refine Nat.le_trans (idsE_len _ _) ?_; rw [List.length_map, ← HM.out.1]; exact HM.out.2)
    clear hids o2 b2 c0 hl d1 d2 HEN
    go_wp2_with fail
    go_loopw [10, 11] (fun v i wr => NrRel w0 w rb qb (some s) E out lab ids ia ic v i wr) (fun _ i _ => ids.length - (intOf i).toNat)
    case atStart => exact ⟨0, Nat.zero_le _, rfl, by rw [List.take_zero]; show kI.Own _ _ _ (setI []); rw [setI_nil]; exact RowK.Own.nil kI _ _, by rw [payS_zero]; exact S2.out, by rw [payS_zero]; rfl, HO2.out, K2.out⟩
    case round =>
      obtain ⟨k, hk, rfl, hacc, hS, hor, hOl, hK⟩ := hrel
      obtain ⟨va, vc, rfl⟩ := hacc.shape
      obtain ⟨acc, hac⟩ : ∃ acc, acc = setI ((ids.take k).flatMap (nx E out lab)) := ⟨_, rfl⟩
      rw [← hac] at hacc
      rw [← hac]
      have HAC := Lib.hid hac
      have HACC := Lib.hid hacc
      have HS := Lib.hid hS
      have HOR := Lib.hid hor
      have HOL := Lib.hid hOl
      have HK := Lib.hid hK
      have HAL : Hid (acc.length ≤ 1000000) := Lib.hid (by rw [hac]; refine Nat.le_trans (setI_len _) (Nat.le_trans (nx_len _ _ _ _) ?_); rw [List.length_take]; have := HIL.out; omega)
      clear hac hacc hS hor hOl hK
      have hkb : k ≤ 1000000 := Nat.le_trans hk HIL.out
      by_cases hlt : k < ids.length
      · obtain ⟨y, hy⟩ : ∃ y, ids[k]? = some y := ⟨_, List.getElem?_eq_getElem hlt⟩
        have HY := Lib.hid hy
        have tk : decide ((k : Int) < (ids.length : Int)) = true := decide_eq_true (by omega)
        have HXJ : Hid (∃ (j : Nat) (x : Er), EL[j]? = some x ∧ x.e.id = y ∧ getE E y = x.e) := Lib.hid (by
          have hm : y ∈ idsE E (sideP out n) := by rw [← HIDS.out]; exact List.mem_of_getElem? hy
          obtain ⟨e, he, _, h3, h4, h5⟩ := ids_found (by rw [HEE.out]; exact ‹Hid (SortB Eg.id (EL.map Er.e))›.out) hm
          rw [HEE.out] at he
          obtain ⟨x, hx, rfl⟩ := List.mem_map.1 he
          obtain ⟨j, hj⟩ := List.getElem?_of_mem hx
          exact ⟨j, x, hj, h3, h5⟩)
        clear hy
        go_wp2_with fail
        refine (r17pay_any w0 wr rb qb _ 1 HS.out).mono ?_
        rintro e w3 ⟨rfl, s3, k3⟩
        have e1 : (1 : Int).toNat = 1 := rfl
        rw [e1, payS_add] at s3 ⊢
        have S3 := Lib.hid s3
        have K3 := Lib.hid k3
        clear s3 k3 e1
        obtain ⟨ok, hok⟩ : ∃ ok, ok = payS (some s) (k + 1) := ⟨_, rfl⟩
        rw [← hok] at S3 ⊢
        have HOK := Lib.hid hok
        clear hok
        cases ok with
        | none =>
          have HFN : Hid (payS (some s) ids.length = none) := Lib.hid (by
            rw [show ids.length = (k + 1) + (ids.length - (k + 1)) by omega, ← payS_add, ← HOK.out]
            rfl)
          have HKF : Hid (Chg w w3 (fun i => i = rb)) := Lib.hid (HK.out.trans K3.out (fun _ _ h => h))
          simp only [Option.isSome_none]
          go_wp2_with fail
          go_ret
          unfold NrPost
          rw [HFIN.out, ← HIDS.out, HFN.out]
          exact ⟨none, 0, [], rfl, rfl, RowK.Own.nil kI _ _, S3.out, HKF.out⟩
        | some r =>
          simp only [Option.isSome_some]
          obtain ⟨j, x, hx, hxid, hgx⟩ := HXJ.out
          obtain ⟨d1, d2, d3⟩ := HQQ.out w3 S3.out.bel
          obtain ⟨lb, off, rfl, hat⟩ := d3 (fun e => by rw [e] at hx; simp at hx)
          have HA3 : Hid (∀ u, Below w3.heap.size w3 u → kEr.V u (some ⟨lb, off, none⟩) EL) := Lib.hid (fun u hu => d3.below hu)
          have hjm : j < m := by have := (List.getElem?_eq_some_iff.1 hx).1; have := HM.out.1; omega
          have hjz : (j : Int) < (m : Int) := by omega
          have hne3 : ∀ i, (Value.slice ia ids.length ic).ownBlock = some i → ¬ i = rb := fun i hi e => by have := (HOL.out.lt i hi).1; have := K1.out.size; have := H0.out.lt; omega
          have HOL3 := Lib.hid (HOL.out.chg K3.out hne3)
          have hne4 : ∀ i, (Value.slice va acc.length vc).ownBlock = some i → ¬ i = rb := fun i hi e => by have := (HACC.out.lt i hi).1; have := H0.out.lt; omega
          have HAC3 := Lib.hid (HACC.out.chg K3.out hne4)
          obtain ⟨ib, icap, hsl, _, _, hati⟩ := HOL3.out.at' (fun e => by rw [e] at hlt; simp at hlt)
          injection hsl with g1 g2 g3
          subst g1
          clear g2 g3
          have q0 := hati.cells k y HY.out 0 _ rfl
          simp [kI] at q0
          have hibl := hati.lt
          have y0 := hat.cells j x hx 0 _ rfl
          have y1 := hat.cells j x hx 1 _ rfl
          have y2 := hat.cells j x hx 2 _ rfl
          have y3 := hat.cells j x hx 3 _ rfl
          have y4 := hat.cells j x hx 4 _ rfl
          simp [kEr] at y0 y1 y2 y3 y4
          have hbl := hat.lt
          obtain ⟨c0, _⟩ := S3.out.cells
          have hl := S3.out.lt
          have HFC : Hid (∀ u, Below w3.heap.size w3 u → Below w3.heap.size w3 u ∧ (u.cell? ⟨rb, 0, none⟩ = some (.pointer (some ⟨qb, 0, none⟩)) ∧ u.cell? ⟨qb, 1, none⟩ = some (.slice (some ⟨lb, off, none⟩) m ec) ∧ u.cell? ⟨ib, k, none⟩ = some (.int .i64 y)) ∧ (u.cell? ⟨lb, off + j * 5, none⟩ = some (.int .i64 x.e.id) ∧ u.cell? ⟨lb, off + j * 5 + 1, none⟩ = some (.string x.e.label) ∧ u.cell? ⟨lb, off + j * 5 + 2, none⟩ = some (.int .i64 x.e.fr) ∧ u.cell? ⟨lb, off + j * 5 + 3, none⟩ = some (.int .i64 x.e.to) ∧ u.cell? ⟨lb, off + j * 5 + 4, none⟩ = some (.slice x.a x.e.ps.length x.c)) ∧ rb < u.heap.size ∧ qb < u.heap.size ∧ ib < u.heap.size ∧ lb < u.heap.size) := Lib.hid (fun u hu =>
            ⟨hu, ⟨(hu.cell (p := ⟨rb, 0, none⟩) hl).trans c0, (hu.cell (p := ⟨qb, 1, none⟩) d2).trans d1, (hu.cell (p := ⟨ib, k, none⟩) hibl).trans q0⟩, ⟨(hu.cell (p := ⟨lb, _, none⟩) hbl).trans y0, (hu.cell (p := ⟨lb, _, none⟩) hbl).trans y1, (hu.cell (p := ⟨lb, _, none⟩) hbl).trans y2, (hu.cell (p := ⟨lb, _, none⟩) hbl).trans y3, (hu.cell (p := ⟨lb, _, none⟩) hbl).trans y4⟩, Nat.lt_of_lt_of_le hl hu.size, Nat.lt_of_lt_of_le d2 hu.size, Nat.lt_of_lt_of_le hibl hu.size, Nat.lt_of_lt_of_le hbl hu.size⟩)
          have HE3 : Hid (∀ u, Below w3.heap.size w3 u → Calls Tryz.prog 67 #[.pointer (some ⟨qb, 0, none⟩), .int .i64 y] u fun e w' => e = .returned (.int .i64 (j : Int)) ∧ u = w') := Lib.hid (fun u hu => by
            refine (HE16.out u (S3.out.bel.trans (hu.mono S3.out.bel.size)) y).mono ?_
            rintro e w' ⟨rfl, r, rfl, hr⟩
            rw [← hxid] at hr
            rw [atB_sortedE ‹Hid (SortB Eg.id (EL.map Er.e))›.out hx hr]
            exact ⟨rfl, rfl⟩)
          have HJX := Lib.hid (And.intro hx (And.intro hxid hgx))
          clear hx hxid hgx d1 d2 hat hati q0 hibl y0 y1 y2 y3 y4 hbl c0 hl d3 hne3 hne4 tk
          go_upto_region 10 with fail
          go_cut [12] from 33 to 50 (fun s12 wc => ∃ (xb : Nat) (u : World), u = wc ∧ s12 = .pointer (some ⟨xb, 0, none⟩) ∧ Hid (Below w3.heap.size w3 u ∧ u.heap[xb]? = some (.cells #[.int .i64 x.e.id, .string x.e.label, .int .i64 x.e.fr, .int .i64 x.e.to, .slice x.a x.e.ps.length x.c] 30 (0, 0))))
          case first =>
            go_region_held3 (fun u => Below w3.heap.size w3 u ∧ (u.cell? ⟨rb, 0, none⟩ = some (.pointer (some ⟨qb, 0, none⟩)) ∧ u.cell? ⟨qb, 1, none⟩ = some (.slice (some ⟨lb, off, none⟩) m ec) ∧ u.cell? ⟨ib, k, none⟩ = some (.int .i64 y)) ∧ (u.cell? ⟨lb, off + j * 5, none⟩ = some (.int .i64 x.e.id) ∧ u.cell? ⟨lb, off + j * 5 + 1, none⟩ = some (.string x.e.label) ∧ u.cell? ⟨lb, off + j * 5 + 2, none⟩ = some (.int .i64 x.e.fr) ∧ u.cell? ⟨lb, off + j * 5 + 3, none⟩ = some (.int .i64 x.e.to) ∧ u.cell? ⟨lb, off + j * 5 + 4, none⟩ = some (.slice x.a x.e.ps.length x.c)) ∧ rb < u.heap.size ∧ qb < u.heap.size ∧ ib < u.heap.size ∧ lb < u.heap.size)
              (first | exact HFC.out _ (Below.refl _ _).drew | exact HFC.out _ HBC.out | exact HFC.out _ (below_then HBC.out (below_box _ _)) | exact HFC.out _ (below_box _ _).drew | exact HFC.out _ (below_box _ _) | exact HFC.out _ (res5 (Nat.le_refl _) HBC.out hbv _ _ _ _ _ rfl).1)
              ((go_at_call 67; (refine (HE3.out _ (by go_split_ands; assumption)).mono ?_); rintro e wc ⟨rfl, rfl⟩; have HBC := Lib.hid (show Below w3.heap.size w3 _ by go_split_ands; assumption)))
            all_goals
              go_wp2_with fail
              go_meet
              exact ⟨_, _, rfl, rfl, Lib.hid ⟨(below_box _ _).drew, heap_new _ _⟩⟩
          case rest =>
          obtain ⟨xb, u, rfl, rfl, HU⟩ := hcut
          have e1 := cell_of_blk HU.out.2 1
          have e2 := cell_of_blk HU.out.2 2
          have e3 := cell_of_blk HU.out.2 3
          simp at e1 e2 e3
          have hxl := (Array.getElem?_eq_some_iff.1 HU.out.2).1
          have HACU := Lib.hid (HAC3.out.below HU.out.1)
          have HIN : Hid (IncI acc) := Lib.hid (by rw [HAC.out]; exact (setI_spec _).1)
          have HZU : Hid (w.heap.size ≤ u.heap.size) := Lib.hid (by have := HK.out.size; have := K3.out.size; have := HU.out.1.size; omega)
          have HNEXT : Hid (∀ (v9 : Value) (w9 : World), kI.Own w9 w.heap.size v9 (if nx E out lab y = [] then acc else setI (acc ++ nx E out lab y)) → Below u.heap.size u w9 → NrRel w0 w rb qb (some s) E out lab ids (some ⟨ib, 0, none⟩) ic v9 (.int .i64 ((k : Int) + 1)) w9) := Lib.hid (fun v9 w9 ho hb => by
            have hb3 : Below w3.heap.size w3 w9 := below_then HU.out.1 hb
            refine ⟨k + 1, hlt, by simp, ?_, ?_, ?_, HOL3.out.below hb3, (HK.out.trans K3.out (fun _ _ h => h)).trans (Chg.of_below hb3 (fun _ => False)) (fun _ _ e => e.elim)⟩
            · rw [take_flat _ HY.out]
              split at ho
              · rename_i hn
                rw [hn, List.append_nil, ← HAC.out]; exact ho
              · rw [HAC.out] at ho
                have hps : ∀ (f : List Int) (L : List Int), setI (setI L ++ f) = setI (L ++ f) := fun f L => incI_uniq (setI_spec _).1 (setI_spec _).1 (fun q => by rw [(setI_spec _).2, (setI_spec _).2, List.mem_append, List.mem_append, (setI_spec _).2])
                rw [hps] at ho
                exact ho
            · rw [← HOK.out]; exact S3.out.below hb3
            · rw [← HOK.out]; rfl)
          cases hl0 : lab.toList.isEmpty
          · have HL0 : Hid (lab.toList ≠ []) := Lib.hid (by intro e; rw [e] at hl0; cases hl0)
            by_cases hle : x.e.label = lab
            · have t2 : (x.e.label.toList == lab.toList) = true := by simp [hle]
              have HLQ := Lib.hid (show (getE E y).label = lab by rw [HJX.out.2.2]; exact hle)
              clear hle
              cases out
              · have HNX : Hid (nx E false lab y = [x.e.fr]) := Lib.hid (by unfold nx; rw [HJX.out.2.2, if_pos (.inr (by rw [← HJX.out.2.2]; exact HLQ.out))]; rfl)
                have HPT := Lib.hid (r17put_any HACU.out HIN.out HAL.out (x.e.fr) HZU.out)
                go_wp2_with (first | (go_at_call 220; (with_reducible refine HPT.out.mono ?_); rintro e w9 ⟨a9, c9, rfl, o9, b9⟩; have HO9 := Lib.hid o9; have HB9 := Lib.hid b9; clear o9 b9) | fail)
                refine ⟨HNEXT.out _ w9 (by rw [HNX.out, if_neg (by simp)]; exact HO9.out) HB9.out, by simp [intOf]; omega⟩
              · have HNX : Hid (nx E true lab y = [x.e.to]) := Lib.hid (by unfold nx; rw [HJX.out.2.2, if_pos (.inr (by rw [← HJX.out.2.2]; exact HLQ.out))]; rfl)
                have HPT := Lib.hid (r17put_any HACU.out HIN.out HAL.out (x.e.to) HZU.out)
                go_wp2_with (first | (go_at_call 220; (with_reducible refine HPT.out.mono ?_); rintro e w9 ⟨a9, c9, rfl, o9, b9⟩; have HO9 := Lib.hid o9; have HB9 := Lib.hid b9; clear o9 b9) | fail)
                refine ⟨HNEXT.out _ w9 (by rw [HNX.out, if_neg (by simp)]; exact HO9.out) HB9.out, by simp [intOf]; omega⟩
            · have t2 : (x.e.label.toList == lab.toList) = false := ba_ne' hle
              have HNX : Hid (nx E out lab y = []) := Lib.hid (by unfold nx; rw [if_neg (fun h => h.elim HL0.out (fun h => hle (by rw [← h, HJX.out.2.2])))])
              clear hle
              cases out
              all_goals
                go_wp2_with fail
                refine ⟨HNEXT.out _ u (by rw [if_pos HNX.out]; exact HACU.out) (Below.refl _ _), by simp [intOf]; omega⟩
          · have HL0 : Hid (lab.toList = []) := Lib.hid (by simpa using hl0)
            cases out
            · have HNX : Hid (nx E false lab y = [x.e.fr]) := Lib.hid (by unfold nx; rw [HJX.out.2.2, if_pos (.inl HL0.out)]; rfl)
              have HPT := Lib.hid (r17put_any HACU.out HIN.out HAL.out (x.e.fr) HZU.out)
              go_wp2_with (first | (go_at_call 220; (with_reducible refine HPT.out.mono ?_); rintro e w9 ⟨a9, c9, rfl, o9, b9⟩; have HO9 := Lib.hid o9; have HB9 := Lib.hid b9; clear o9 b9) | fail)
              refine ⟨HNEXT.out _ w9 (by rw [HNX.out, if_neg (by simp)]; exact HO9.out) HB9.out, by simp [intOf]; omega⟩
            · have HNX : Hid (nx E true lab y = [x.e.to]) := Lib.hid (by unfold nx; rw [HJX.out.2.2, if_pos (.inl HL0.out)]; rfl)
              have HPT := Lib.hid (r17put_any HACU.out HIN.out HAL.out (x.e.to) HZU.out)
              go_wp2_with (first | (go_at_call 220; (with_reducible refine HPT.out.mono ?_); rintro e w9 ⟨a9, c9, rfl, o9, b9⟩; have HO9 := Lib.hid o9; have HB9 := Lib.hid b9; clear o9 b9) | fail)
              refine ⟨HNEXT.out _ w9 (by rw [HNX.out, if_neg (by simp)]; exact HO9.out) HB9.out, by simp [intOf]; omega⟩
      · have tj : decide ((k : Int) < (ids.length : Int)) = false := decide_eq_false (by omega)
        have hkl : k = ids.length := by omega
        have HEND : Hid (acc = nextL E out lab n) := Lib.hid (by rw [HAC.out, hkl, List.take_length, HIDS.out]; rfl)
        have HST : Hid (payS (some s) ids.length = payS (some s) k) := Lib.hid (by rw [hkl])
        clear hkl
        go_wp2_with fail
        go_ret
        unfold NrPost
        rw [HFIN.out, ← HIDS.out, HST.out, HOR.out, if_pos rfl]
        exact ⟨_, vc, acc, rfl, HEND.out, HACC.out, HS.out, HK.out⟩
end Go.Proofs.YtonilojjahfboaaGreat
namespace Go.Proofs.YtonilojjahfboaaGreat
open Go.RowKit Go.Maps

theorem fitL_take {VL : List Vr} {j : Nat} {x : Vr} (lab key : ByteArray) (low high : Vl) (hx : VL[j]? = some x) : fitL ((VL.take (j + 1)).map Vr.v) lab key low high = fitL ((VL.take j).map Vr.v) lab key low high ++ (if fitP lab key low high x.v then [x.v.id] else []) := by
  unfold fitL
  rw [List.take_add_one, hx, List.map_append, List.filter_append, List.map_append]
  congr 1
  cases h : fitP lab key low high x.v <;> simp [h]
def FrPost (w0 w : World) (rb qb : Nat) (st : Option Nat) (l : List Int) (e : Ending) (w' : World) : Prop :=
  ∃ a c L, e = .returned (.slice a L.length c) ∧ L = (if (payS st 1).isSome then l else []) ∧ kI.Own w' w.heap.size (.slice a L.length c) L ∧ WrS w0 w' rb qb (payS st 1) ∧ Chg w w' (fun i => i = rb)
set_option maxRecDepth 100000 in
set_option maxHeartbeats 4000000 in
theorem r17find_any (w0 w : World) (rb qb : Nat) (VL : List Vr) (st : Option Nat) (lab key : ByteArray) (low high : Vl) (hg : RgV w0 qb VL) (h : WrS w0 w rb qb st) :
    Calls Tryz.prog 123 #[.pointer (some ⟨rb, 0, none⟩), .agg #[.string lab, .string key, .int .i64 low.kind, .int .i64 low.n, .string low.s, .int .i64 high.kind, .int .i64 high.n, .string high.s]] w (FrPost w0 w rb qb st (fitL (VL.map Vr.v) lab key low high)) := by
  obtain ⟨W, hW⟩ : ∃ W, W = w.alloc (.cells #[.string lab, .string key, .int .i64 low.kind, .int .i64 low.n, .string low.s, .int .i64 high.kind, .int .i64 high.n, .string high.s] 100) := ⟨_, rfl⟩
  have hBW : Below w.heap.size w W := by rw [hW]; exact below_box w _
  obtain ⟨nb, hnb⟩ : ∃ b, b = w.heap.size := ⟨_, rfl⟩
  have eN : W.heap[nb]? = some (.cells #[.string lab, .string key, .int .i64 low.kind, .int .i64 low.n, .string low.s, .int .i64 high.kind, .int .i64 high.n, .string high.s] 100 (0, 0)) := by rw [hW, hnb]; exact heap_new w _
  have hrn : rb < nb := by rw [hnb]; exact h.lt
  have HNB : Hid (∀ u, Chg W u (fun i => i = rb) → u.cell? ⟨nb, 0, none⟩ = some (.string lab) ∧ u.cell? ⟨nb, 1, none⟩ = some (.string key) ∧ u.cell? ⟨nb, 2, none⟩ = some (.int .i64 low.kind) ∧ u.cell? ⟨nb, 3, none⟩ = some (.int .i64 low.n) ∧ u.cell? ⟨nb, 4, none⟩ = some (.string low.s) ∧ u.cell? ⟨nb, 5, none⟩ = some (.int .i64 high.kind) ∧ u.cell? ⟨nb, 6, none⟩ = some (.int .i64 high.n) ∧ u.cell? ⟨nb, 7, none⟩ = some (.string high.s) ∧ nb < u.heap.size) := Lib.hid (fun u hu => by
    have e := (hu.block _ (Array.getElem?_eq_some_iff.1 eN).1 (fun e => by omega)).trans eN
    exact ⟨by rw [cell_of_blk e]; rfl, by rw [cell_of_blk e]; rfl, by rw [cell_of_blk e]; rfl, by rw [cell_of_blk e]; rfl, by rw [cell_of_blk e]; rfl, by rw [cell_of_blk e]; rfl, by rw [cell_of_blk e]; rfl, by rw [cell_of_blk e]; rfl, (Array.getElem?_eq_some_iff.1 e).1⟩)
  have HG := Lib.hid hg
  obtain ⟨n, hn⟩ : ∃ n, n = VL.length := ⟨_, rfl⟩
  have HQ : Hid (∃ va vc, ∀ u, Below w0.heap.size w0 u → u.cell? ⟨qb, 0, none⟩ = some (.slice va n vc) ∧ qb < u.heap.size ∧ kVr.V u va VL) := Lib.hid (by
    obtain ⟨⟨va, vc, c0, hv⟩, _⟩ := hg
    have hz := block_lt_of_cell c0
    rw [hn]
    exact ⟨va, vc, fun u hu => ⟨below_cell hu 0 hz c0, Nat.lt_of_lt_of_le hz hu.size, hv.below hu⟩⟩)
  have HN : Hid (n = VL.length ∧ n ≤ 1000000) := Lib.hid ⟨hn, by rw [hn]; exact hg.len⟩
  have HBW := Lib.hid hBW
  have H0 := Lib.hid (h.below hBW)
  have HLT := Lib.hid h.lt
  have HW := Lib.hid hW
  have HNBE := Lib.hid hnb
  have HCB : Hid (∀ u, Chg W u (fun i => i = rb) → Chg w u (fun i => i = rb)) := Lib.hid (fun u hu => (Chg.of_below hBW _).trans hu (fun i _ h => h))
  obtain ⟨va, vc, hq⟩ := HQ.out
  have HQQ := Lib.hid hq
  clear hg h hW hBW hnb hn eN hrn hq HQ
  go_enter Tryz.func123, Tryz.ntmps123
  go_upto_region 1 with fail
  rw [← HW.out, ← HNBE.out]
  go_wp2_with fail
  refine (r17pay_any w0 W rb qb st 1 H0.out).mono ?_
  rintro e w1 ⟨rfl, s1, k1⟩
  have e1 : (1 : Int).toNat = 1 := rfl
  unfold FrPost
  rw [e1] at s1 ⊢
  obtain ⟨st1, hst1⟩ : ∃ s, s = payS st 1 := ⟨_, rfl⟩
  rw [← hst1] at s1 ⊢
  have S1 := Lib.hid s1
  have K1 := Lib.hid k1
  have HS1 := Lib.hid hst1
  have HWZ : Hid (w.heap.size ≤ w1.heap.size) := Lib.hid (by have := HBW.out.size; have := k1.size; omega)
  clear s1 k1 hst1 e1
  cases st1 with
  | none =>
    simp only [Option.isSome_none]
    go_wp2_with fail
    go_ret
    exact ⟨none, 0, [], rfl, by rw [← HS1.out]; rfl, RowK.Own.nil kI _ _, by rw [← HS1.out]; exact S1.out, HCB.out _ K1.out⟩
  | some s =>
    simp only [Option.isSome_some]
    go_wp2_with fail
    go_loopw [5, 6] (fun v i wr => ∃ j : Nat, i = .int .i64 j ∧ j ≤ n ∧ kI.Own wr w1.heap.size v (fitL ((VL.take j).map Vr.v) lab key low high) ∧ Below w1.heap.size w1 wr) (fun _ i _ => n - (intOf i).toNat)
    case atStart => exact ⟨0, rfl, Nat.zero_le _, RowK.Own.nil kI _ _, Below.refl _ _⟩
    case round =>
      obtain ⟨j, rfl, hj, hO, hB⟩ := hrel
      have hml := HN.out.2
      obtain ⟨oa, oc, rfl⟩ := hO.shape
      obtain ⟨acc, hacc⟩ : ∃ l, l = fitL ((VL.take j).map Vr.v) lab key low high := ⟨_, rfl⟩
      rw [← hacc] at hO ⊢
      have HAC := Lib.hid hacc
      have HO := Lib.hid hO
      have HB := Lib.hid hB
      have HAL : Hid (acc.length ≤ j) := Lib.hid (by rw [hacc]; refine Nat.le_trans (fitL_len _ _ _ _ _) ?_; rw [List.length_map, List.length_take]; omega)
      have HSR := Lib.hid (S1.out.below hB)
      obtain ⟨d1, hz, hv⟩ := HQQ.out wr HSR.out.bel
      obtain ⟨c0, _⟩ := HSR.out.cells
      have hl := HSR.out.lt
      clear hacc hO hB
      by_cases hlt : j < n
      · obtain ⟨x, hx⟩ : ∃ x, VL[j]? = some x := ⟨_, List.getElem?_eq_getElem (by have := HN.out; omega)⟩
        obtain ⟨b, off, rfl, hat⟩ := hv (fun e => by rw [e] at hx; simp at hx)
        obtain ⟨x0, _, _⟩ := kVr_cells hat hx
        have hbl := hat.lt
        have HXI : Hid (isN (VL.map Vr.v) lab key low high x.v.id = fitP lab key low high x.v) := Lib.hid (isN_some HG.out.so (List.mem_map.2 ⟨x, List.mem_of_getElem? hx, rfl⟩))
        have HT := Lib.hid (fitL_take lab key low high hx)
        obtain ⟨p0, p1, p2, p3, p4, p5, p6, p7, pl⟩ := HNB.out wr (K1.out.trans (Chg.of_below HB.out (fun _ => False)) (fun _ _ e => e.elim))
        have tj : decide ((j : Int) < (n : Int)) = true := decide_eq_true (by omega)
        clear hat hx hv
        obtain ⟨ok, hok⟩ : ∃ q, fitP lab key low high x.v = q := ⟨_, rfl⟩
        have HIS : Hid (∀ u, Below wr.heap.size wr u → Calls Tryz.prog 125 #[.pointer (some ⟨qb, 0, none⟩), .agg #[.string lab, .string key, .int .i64 low.kind, .int .i64 low.n, .string low.s, .int .i64 high.kind, .int .i64 high.n, .string high.s], .int .i64 x.v.id] u fun e w' => e = .returned (.bool ok) ∧ Below u.heap.size u w') := Lib.hid (fun u hu => by
          rw [← hok, ← HXI.out]
          exact r17is_any (HG.out.below (HSR.out.bel.trans (hu.mono HSR.out.bel.size))) lab key low high x.v.id)
        rw [hok] at HT
        clear hok
        have HFC : Hid (∀ u, Below wr.heap.size wr u → Below wr.heap.size wr u ∧ (u.cell? ⟨rb, 0, none⟩ = some (.pointer (some ⟨qb, 0, none⟩)) ∧ u.cell? ⟨qb, 0, none⟩ = some (.slice (some ⟨b, off, none⟩) n vc) ∧ u.cell? ⟨b, off + j * 3, none⟩ = some (.int .i64 x.v.id)) ∧ (u.cell? ⟨nb, 0, none⟩ = some (.string lab) ∧ u.cell? ⟨nb, 1, none⟩ = some (.string key) ∧ u.cell? ⟨nb, 2, none⟩ = some (.int .i64 low.kind) ∧ u.cell? ⟨nb, 3, none⟩ = some (.int .i64 low.n) ∧ u.cell? ⟨nb, 4, none⟩ = some (.string low.s) ∧ u.cell? ⟨nb, 5, none⟩ = some (.int .i64 high.kind) ∧ u.cell? ⟨nb, 6, none⟩ = some (.int .i64 high.n) ∧ u.cell? ⟨nb, 7, none⟩ = some (.string high.s)) ∧ rb < u.heap.size ∧ qb < u.heap.size ∧ b < u.heap.size ∧ nb < u.heap.size) := Lib.hid (fun u hu =>
          ⟨hu, ⟨(hu.cell (p := ⟨rb, 0, none⟩) hl).trans c0, (hu.cell (p := ⟨qb, 0, none⟩) hz).trans d1, (hu.cell (p := ⟨b, _, none⟩) hbl).trans x0⟩, ⟨(hu.cell (p := ⟨nb, _, none⟩) pl).trans p0, (hu.cell (p := ⟨nb, _, none⟩) pl).trans p1, (hu.cell (p := ⟨nb, _, none⟩) pl).trans p2, (hu.cell (p := ⟨nb, _, none⟩) pl).trans p3, (hu.cell (p := ⟨nb, _, none⟩) pl).trans p4, (hu.cell (p := ⟨nb, _, none⟩) pl).trans p5, (hu.cell (p := ⟨nb, _, none⟩) pl).trans p6, (hu.cell (p := ⟨nb, _, none⟩) pl).trans p7⟩, Nat.lt_of_lt_of_le hl hu.size, Nat.lt_of_lt_of_le hz hu.size, Nat.lt_of_lt_of_le hbl hu.size, Nat.lt_of_lt_of_le pl hu.size⟩)
        have hjz : (j : Int) < (n : Int) := by omega
        go_upto_region 7 with fail
        clear c0 d1 hz hl x0 hbl p0 p1 p2 p3 p4 p5 p6 p7 pl tj
        go_cut [38] from 22 to 37 (fun s38 wc => ∃ u : World, u = wc ∧ s38 = .bool ok ∧ Hid (Below wr.heap.size wr u))
        case first =>
          go_region_held3 (fun u => Below wr.heap.size wr u ∧ (u.cell? ⟨rb, 0, none⟩ = some (.pointer (some ⟨qb, 0, none⟩)) ∧ u.cell? ⟨qb, 0, none⟩ = some (.slice (some ⟨b, off, none⟩) n vc) ∧ u.cell? ⟨b, off + j * 3, none⟩ = some (.int .i64 x.v.id)) ∧ (u.cell? ⟨nb, 0, none⟩ = some (.string lab) ∧ u.cell? ⟨nb, 1, none⟩ = some (.string key) ∧ u.cell? ⟨nb, 2, none⟩ = some (.int .i64 low.kind) ∧ u.cell? ⟨nb, 3, none⟩ = some (.int .i64 low.n) ∧ u.cell? ⟨nb, 4, none⟩ = some (.string low.s) ∧ u.cell? ⟨nb, 5, none⟩ = some (.int .i64 high.kind) ∧ u.cell? ⟨nb, 6, none⟩ = some (.int .i64 high.n) ∧ u.cell? ⟨nb, 7, none⟩ = some (.string high.s)) ∧ rb < u.heap.size ∧ qb < u.heap.size ∧ b < u.heap.size ∧ nb < u.heap.size)
            (first | exact HFC.out _ (Below.refl _ _).drew | exact HFC.out _ HBC.out)
            (first | (go_at_call 125; (refine (HIS.out _ (by go_split_ands; assumption)).mono ?_); rintro e wc ⟨rfl, hbc⟩; have HBC := Lib.hid (below_then (show Below wr.heap.size wr _ by go_split_ands; assumption) hbc)) | fail)
          all_goals
            go_wp2_with fail
            go_meet
            exact ⟨_, rfl, rfl, HBC⟩
        case rest =>
        obtain ⟨u, rfl, rfl, HU⟩ := hcut
        have HB2 : Hid (Below w1.heap.size w1 u) := Lib.hid (HB.out.trans (HU.out.mono HB.out.size))
        have HOU := Lib.hid (HO.out.below HU.out)
        obtain ⟨_, ⟨c0, d1, x0⟩, _, hl, hz, hbl, _⟩ := HFC.out u HU.out
        have HZ : Hid (w1.heap.size ≤ u.heap.size) := Lib.hid HB2.out.size
        cases ok
        · have HP : Hid (acc = fitL ((VL.take (j + 1)).map Vr.v) lab key low high) := Lib.hid (by rw [HT.out, ← HAC.out]; simp)
          go_wp2_with fail
          exact ⟨⟨j + 1, by simp, hlt, by rw [← HP.out]; exact HOU.out, HB2.out⟩, by simp [intOf]; omega⟩
        · have HP : Hid (acc ++ [x.v.id] = fitL ((VL.take (j + 1)).map Vr.v) lab key low high) := Lib.hid (by rw [HT.out, ← HAC.out]; simp)
          have HXV := Lib.hid (int_new u u.heap.size rfl x.v.id)
          have HOA := Lib.hid (HOU.out.alloc (.cells #[.int .i64 x.v.id] 3))
          go_wp2_with (first | (at_builtin; refine RowK.wpList_app (k := kI) rfl (.tmp 39) (.tmp 51) rfl rfl HOA.out (some ⟨u.heap.size, 0, none⟩) 1 [x.v.id] 1 rfl rfl HXV.out (fun e => by cases e) (by have := HAL.out; simp; omega) (by have := HZ.out; simp; omega) ?_; intro v8 w8 hA; have HA8 := Lib.hid hA; clear hA) | fail)
          obtain ⟨oA, gA, kA⟩ := HA8.out
          refine ⟨⟨j + 1, by simp, hlt, by rw [← HP.out]; exact oA, ?_⟩, by simp [intOf]; omega⟩
          exact (HB2.out.alloc HB2.out.size (.cells #[.int .i64 x.v.id] 3)).grown gA (by have := HZ.out; simp; omega) (fun q hq => (HOA.out.lt q hq).1)
      · have tj : decide ((j : Int) < (n : Int)) = false := decide_eq_false (by omega)
        have HEND : Hid (acc = fitL (VL.map Vr.v) lab key low high) := Lib.hid (by rw [HAC.out, List.take_of_length_le (by rw [← HN.out.1]; omega)])
        go_wp2_with fail
        go_ret
        refine ⟨oa, oc, acc, rfl, by rw [← HS1.out]; exact HEND.out, HO.out.mono HWZ.out, by rw [← HS1.out]; exact HSR.out, HCB.out _ (K1.out.trans (Chg.of_below HB.out (fun _ => False)) (fun _ _ e => e.elim))⟩
end Go.Proofs.YtonilojjahfboaaGreat
namespace Go.Proofs.YtonilojjahfboaaGreat
open Go.RowKit Go.Maps

/-- what Edge leaves, with its properties -/
def WePost2 (w0 w : World) (wb gb : Nat) (st : Option Nat) (E : List Eg) (n : Int) (e : Ending) (w' : World) : Prop :=
  ∃ a c, e = .returned (.tuple #[(if (payS st 1).isSome then getE E n else Eg.zero).val a c, .bool ((payS st 1).isSome && (findB Eg.id E n).isSome)]) ∧ PsB w' w.heap.size a c (if (payS st 1).isSome then getE E n else Eg.zero).ps ∧ WkS w0 w' wb gb (payS st 1) ∧ Chg w w' (fun i => i = wb)
set_option maxRecDepth 100000 in
set_option maxHeartbeats 1000000 in
theorem wedge2_any (w0 w : World) (wb gb vb eb : Nat) (V : List Vt) (E : List Eg) (st : Option Nat) (n : Int) (hG : GrC w0 gb vb eb V E) (h : WkS w0 w wb gb st) (hn : I64 n) :
    Calls Tryz.prog 117 #[.pointer (some ⟨wb, 0, none⟩), .int .i64 n] w (WePost2 w0 w wb gb st E n) := by
  have HB0 := Lib.hid (below_box w (.cells #[.int .i64 0, .string ⟨#[]⟩, .int .i64 0, .int .i64 0, .slice none 0 0] 30))
  have HR := Lib.hid (heap_new w (.cells #[.int .i64 0, .string ⟨#[]⟩, .int .i64 0, .int .i64 0, .slice none 0 0] 30))
  have H0 := Lib.hid (h.below HB0.out)
  have HG := Lib.hid hG
  have HN := Lib.hid hn
  have hlw := Lib.hid h.lt
  have HL0 : Hid (w0.heap.size ≤ w.heap.size) := Lib.hid h.bel.size
  clear h hG hn
  go_enter Tryz.func117, Tryz.ntmps117
  go_wp2_with fail
  refine (pay_any w0 _ wb gb st H0.out).mono ?_
  rintro e w1 ⟨rfl, s1, k1⟩
  have S1 := Lib.hid s1
  have K1 : Hid (Chg w w1 (fun i => i = wb)) := Lib.hid ((Chg.of_below HB0.out _).trans k1 (fun i _ h => h))
  have x1 := (k1.block w.heap.size (by simp) (by have := hlw.out; omega)).trans HR.out
  have X1 := Lib.hid x1
  clear s1 k1
  obtain ⟨b, hb⟩ : ∃ b, (payS st 1).isSome = b := ⟨_, rfl⟩
  unfold WePost2
  rw [hb]
  have HBB := Lib.hid hb
  clear hb
  obtain ⟨c0, _, _, _, _⟩ := S1.out.cells
  have hm := mEdge (.pointer (some ⟨gb, 0, none⟩)) w1
  have hz : w.heap.size < w1.heap.size := (Array.getElem?_eq_some_iff.1 x1).1
  cases b
  · have r0 := cell_of_blk x1 0
    have g0 := frozen_of_blk x1 0
    have r1 := cell_of_blk x1 1
    have g1 := frozen_of_blk x1 1
    have r2 := cell_of_blk x1 2
    have g2 := frozen_of_blk x1 2
    have r3 := cell_of_blk x1 3
    have g3 := frozen_of_blk x1 3
    have r4 := cell_of_blk x1 4
    have g4 := frozen_of_blk x1 4
    simp at r0 r1 r2 r3 r4
    clear x1
    go_wp2_with fail
    refine bodyPost_ret (v := .tuple #[.agg #[.int .i64 0, .string ⟨#[]⟩, .int .i64 0, .int .i64 0, .slice none 0 0], .bool false]) (by simp [results, Tryz.results117, go_sem, r0, r1, r2, r3, r4]) rfl ⟨none, 0, by rw [HBB.out]; rfl, by rw [HBB.out]; exact ⟨psA_nil _, fun b off e => by cases e⟩, ?_, ?_⟩
    · exact ⟨((((S1.out.bel.setCell HL0.out _).setCell HL0.out _).setCell HL0.out _).setCell HL0.out _).setCell HL0.out _, S1.out.new, by rw [set_ne _ _ _ _ (by have := hlw.out; omega), set_ne _ _ _ _ (by have := hlw.out; omega), set_ne _ _ _ _ (by have := hlw.out; omega), set_ne _ _ _ _ (by have := hlw.out; omega), set_ne _ _ _ _ (by have := hlw.out; omega)]; exact S1.out.blk, S1.out.small⟩
    · exact ((((K1.out.setCell (fun h => absurd h (Nat.lt_irrefl _)) _).setCell (fun h => absurd h (Nat.lt_irrefl _)) _).setCell (fun h => absurd h (Nat.lt_irrefl _)) _).setCell (fun h => absurd h (Nat.lt_irrefl _)) _).setCell (fun h => absurd h (Nat.lt_irrefl _)) _
  · have GW := Lib.hid (HG.out.below S1.out.bel)
    go_wp2_with fail
    refine (gedge_any gb vb eb V E n w1 GW.out HN.out).mono ?_
    rintro e w2 ⟨a2, c2, rfl, ⟨p2, n2⟩, b2⟩
    have x2 := (b2.block w.heap.size hz).trans X1.out
    have hz2 : w.heap.size < w2.heap.size := (Array.getElem?_eq_some_iff.1 x2).1
    have S2 := Lib.hid (S1.out.below b2)
    have K2 : Hid (Chg w w2 (fun i => i = wb)) := Lib.hid (K1.out.trans (Chg.of_below b2 (fun _ => False)) (fun _ _ e => e.elim))
    have r0 := cell_of_blk x2 0
    have g0 := frozen_of_blk x2 0
    have r1 := cell_of_blk x2 1
    have g1 := frozen_of_blk x2 1
    have r2 := cell_of_blk x2 2
    have g2 := frozen_of_blk x2 2
    have r3 := cell_of_blk x2 3
    have g3 := frozen_of_blk x2 3
    have r4 := cell_of_blk x2 4
    have g4 := frozen_of_blk x2 4
    simp at r0 r1 r2 r3 r4
    have HPB : Hid (PsB w2 w1.heap.size a2 c2 (getE E n).ps) := Lib.hid ⟨p2, n2⟩
    have HZ1 := Lib.hid hz
    clear x1 x2 b2 p2 n2 hz
    obtain ⟨y, hy⟩ : ∃ y, y = getE E n := ⟨_, rfl⟩
    obtain ⟨k, hk⟩ : ∃ k, k = (findB Eg.id E n).isSome := ⟨_, rfl⟩
    rw [← hy, ← hk]
    have HY := Lib.hid hy
    have HK := Lib.hid hk
    clear hy hk
    unfold Eg.val
    go_wp2_with fail
    refine bodyPost_ret (v := .tuple #[.agg #[.int .i64 y.id, .string y.label, .int .i64 y.fr, .int .i64 y.to, .slice a2 y.ps.length c2], .bool k]) (by simp [results, Tryz.results117, go_sem, r0, r1, r2, r3, r4]) rfl ⟨a2, c2, by rw [HBB.out, if_pos rfl, ← HY.out, ← HK.out]; rfl, ?_, ?_, ?_⟩
    · rw [HBB.out, if_pos rfl, ← HY.out]
      rw [← HY.out] at HPB
      exact (HPB.out.chg ((((((Chg.refl w2 (fun i => i = w.heap.size)).setCell (p := ⟨w.heap.size, 0, none⟩) (fun _ => rfl) _).setCell (p := ⟨w.heap.size, 1, none⟩) (fun _ => rfl) _).setCell (p := ⟨w.heap.size, 2, none⟩) (fun _ => rfl) _).setCell (p := ⟨w.heap.size, 3, none⟩) (fun _ => rfl) _).setCell (p := ⟨w.heap.size, 4, none⟩) (fun _ => rfl) _) (fun j e => by rw [e]; exact HZ1.out)).mono (Nat.le_of_lt HZ1.out)
    · exact ⟨((((S2.out.bel.setCell HL0.out _).setCell HL0.out _).setCell HL0.out _).setCell HL0.out _).setCell HL0.out _, S2.out.new, by rw [set_ne _ _ _ _ (by have := hlw.out; omega), set_ne _ _ _ _ (by have := hlw.out; omega), set_ne _ _ _ _ (by have := hlw.out; omega), set_ne _ _ _ _ (by have := hlw.out; omega), set_ne _ _ _ _ (by have := hlw.out; omega)]; exact S2.out.blk, S2.out.small⟩
    · exact ((((K2.out.setCell (fun h => absurd h (Nat.lt_irrefl _)) _).setCell (fun h => absurd h (Nat.lt_irrefl _)) _).setCell (fun h => absurd h (Nat.lt_irrefl _)) _).setCell (fun h => absurd h (Nat.lt_irrefl _)) _).setCell (fun h => absurd h (Nat.lt_irrefl _)) _
/-- what Vertex leaves, with its properties -/
def WvPost2 (w0 w : World) (wb gb : Nat) (st : Option Nat) (V : List Vt) (n : Int) (e : Ending) (w' : World) : Prop :=
  ∃ a c, e = .returned (.tuple #[(if (payS st 1).isSome then getV V n else Vt.zero).val a c, .bool ((payS st 1).isSome && (findB Vt.id V n).isSome)]) ∧ PsB w' w.heap.size a c (if (payS st 1).isSome then getV V n else Vt.zero).ps ∧ WkS w0 w' wb gb (payS st 1) ∧ Chg w w' (fun i => i = wb)
set_option maxRecDepth 100000 in
set_option maxHeartbeats 1000000 in
theorem wvertex2_any (w0 w : World) (wb gb vb eb : Nat) (V : List Vt) (E : List Eg) (st : Option Nat) (n : Int) (hG : GrC w0 gb vb eb V E) (h : WkS w0 w wb gb st) (hn : I64 n) :
    Calls Tryz.prog 115 #[.pointer (some ⟨wb, 0, none⟩), .int .i64 n] w (WvPost2 w0 w wb gb st V n) := by
  have HB0 := Lib.hid (below_box w (.cells #[.int .i64 0, .string ⟨#[]⟩, .slice none 0 0] 28))
  have HR := Lib.hid (heap_new w (.cells #[.int .i64 0, .string ⟨#[]⟩, .slice none 0 0] 28))
  have H0 := Lib.hid (h.below HB0.out)
  have HG := Lib.hid hG
  have HN := Lib.hid hn
  have hlw := Lib.hid h.lt
  have HL0 : Hid (w0.heap.size ≤ w.heap.size) := Lib.hid h.bel.size
  clear h hG hn
  go_enter Tryz.func115, Tryz.ntmps115
  go_wp2_with fail
  refine (pay_any w0 _ wb gb st H0.out).mono ?_
  rintro e w1 ⟨rfl, s1, k1⟩
  have S1 := Lib.hid s1
  have K1 : Hid (Chg w w1 (fun i => i = wb)) := Lib.hid ((Chg.of_below HB0.out _).trans k1 (fun i _ h => h))
  have x1 := (k1.block w.heap.size (by simp) (by have := hlw.out; omega)).trans HR.out
  have X1 := Lib.hid x1
  clear s1 k1
  obtain ⟨b, hb⟩ : ∃ b, (payS st 1).isSome = b := ⟨_, rfl⟩
  unfold WvPost2
  rw [hb]
  have HBB := Lib.hid hb
  clear hb
  obtain ⟨c0, _, _, _, _⟩ := S1.out.cells
  have hm := mVertex (.pointer (some ⟨gb, 0, none⟩)) w1
  have hz : w.heap.size < w1.heap.size := (Array.getElem?_eq_some_iff.1 x1).1
  cases b
  · have r0 := cell_of_blk x1 0
    have g0 := frozen_of_blk x1 0
    have r1 := cell_of_blk x1 1
    have g1 := frozen_of_blk x1 1
    have r2 := cell_of_blk x1 2
    have g2 := frozen_of_blk x1 2
    simp at r0 r1 r2
    clear x1
    go_wp2_with fail
    refine bodyPost_ret (v := .tuple #[.agg #[.int .i64 0, .string ⟨#[]⟩, .slice none 0 0], .bool false]) (by simp [results, Tryz.results115, go_sem, r0, r1, r2]) rfl ⟨none, 0, by rw [HBB.out]; rfl, by rw [HBB.out]; exact ⟨psA_nil _, fun b off e => by cases e⟩, ?_, ?_⟩
    · exact ⟨((S1.out.bel.setCell HL0.out _).setCell HL0.out _).setCell HL0.out _, S1.out.new, by rw [set_ne _ _ _ _ (by have := hlw.out; omega), set_ne _ _ _ _ (by have := hlw.out; omega), set_ne _ _ _ _ (by have := hlw.out; omega)]; exact S1.out.blk, S1.out.small⟩
    · exact ((K1.out.setCell (fun h => absurd h (Nat.lt_irrefl _)) _).setCell (fun h => absurd h (Nat.lt_irrefl _)) _).setCell (fun h => absurd h (Nat.lt_irrefl _)) _
  · have GW := Lib.hid (HG.out.below S1.out.bel)
    go_wp2_with fail
    refine (gvertex_any gb vb eb V E n w1 GW.out HN.out).mono ?_
    rintro e w2 ⟨a2, c2, rfl, ⟨p2, n2⟩, b2⟩
    have x2 := (b2.block w.heap.size hz).trans X1.out
    have hz2 : w.heap.size < w2.heap.size := (Array.getElem?_eq_some_iff.1 x2).1
    have S2 := Lib.hid (S1.out.below b2)
    have K2 : Hid (Chg w w2 (fun i => i = wb)) := Lib.hid (K1.out.trans (Chg.of_below b2 (fun _ => False)) (fun _ _ e => e.elim))
    have r0 := cell_of_blk x2 0
    have g0 := frozen_of_blk x2 0
    have r1 := cell_of_blk x2 1
    have g1 := frozen_of_blk x2 1
    have r2 := cell_of_blk x2 2
    have g2 := frozen_of_blk x2 2
    simp at r0 r1 r2
    have HPB : Hid (PsB w2 w1.heap.size a2 c2 (getV V n).ps) := Lib.hid ⟨p2, n2⟩
    have HZ1 := Lib.hid hz
    clear x1 x2 b2 p2 n2 hz
    obtain ⟨y, hy⟩ : ∃ y, y = getV V n := ⟨_, rfl⟩
    obtain ⟨k, hk⟩ : ∃ k, k = (findB Vt.id V n).isSome := ⟨_, rfl⟩
    rw [← hy, ← hk]
    have HY := Lib.hid hy
    have HK := Lib.hid hk
    clear hy hk
    unfold Vt.val
    go_wp2_with fail
    refine bodyPost_ret (v := .tuple #[.agg #[.int .i64 y.id, .string y.label, .slice a2 y.ps.length c2], .bool k]) (by simp [results, Tryz.results115, go_sem, r0, r1, r2]) rfl ⟨a2, c2, by rw [HBB.out, if_pos rfl, ← HY.out, ← HK.out]; rfl, ?_, ?_, ?_⟩
    · rw [HBB.out, if_pos rfl, ← HY.out]
      rw [← HY.out] at HPB
      exact (HPB.out.chg ((((Chg.refl w2 (fun i => i = w.heap.size)).setCell (p := ⟨w.heap.size, 0, none⟩) (fun _ => rfl) _).setCell (p := ⟨w.heap.size, 1, none⟩) (fun _ => rfl) _).setCell (p := ⟨w.heap.size, 2, none⟩) (fun _ => rfl) _) (fun j e => by rw [e]; exact HZ1.out)).mono (Nat.le_of_lt HZ1.out)
    · exact ⟨((S2.out.bel.setCell HL0.out _).setCell HL0.out _).setCell HL0.out _, S2.out.new, by rw [set_ne _ _ _ _ (by have := hlw.out; omega), set_ne _ _ _ _ (by have := hlw.out; omega), set_ne _ _ _ _ (by have := hlw.out; omega)]; exact S2.out.blk, S2.out.small⟩
    · exact ((K2.out.setCell (fun h => absurd h (Nat.lt_irrefl _)) _).setCell (fun h => absurd h (Nat.lt_irrefl _)) _).setCell (fun h => absurd h (Nat.lt_irrefl _)) _
end Go.Proofs.YtonilojjahfboaaGreat
namespace Go.Proofs.YtonilojjahfboaaGreat
open Go.RowKit Go.Maps

def FtPost (w0 w : World) (wb gb : Nat) (st : Option Nat) (b : Bool) (e : Ending) (w' : World) : Prop :=
  e = .returned (.bool b) ∧ WkS w0 w' wb gb (payS st 1) ∧ Chg w w' (fun i => i = wb)
set_option maxRecDepth 100000 in
set_option maxHeartbeats 2000000 in
theorem wfits_any (w0 w : World) (wb gb vb eb : Nat) (V : List Vt) (E : List Eg) (st : Option Nat) (lab key : ByteArray) (low high : Vl) (id : Int) (hG : GrC w0 gb vb eb V E) (h : WkS w0 w wb gb st) (hn : I64 id) :
    Calls Tryz.prog 124 #[.pointer (some ⟨wb, 0, none⟩), .agg #[.string lab, .string key, .int .i64 low.kind, .int .i64 low.n, .string low.s, .int .i64 high.kind, .int .i64 high.n, .string high.s], .int .i64 id] w (FtPost w0 w wb gb st ((payS st 1).isSome && isN V lab key low high id)) := by
  obtain ⟨W, hW⟩ : ∃ W, W = w.alloc (.cells #[.string lab, .string key, .int .i64 low.kind, .int .i64 low.n, .string low.s, .int .i64 high.kind, .int .i64 high.n, .string high.s] 100) := ⟨_, rfl⟩
  have hBW : Below w.heap.size w W := by rw [hW]; exact below_box w _
  obtain ⟨nb, hnb⟩ : ∃ b, b = w.heap.size := ⟨_, rfl⟩
  have eN : W.heap[nb]? = some (.cells #[.string lab, .string key, .int .i64 low.kind, .int .i64 low.n, .string low.s, .int .i64 high.kind, .int .i64 high.n, .string high.s] 100 (0, 0)) := by rw [hW, hnb]; exact heap_new w _
  have hrn : wb < nb := by rw [hnb]; exact h.lt
  have HNB : Hid (∀ u, Chg W u (fun i => i = wb) → u.cell? ⟨nb, 0, none⟩ = some (.string lab) ∧ u.cell? ⟨nb, 1, none⟩ = some (.string key) ∧ u.cell? ⟨nb, 2, none⟩ = some (.int .i64 low.kind) ∧ u.cell? ⟨nb, 3, none⟩ = some (.int .i64 low.n) ∧ u.cell? ⟨nb, 4, none⟩ = some (.string low.s) ∧ u.cell? ⟨nb, 5, none⟩ = some (.int .i64 high.kind) ∧ u.cell? ⟨nb, 6, none⟩ = some (.int .i64 high.n) ∧ u.cell? ⟨nb, 7, none⟩ = some (.string high.s) ∧ nb < u.heap.size) := Lib.hid (fun u hu => by
    have e := (hu.block _ (Array.getElem?_eq_some_iff.1 eN).1 (fun e => by omega)).trans eN
    exact ⟨by rw [cell_of_blk e]; rfl, by rw [cell_of_blk e]; rfl, by rw [cell_of_blk e]; rfl, by rw [cell_of_blk e]; rfl, by rw [cell_of_blk e]; rfl, by rw [cell_of_blk e]; rfl, by rw [cell_of_blk e]; rfl, by rw [cell_of_blk e]; rfl, (Array.getElem?_eq_some_iff.1 e).1⟩)
  have HCB : Hid (∀ u, Chg W u (fun i => i = wb) → Chg w u (fun i => i = wb)) := Lib.hid (fun u hu => (Chg.of_below hBW _).trans hu (fun i _ h => h))
  have HVX := Lib.hid (wvertex2_any w0 W wb gb vb eb V E st id hG (h.below hBW) hn)
  have HG := Lib.hid hG
  have HW := Lib.hid hW
  have HNBE := Lib.hid hnb
  obtain ⟨b, hb⟩ : ∃ b, b = ((payS st 1).isSome && isN V lab key low high id) := ⟨_, rfl⟩
  have HBV := Lib.hid hb
  rw [← hb]
  clear hG h hn hW hBW hnb eN hrn hb
  go_enter Tryz.func124, Tryz.ntmps124
  go_upto_region 1 with fail
  rw [← HW.out, ← HNBE.out]
  obtain ⟨Y, hY⟩ : ∃ y, y = (if (payS st 1).isSome then getV V id else Vt.zero) := ⟨_, rfl⟩
  obtain ⟨ok, hok⟩ : ∃ q, q = ((payS st 1).isSome && (findB Vt.id V id).isSome) := ⟨_, rfl⟩
  unfold WvPost2 at HVX
  rw [← hY, ← hok] at HVX
  have HY := Lib.hid hY
  have HOK := Lib.hid hok
  clear hY hok
  unfold Vt.val at HVX
  go_upto_region 2 with (go_at_call 115; (with_reducible refine HVX.out.mono ?_); rintro e w1 ⟨ya, yc, rfl, hps, s1, k1⟩; have HPS := Lib.hid hps; have S1 := Lib.hid s1; have K1 := Lib.hid k1; clear hps s1 k1)
  obtain ⟨U, hU⟩ : ∃ U, U = w1.alloc (.cells #[.int .i64 Y.id, .string Y.label, .slice ya Y.ps.length yc] 28) := ⟨_, rfl⟩
  obtain ⟨xb, hxb⟩ : ∃ b, b = w1.heap.size := ⟨_, rfl⟩
  have hBU : Below w1.heap.size w1 U := by rw [hU]; exact below_box _ _
  have eX : U.heap[xb]? = some (.cells #[.int .i64 Y.id, .string Y.label, .slice ya Y.ps.length yc] 28 (0, 0)) := by rw [hU, hxb]; exact heap_new _ _
  rw [← hU, ← hxb]
  have HXB : Hid (∀ u, Below U.heap.size U u → u.cell? ⟨xb, 1, none⟩ = some (.string Y.label) ∧ u.cell? ⟨xb, 2, none⟩ = some (.slice ya Y.ps.length yc) ∧ xb < u.heap.size) := Lib.hid (fun u hu => by
    have e := (hu.block _ (Array.getElem?_eq_some_iff.1 eX).1).trans eX
    exact ⟨by rw [cell_of_blk e]; rfl, by rw [cell_of_blk e]; rfl, (Array.getElem?_eq_some_iff.1 e).1⟩)
  have KU : Hid (Chg W U (fun i => i = wb)) := Lib.hid (K1.out.trans (Chg.of_below hBU (fun _ => False)) (fun _ _ e => e.elim))
  have SU := Lib.hid (S1.out.below hBU)
  have PSU := Lib.hid (HPS.out.1.below hBU)
  have HFIN : Hid (∀ u, Below U.heap.size U u → WkS w0 u wb gb (payS st 1) ∧ Chg w u (fun i => i = wb)) := Lib.hid (fun u hu => ⟨SU.out.below hu, HCB.out u (KU.out.trans (Chg.of_below hu (fun _ => False)) (fun _ _ e => e.elim))⟩)
  have HNU : Hid (∀ u, Below U.heap.size U u → u.cell? ⟨nb, 0, none⟩ = some (.string lab) ∧ u.cell? ⟨nb, 1, none⟩ = some (.string key) ∧ u.cell? ⟨nb, 2, none⟩ = some (.int .i64 low.kind) ∧ u.cell? ⟨nb, 3, none⟩ = some (.int .i64 low.n) ∧ u.cell? ⟨nb, 4, none⟩ = some (.string low.s) ∧ u.cell? ⟨nb, 5, none⟩ = some (.int .i64 high.kind) ∧ u.cell? ⟨nb, 6, none⟩ = some (.int .i64 high.n) ∧ u.cell? ⟨nb, 7, none⟩ = some (.string high.s) ∧ nb < u.heap.size) := Lib.hid (fun u hu => HNB.out u (KU.out.trans (Chg.of_below hu (fun _ => False)) (fun _ _ e => e.elim)))
  clear hU hxb hBU eX HVX
  obtain ⟨x1, x2, xl⟩ := HXB.out U (Below.refl _ _)
  obtain ⟨p0, p1, p2, p3, p4, p5, p6, p7, pl⟩ := HNU.out U (Below.refl _ _)
  cases ok
  · have HF : Hid (b = false) := Lib.hid (by
      rw [HBV.out]
      have h := HOK.out
      cases hp : (payS st 1).isSome
      · rfl
      · rw [hp] at h
        cases hf : findB Vt.id V id with
        | none => unfold isN; rw [hf]; rfl
        | some y => rw [hf] at h; cases h)
    go_wp2_with fail
    go_ret
    exact ⟨by (rw [HF.out]; first | done | rfl), HFIN.out U (Below.refl _ _)⟩
  have HYV : Hid (Y ∈ V ∧ b = isN V lab key low high Y.id ∧ Y.ps.length ≤ 16) := Lib.hid (by
    have h := HOK.out
    have hy := HY.out
    cases hp : (payS st 1).isSome
    · rw [hp] at h; cases h
    · rw [hp] at h hy
      cases hf : findB Vt.id V id with
      | none => rw [hf] at h; cases h
      | some y =>
        obtain ⟨g1, g2⟩ := findB_some hf
        have e : Y = y := by rw [hy, if_pos rfl]; unfold getV; rw [hf]; rfl
        rw [e]
        refine ⟨g1, ?_, checkR_ps (HG.out.ok.v y g1)⟩
        rw [HBV.out, hp, g2]; rfl)
  have HE : Hid (b = (decide (Y.label = lab) && (key.toList.isEmpty || (vq Y key && (decide (0 ≤ (vo Y key).cmp low) && decide ((vo Y key).cmp high ≤ 0)))))) := Lib.hid (by rw [HYV.out.2.1, isN_some HG.out.ok.sv HYV.out.1, fitP_eq])
  have HGT := Lib.hid (pget_any ya yc Y.ps key U PSU.out.v (by have := HYV.out.2.2; omega))
  rw [gotP_vo] at HGT
  obtain ⟨yl, hyl⟩ : ∃ l, l = Y.label := ⟨_, rfl⟩
  rw [← hyl] at x1 HE
  obtain ⟨tl, htl⟩ : ∃ t, decide (yl = lab) = t := ⟨_, rfl⟩
  have hne : (yl.toList == lab.toList) = tl := by rw [← htl]; exact bytes_eqB _ _
  rw [htl] at HE
  obtain ⟨⟨vk, vn, vs⟩, hvx⟩ : ∃ v, vo Y key = v := ⟨_, rfl⟩
  obtain ⟨q, hq⟩ : ∃ v, vq Y key = v := ⟨_, rfl⟩
  obtain ⟨pn, hpn⟩ : ∃ l, l = Y.ps.length := ⟨_, rfl⟩
  rw [hvx, hq] at HGT HE
  rw [← hpn] at HGT x2
  clear hyl htl hvx hq hpn
  cases tl
  · have HF : Hid (b = false) := Lib.hid (by rw [HE.out]; rfl)
    go_wp2_with fail
    go_ret
    exact ⟨by (rw [HF.out]; first | done | rfl), HFIN.out U (Below.refl _ _)⟩
  go_upto_region 5 with (go_at_call 135; (with_reducible refine HGT.out.mono ?_); rintro e w2 ⟨rfl, b2⟩; have HB2 := Lib.hid b2; clear b2)
  obtain ⟨U2, hU⟩ : ∃ U2, U2 = w2.alloc (.cells #[.int .i64 vk, .int .i64 vn, .string vs] 98) := ⟨_, rfl⟩
  obtain ⟨zb, hzb⟩ : ∃ b, b = w2.heap.size := ⟨_, rfl⟩
  have hBU : Below U.heap.size U U2 := below_then HB2.out (by rw [hU]; exact below_box _ _)
  have eX : U2.heap[zb]? = some (.cells #[.int .i64 vk, .int .i64 vn, .string vs] 98 (0, 0)) := by rw [hU, hzb]; exact heap_new _ _
  rw [← hU, ← hzb]
  have HZB : Hid (∀ u, Below U2.heap.size U2 u → u.cell? ⟨zb, 0, none⟩ = some (.int .i64 vk) ∧ u.cell? ⟨zb, 1, none⟩ = some (.int .i64 vn) ∧ u.cell? ⟨zb, 2, none⟩ = some (.string vs) ∧ zb < u.heap.size) := Lib.hid (fun u hu => by
    have e := (hu.block _ (Array.getElem?_eq_some_iff.1 eX).1).trans eX
    exact ⟨by rw [cell_of_blk e]; rfl, by rw [cell_of_blk e]; rfl, by rw [cell_of_blk e]; rfl, (Array.getElem?_eq_some_iff.1 e).1⟩)
  have HBU := Lib.hid hBU
  clear hU hzb hBU eX p0 p1 p2 p3 p4 p5 p6 p7 pl x1 x2 xl hne
  obtain ⟨p0, p1, p2, p3, p4, p5, p6, p7, pl⟩ := HNU.out U2 HBU.out
  obtain ⟨z0, z1, z2, zl⟩ := HZB.out U2 (Below.refl _ _)
  by_cases hk : key.toList = []
  · have t1 : key.toList.isEmpty = true := by simp [hk]
    have HF : Hid (b = true) := Lib.hid (by rw [HE.out, t1]; rfl)
    clear hk
    go_wp2_with fail
    go_ret
    exact ⟨by (rw [HF.out]; first | done | rfl), HFIN.out U2 HBU.out⟩
  have t1 : key.toList.isEmpty = false := by simpa using hk
  rw [t1] at HE
  clear hk
  cases q
  · have HF : Hid (b = false) := Lib.hid (by rw [HE.out]; rfl)
    go_wp2_with fail
    go_ret
    exact ⟨by (rw [HF.out]; first | done | rfl), HFIN.out U2 HBU.out⟩
  have HC1a : ∀ u, Calls Tryz.prog 138 #[.agg #[.int .i64 vk, .int .i64 vn, .string vs], .agg #[.int .i64 low.kind, .int .i64 low.n, .string low.s]] u fun e w' => e = .returned (.int .i64 (Vl.cmp ⟨vk, vn, vs⟩ low)) ∧ Below u.heap.size u w' := fun u => vcompare_any ⟨vk, vn, vs⟩ low u
  have HC2a : ∀ u, Calls Tryz.prog 138 #[.agg #[.int .i64 vk, .int .i64 vn, .string vs], .agg #[.int .i64 high.kind, .int .i64 high.n, .string high.s]] u fun e w' => e = .returned (.int .i64 (Vl.cmp ⟨vk, vn, vs⟩ high)) ∧ Below u.heap.size u w' := fun u => vcompare_any ⟨vk, vn, vs⟩ high u
  obtain ⟨c1, hc1⟩ : ∃ c, Vl.cmp ⟨vk, vn, vs⟩ low = c := ⟨_, rfl⟩
  obtain ⟨c2, hc2⟩ : ∃ c, Vl.cmp ⟨vk, vn, vs⟩ high = c := ⟨_, rfl⟩
  obtain ⟨d1, hd1⟩ : ∃ p, decide (0 ≤ c1) = p := ⟨_, rfl⟩
  obtain ⟨d2, hd2⟩ : ∃ p, decide (c2 ≤ 0) = p := ⟨_, rfl⟩
  rw [hc1, hc2, hd1, hd2] at HE
  simp only [hc1] at HC1a
  simp only [hc2] at HC2a
  have HC1 := Lib.hid HC1a
  have HC2 := Lib.hid HC2a
  clear HC1a HC2a hc1 hc2
  go_wp2_with fail
  refine (HC1.out U2).mono ?_
  rintro e u1 ⟨rfl, bu1⟩
  have HBU1 := Lib.hid (below_then HBU.out bu1)
  obtain ⟨p0', p1', p2', p3', p4', p5', p6', p7', pl'⟩ := HNU.out u1 HBU1.out
  obtain ⟨x0', x1', x2', xl'⟩ := HZB.out u1 bu1
  clear bu1
  cases d1
  · have HF : Hid (b = false) := Lib.hid (by rw [HE.out]; rfl)
    go_wp2_with fail
    go_ret
    exact ⟨by (rw [HF.out]; first | done | rfl), HFIN.out u1 HBU1.out⟩
  · have HF : Hid (b = d2) := Lib.hid (by rw [HE.out]; rfl)
    go_wp2_with fail
    refine (HC2.out u1).mono ?_
    rintro e u2 ⟨rfl, bu2⟩
    have HBU2 := Lib.hid (below_then HBU1.out bu2)
    clear bu2
    go_wp2_with fail
    go_ret
    exact ⟨by (rw [HF.out]; first | done | rfl), HFIN.out u2 HBU2.out⟩
end Go.Proofs.YtonilojjahfboaaGreat
