/- Reference 16: Drop. Conditions: each contract's own premises. (Printed by gen_rt2.py.) Reference 16: Set. Conditions: each contract's own premises. (Printed by gen_rt3.py.) Reference 16: AddVertex, AddEdge, with what becomes of the rows. Conditions: each contract's own premises. (Printed by gen_rt4.py out of Rg3.) -/
import Derived.Test.YtonilojjahfboaaGreatRg3
import Derived.Test.YtonilojjahfboaaGreatGr8
import Derived.Deep.Cut
import Derived.Test.YtonilojjahfboaaGreatPgA
import Derived.Test.YtonilojjahfboaaGreatRqA
namespace Go.Proofs.YtonilojjahfboaaGreat
open Go.RowKit Go.Maps

theorem own_ne {P : Program} {α β : Type} {k1 : RowK P α} {k2 : RowK P β} {w : World} {B B' : Nat} {v1 v2 : Value} {l1 : List α} {l2 : List β} (h : k1.Own w B v1 l1) (k : k2.Own w B' v2 l2) (hne : k1.e ≠ k2.e) : ∀ j, v1.ownBlock = some j → v2.ownBlock ≠ some j := fun j hj hk => by
  rcases h.2 with ⟨h1, _⟩ | ⟨g, cp, cur, h1, _, hg, _⟩
  · rw [h1] at hj; cases hj
  · rcases k.2 with ⟨k1, _⟩ | ⟨g', cp', cur', k1, _, kg, _⟩
    · rw [k1] at hk; cases hk
    · rw [h1] at hj
      rw [k1] at hk
      injection hj with hj
      injection hk with hk
      subst hj
      subst hk
      rw [hg] at kg
      injection kg with kg
      injection kg with e1 e2 e3
      exact hne e2
/-- the rows of a reference graph are as they were, or new -/
def RowsNew (w w' : World) (rb : Nat) : Prop := ∀ i v, w'.cell? ⟨rb, i, none⟩ = some v → w.cell? ⟨rb, i, none⟩ = some v ∨ ∀ j, v.ownBlock = some j → w.heap.size ≤ j
/-- which edges go -/
def touchR (edge : Bool) (n : Int) (e : Eg) : Bool := if edge then e.id == n else (e.fr == n || e.to == n)
def RdPost (w : World) (rb B : Nat) (VL : List Vr) (EL : List Er) (edge : Bool) (n : Int) (e : Ending) (w' : World) : Prop :=
  if (if edge then (findB Eg.id (EL.map Er.e) n).isNone else (findB Vt.id (VL.map Vr.v) n).isNone) then e = .returned (.tuple #[.slice none 0 0, .int .i64 101]) ∧ w = w'
  else ∃ a c, e = .returned (.tuple #[.slice a (idsE (EL.map Er.e) (touchR edge n)).length c, .int .i64 0]) ∧ kI.Own w' w.heap.size (.slice a (idsE (EL.map Er.e) (touchR edge n)).length c) (idsE (EL.map Er.e) (touchR edge n)) ∧ RgL w' rb B (if edge then VL else VL.filter (fun x => x.v.id != n)) (EL.filter (fun x => !touchR edge n x.e)) ∧ Chg w w' (fun i => i = rb) ∧ RowsNew w w' rb
theorem idsE_takeR {EL : List Er} {j : Nat} {x : Er} (p : Eg → Bool) (hx : EL[j]? = some x) : idsE ((EL.take (j + 1)).map Er.e) p = idsE ((EL.take j).map Er.e) p ++ (if p x.e then [x.e.id] else []) := by
  unfold idsE
  rw [List.take_add_one, hx, List.map_append, List.filter_append, List.map_append]
  congr 1
  cases h : p x.e <;> simp [h]
theorem filter_takeR {α : Type} {l : List α} {j : Nat} {x : α} (p : α → Bool) (hx : l[j]? = some x) : (l.take (j + 1)).filter p = (l.take j).filter p ++ (if p x then [x] else []) := by
  rw [List.take_add_one, hx, List.filter_append]
  congr 1
  cases h : p x <;> simp [h]
/-- the first round: which edges go, which stay -/
structure DrI (w wr : World) (p : Eg → Bool) (EL : List Er) (j : Nat) (g s : Value) : Prop where
  g : kI.Own wr w.heap.size g (idsE ((EL.take j).map Er.e) p)
  s : kEr.Own wr w.heap.size s ((EL.take j).filter (fun x => !p x.e))
  b : Below w.heap.size w wr
theorem DrI.below {w wr u : World} {p : Eg → Bool} {EL : List Er} {j : Nat} {g s : Value} (h : DrI w wr p EL j g s) (hb : Below wr.heap.size wr u) : DrI w u p EL j g s := ⟨h.g.below hb, h.s.below hb, h.b.trans (hb.mono h.b.size)⟩
set_option maxRecDepth 100000 in
set_option maxHeartbeats 4000000 in
theorem r16dropE_any {w : World} {rb B : Nat} {VL : List Vr} {EL : List Er} (h : RgL w rb B VL EL) (hB : B ≤ w.heap.size) (n : Int) (hvl : VL.length ≤ 1000000) (hel : EL.length ≤ 1000000) :
    Calls Tryz.prog 88 #[.pointer (some ⟨rb, 0, none⟩), .bool true, .int .i64 n] w (RdPost w rb B VL EL true n) := by
  have HB := Lib.hid hB
  have H0 := Lib.hid h
  have HL : Hid (VL.length ≤ 1000000 ∧ EL.length ≤ 1000000) := Lib.hid ⟨hvl, hel⟩
  have HF := Lib.hid (r16E_any h (by omega) n)
  obtain ⟨m, hm⟩ : ∃ m, m = EL.length := ⟨_, rfl⟩
  obtain ⟨k, hk⟩ : ∃ m, m = VL.length := ⟨_, rfl⟩
  obtain ⟨va, vc, ea, ec, hc⟩ : ∃ va vc ea ec, ∀ u, Below w.heap.size w u → u.heap[rb]? = some (.cells #[.slice va k vc, .slice ea m ec] 39 (0, 0)) ∧ kVr.V u va VL ∧ kEr.V u ea EL := by
    obtain ⟨⟨va, vc, ea, ec, h1, h2, h3⟩, _⟩ := h
    refine ⟨va, vc, ea, ec, fun u hu => ⟨?_, (h2.below hu).toV, (h3.below hu).toV⟩⟩
    rw [hm, hk]
    exact (hu.block _ (Array.getElem?_eq_some_iff.1 h1).1).trans h1
  have HC := Lib.hid hc
  have HM : Hid (m = EL.length ∧ m ≤ 1000000) := Lib.hid ⟨hm, by omega⟩
  have HK : Hid (k = VL.length ∧ k ≤ 1000000) := Lib.hid ⟨hk, by omega⟩
  have HRB : Hid (rb < w.heap.size) := Lib.hid h.size
  clear h hB hvl hel hm hk hc
  go_enter Tryz.func88, Tryz.ntmps88
  go_wp2_with fail
  refine HF.out.mono ?_
  rintro e w1 ⟨rfl, r, rfl, hr⟩
  have hpq : (findB Eg.id (EL.map Er.e) n).isNone = decide (r < 0) := by
    rcases hr with ⟨rfl, hno⟩ | ⟨i, x, rfl, hx, hxi⟩
    · rw [findB_none.2 (fun y hy => by obtain ⟨z, hz, rfl⟩ := List.mem_map.1 hy; exact hno z hz)]; rfl
    · have : (findB Eg.id (EL.map Er.e) n).isSome = true := find_some_of (x := x.e) (List.mem_map.2 ⟨x, List.mem_of_getElem? hx, rfl⟩) hxi
      rw [decide_eq_false (by omega)]
      cases hf : findB Eg.id (EL.map Er.e) n with
      | none => rw [hf] at this; cases this
      | some y => rfl
  obtain ⟨t, ht⟩ : ∃ t, decide (r < 0) = t := ⟨_, rfl⟩
  rw [ht] at hpq
  have HPQ := Lib.hid hpq
  clear hpq hr
  cases t
  case true =>
    go_wp2_with fail
    go_ret2
    unfold RdPost
    rw [if_pos (show (if true then (findB Eg.id (EL.map Er.e) n).isNone else (findB Vt.id (VL.map Vr.v) n).isNone) = true from HPQ.out)]
    exact ⟨rfl, rfl⟩
  have HI0 : Hid (DrI w w (touchR true n) EL 0 (.slice none 0 0) (.slice none 0 0)) := Lib.hid ⟨RowK.Own.nil kI _ _, RowK.Own.nil kEr _ _, Below.refl _ _⟩
  go_upto_region 3 with fail
  clear ht
  go_wp2_with fail
  go_loopw [8, 9, 10] (fun g s i wr => ∃ j : Nat, i = .int .i64 j ∧ j ≤ m ∧ Hid (DrI w wr (touchR true n) EL j g s)) (fun _ _ i _ => m - (intOf i).toNat)
  case atStart => exact ⟨0, rfl, Nat.zero_le _, HI0⟩
  case round =>
    clear HI0
    obtain ⟨j, rfl, hj, HI⟩ := hrel
    have hml := HM.out.2
    obtain ⟨ga, gc, rfl⟩ := HI.out.g.shape
    obtain ⟨sa, sc, rfl⟩ := HI.out.s.shape
    obtain ⟨G, hG⟩ : ∃ l, l = idsE ((EL.take j).map Er.e) (touchR true n) := ⟨_, rfl⟩
    obtain ⟨T, hT⟩ : ∃ l, l = (EL.take j).filter (fun x => !touchR true n x.e) := ⟨_, rfl⟩
    have hOG := HI.out.g
    have hOS := HI.out.s
    rw [← hG] at hOG ⊢
    rw [← hT] at hOS ⊢
    have HG := Lib.hid hG
    have HT := Lib.hid hT
    have HOG := Lib.hid hOG
    have HOS := Lib.hid hOS
    have HBW := Lib.hid HI.out.b
    have HGL : Hid (G.length ≤ j ∧ T.length ≤ j) := Lib.hid ⟨by rw [hG]; refine Nat.le_trans (idsE_len _ _) ?_; rw [List.length_map, List.length_take]; omega, by rw [hT]; refine Nat.le_trans (List.length_filter_le _ _) ?_; rw [List.length_take]; omega⟩
    obtain ⟨q0, _, hv⟩ := HC.out wr HBW.out
    have c1 := cell_of_blk q0 1
    have zr : rb < wr.heap.size := (Array.getElem?_eq_some_iff.1 q0).1
    simp at c1
    clear hG hT hOG hOS q0
    by_cases hlt : j < m
    · obtain ⟨x, hx⟩ : ∃ x, EL[j]? = some x := ⟨_, List.getElem?_eq_getElem (by have := HM.out; omega)⟩
      obtain ⟨b, off, rfl, hat⟩ := hv (fun e => by rw [e] at hx; simp at hx)
      have x0 := hat.cells j x hx 0 _ rfl
      have x1 := hat.cells j x hx 1 _ rfl
      have x2 := hat.cells j x hx 2 _ rfl
      have x3 := hat.cells j x hx 3 _ rfl
      have x4 := hat.cells j x hx 4 _ rfl
      simp [kEr] at x0 x1 x2 x3 x4
      have hbl := hat.lt
      have tj : decide ((j : Int) < (m : Int)) = true := decide_eq_true (by omega)
      have hjz : (j : Int) < (m : Int) := by omega
      have HTG := Lib.hid (idsE_takeR (touchR true n) hx)
      have HTT := Lib.hid (filter_takeR (fun x : Er => !touchR true n x.e) hx)
      obtain ⟨U, hU⟩ : ∃ U, U = wr.alloc (.cells #[.int .i64 x.e.id, .string x.e.label, .int .i64 x.e.fr, .int .i64 x.e.to, .slice x.a x.e.ps.length x.c] 30) := ⟨_, rfl⟩
      obtain ⟨xb, hxb⟩ : ∃ b, b = wr.heap.size := ⟨_, rfl⟩
      have hBU : Below wr.heap.size wr U := by rw [hU]; exact below_box _ _
      have eX : U.heap[xb]? = some (.cells #[.int .i64 x.e.id, .string x.e.label, .int .i64 x.e.fr, .int .i64 x.e.to, .slice x.a x.e.ps.length x.c] 30 (0, 0)) := by rw [hU, hxb]; exact heap_new _ _
      have HOGU := Lib.hid (HOG.out.below hBU)
      have HOSU := Lib.hid (HOS.out.below hBU)
      have HBU : Hid (Below w.heap.size w U) := Lib.hid (HBW.out.trans (hBU.mono HBW.out.size))
      have HU := Lib.hid hU
      have HXB := Lib.hid hxb
      have HEX := Lib.hid eX
      clear hx hat hv hU hxb hBU eX
      go_upto_region 9 with fail
      rw [← HU.out, ← HXB.out]
      clear c1 zr x0 x1 x2 x3 x4 hbl tj hjz
      have y0 := cell_of_blk HEX.out 0
      have y1 := cell_of_blk HEX.out 1
      have y2 := cell_of_blk HEX.out 2
      have y3 := cell_of_blk HEX.out 3
      have y4 := cell_of_blk HEX.out 4
      simp at y0 y1 y2 y3 y4
      have hxl : xb < U.heap.size := (Array.getElem?_eq_some_iff.1 HEX.out).1
      have HZ : Hid (w.heap.size ≤ U.heap.size) := Lib.hid HBU.out.size
      by_cases he : x.e.id = n
      · have t1 : (x.e.id == n) = true := by simpa using he
        have HTR : Hid (touchR true n x.e = true) := Lib.hid t1
        clear he
        have HP : Hid (G ++ [x.e.id] = idsE ((EL.take (j + 1)).map Er.e) (touchR true n)) := Lib.hid (by rw [HTG.out, ← HG.out, if_pos HTR.out])
        have HQ : Hid (T = (EL.take (j + 1)).filter (fun x => !touchR true n x.e)) := Lib.hid (by rw [HTT.out, ← HT.out, HTR.out]; simp)
        have HXV := Lib.hid (int_new U U.heap.size rfl x.e.id)
        have HOA := Lib.hid (HOGU.out.alloc (.cells #[.int .i64 x.e.id] 3))
        have HOB := Lib.hid (HOSU.out.alloc (.cells #[.int .i64 x.e.id] 3))
        have HNE := Lib.hid (own_ne HOA.out HOB.out (by decide))
        go_wp2_with (first | (at_builtin; refine RowK.wpList_app (k := kI) rfl (.tmp 70) (.tmp 73) rfl rfl HOA.out (some ⟨U.heap.size, 0, none⟩) 1 [x.e.id] 1 rfl rfl HXV.out (fun e => by cases e) (by have := HGL.out; simp; omega) (by have := HZ.out; simp; omega) ?_; intro v8 w8 hA; have HA8 := Lib.hid hA; clear hA) | fail)
        obtain ⟨oA, gA, kA⟩ := HA8.out
        refine ⟨⟨j + 1, by simp, hlt, Lib.hid ⟨by rw [← HP.out]; exact oA, by rw [← HQ.out]; exact HOB.out.grown gA (fun q hq e => HNE.out q e.symm hq), (HBU.out.alloc HZ.out _).grown gA (by have := HZ.out; simp; omega) (fun q hq => (HOA.out.lt q hq).1)⟩⟩, by simp [intOf]; omega⟩
      · have t1 : (x.e.id == n) = false := by simpa using he
        have HTR : Hid (touchR true n x.e = false) := Lib.hid t1
        clear he
        have HP : Hid (G = idsE ((EL.take (j + 1)).map Er.e) (touchR true n)) := Lib.hid (by rw [HTG.out, ← HG.out, HTR.out]; simp)
        have HQ : Hid (T ++ [x] = (EL.take (j + 1)).filter (fun x => !touchR true n x.e)) := Lib.hid (by rw [HTT.out, ← HT.out, HTR.out]; simp)
        have HXV : Hid (kEr.V (U.alloc (.cells #[.int .i64 x.e.id, .string x.e.label, .int .i64 x.e.fr, .int .i64 x.e.to, .slice x.a x.e.ps.length x.c] 30)) (some ⟨U.heap.size, 0, none⟩) [x]) := Lib.hid (fun _ => ⟨_, 0, rfl, RowK.new_at (k := kEr) (heap_new U _) (by simp [RowK.cells, kEr, Er.enc])⟩)
        have HOA := Lib.hid (HOSU.out.alloc (.cells #[.int .i64 x.e.id, .string x.e.label, .int .i64 x.e.fr, .int .i64 x.e.to, .slice x.a x.e.ps.length x.c] 30))
        have HOB := Lib.hid (HOGU.out.alloc (.cells #[.int .i64 x.e.id, .string x.e.label, .int .i64 x.e.fr, .int .i64 x.e.to, .slice x.a x.e.ps.length x.c] 30))
        have HNE := Lib.hid (own_ne HOA.out HOB.out (by decide))
        go_wp2_with (first | (at_builtin; refine RowK.wpList_app (k := kEr) rfl (.tmp 75) (.tmp 77) rfl rfl HOA.out (some ⟨U.heap.size, 0, none⟩) 1 [x] 1 rfl rfl HXV.out (fun e => by cases e) (by have := HGL.out; simp; omega) (by have := HZ.out; simp; omega) ?_; intro v8 w8 hA; have HA8 := Lib.hid hA; clear hA) | fail)
        obtain ⟨oA, gA, kA⟩ := HA8.out
        refine ⟨⟨j + 1, by simp, hlt, Lib.hid ⟨by rw [← HP.out]; exact HOB.out.grown gA (fun q hq e => HNE.out q e.symm hq), by rw [← HQ.out]; exact oA, (HBU.out.alloc HZ.out _).grown gA (by have := HZ.out; simp; omega) (fun q hq => (HOA.out.lt q hq).1)⟩⟩, by simp [intOf]; omega⟩
    · have hjm : j = m := by omega
      have tj : decide ((j : Int) < (m : Int)) = false := decide_eq_false (by omega)
      have HGE : Hid (G = idsE (EL.map Er.e) (touchR true n)) := Lib.hid (by rw [HG.out, List.take_of_length_le (by rw [← HM.out.1]; omega)])
      have HTE : Hid (T = EL.filter (fun x => !touchR true n x.e)) := Lib.hid (by rw [HT.out, List.take_of_length_le (by rw [← HM.out.1]; omega)])
      have hg9 := H0.out.layE HBW.out HB.out HOS.out (fun x hx => .inl (by rw [HTE.out] at hx; exact (List.mem_filter.1 hx).1))
      have hc9 : Chg w (wr.setCell ⟨rb, 1, none⟩ (.slice sa T.length sc)) (fun i => i = rb) := (Chg.of_below HBW.out (fun i => i = rb)).setCell (p := ⟨rb, 1, none⟩) (fun _ => rfl) _
      have ho9 : kI.Own (wr.setCell ⟨rb, 1, none⟩ (.slice sa T.length sc)) w.heap.size (.slice ga G.length gc) G := HOG.out.chg ((Chg.refl wr (fun i => i = rb)).setCell (p := ⟨rb, 1, none⟩) (fun _ => rfl) _) (fun q hq e => by have := (HOG.out.lt q hq).1; have := HRB.out; omega)
      have fz : wr.frozen? ⟨rb, 1, none⟩ = false := frozen_of_blk (HC.out wr HBW.out).1 1
      have hn9 : RowsNew w (wr.setCell ⟨rb, 1, none⟩ (.slice sa T.length sc)) rb := fun i v hv => by
        by_cases e : i = 1
        · subst e
          right
          intro q hq
          have h1 : (wr.setCell ⟨rb, 1, none⟩ (.slice sa T.length sc)).cell? ⟨rb, 1, none⟩ = some (.slice sa T.length sc) := by
            rw [cell_of_blk (blk_setCell (HC.out wr HBW.out).1 _)]; simp
          rw [h1] at hv
          injection hv with hv
          subst hv
          exact (HOS.out.lt q hq).1
        · left
          rw [cell_of_blk (blk_setCell (HC.out wr HBW.out).1 _)] at hv
          rw [cell_of_blk (HC.out w (Below.refl _ _)).1]
          cases i with
          | zero => simpa using hv
          | succ i => cases i with
            | zero => exact absurd rfl e
            | succ i => simp at hv
      have HG9 := Lib.hid hg9
      have HC9 := Lib.hid hc9
      have HO9 := Lib.hid ho9
      have HN9 := Lib.hid hn9
      clear hjm hg9 hc9 ho9 hn9
      go_wp2_with fail
      go_ret2
      unfold RdPost
      rw [if_neg (show ¬ (if true then (findB Eg.id (EL.map Er.e) n).isNone else (findB Vt.id (VL.map Vr.v) n).isNone) = true from by show ¬ (findB Eg.id (EL.map Er.e) n).isNone = true; rw [HPQ.out]; simp), ← HGE.out, ← HTE.out]
      exact ⟨ga, gc, rfl, HO9.out, HG9.out, HC9.out, HN9.out⟩
set_option maxRecDepth 100000 in
set_option maxHeartbeats 4000000 in
theorem r16dropV_any {w : World} {rb B : Nat} {VL : List Vr} {EL : List Er} (h : RgL w rb B VL EL) (hB : B ≤ w.heap.size) (n : Int) (hvl : VL.length ≤ 1000000) (hel : EL.length ≤ 1000000) :
    Calls Tryz.prog 88 #[.pointer (some ⟨rb, 0, none⟩), .bool false, .int .i64 n] w (RdPost w rb B VL EL false n) := by
  have HB := Lib.hid hB
  have H0 := Lib.hid h
  have HL : Hid (VL.length ≤ 1000000 ∧ EL.length ≤ 1000000) := Lib.hid ⟨hvl, hel⟩
  have HF := Lib.hid (r16V_any h (by omega) n)
  obtain ⟨m, hm⟩ : ∃ m, m = EL.length := ⟨_, rfl⟩
  obtain ⟨k, hk⟩ : ∃ m, m = VL.length := ⟨_, rfl⟩
  obtain ⟨va, vc, ea, ec, hc⟩ : ∃ va vc ea ec, ∀ u, Below w.heap.size w u → u.heap[rb]? = some (.cells #[.slice va k vc, .slice ea m ec] 39 (0, 0)) ∧ kVr.V u va VL ∧ kEr.V u ea EL := by
    obtain ⟨⟨va, vc, ea, ec, h1, h2, h3⟩, _⟩ := h
    refine ⟨va, vc, ea, ec, fun u hu => ⟨?_, (h2.below hu).toV, (h3.below hu).toV⟩⟩
    rw [hm, hk]
    exact (hu.block _ (Array.getElem?_eq_some_iff.1 h1).1).trans h1
  have HC := Lib.hid hc
  have HM : Hid (m = EL.length ∧ m ≤ 1000000) := Lib.hid ⟨hm, by omega⟩
  have HK : Hid (k = VL.length ∧ k ≤ 1000000) := Lib.hid ⟨hk, by omega⟩
  have HRB : Hid (rb < w.heap.size) := Lib.hid h.size
  clear h hB hvl hel hm hk hc
  go_enter Tryz.func88, Tryz.ntmps88
  go_wp2_with fail
  refine HF.out.mono ?_
  rintro e w1 ⟨rfl, r, rfl, hr⟩
  have hpq : (findB Vt.id (VL.map Vr.v) n).isNone = decide (r < 0) := by
    rcases hr with ⟨rfl, hno⟩ | ⟨i, x, rfl, hx, hxi⟩
    · rw [findB_none.2 (fun y hy => by obtain ⟨z, hz, rfl⟩ := List.mem_map.1 hy; exact hno z hz)]; rfl
    · have : (findB Vt.id (VL.map Vr.v) n).isSome = true := find_some_of (x := x.v) (List.mem_map.2 ⟨x, List.mem_of_getElem? hx, rfl⟩) hxi
      rw [decide_eq_false (by omega)]
      cases hf : findB Vt.id (VL.map Vr.v) n with
      | none => rw [hf] at this; cases this
      | some y => rfl
  obtain ⟨t, ht⟩ : ∃ t, decide (r < 0) = t := ⟨_, rfl⟩
  rw [ht] at hpq
  have HPQ := Lib.hid hpq
  clear hpq hr
  cases t
  case true =>
    go_wp2_with fail
    go_ret2
    unfold RdPost
    rw [if_pos (show (if false then (findB Eg.id (EL.map Er.e) n).isNone else (findB Vt.id (VL.map Vr.v) n).isNone) = true from HPQ.out)]
    exact ⟨rfl, rfl⟩
  have HI0 : Hid (DrI w w (touchR false n) EL 0 (.slice none 0 0) (.slice none 0 0)) := Lib.hid ⟨RowK.Own.nil kI _ _, RowK.Own.nil kEr _ _, Below.refl _ _⟩
  go_upto_region 3 with fail
  clear ht
  go_wp2_with fail
  go_loopw [8, 9, 10] (fun g s i wr => ∃ j : Nat, i = .int .i64 j ∧ j ≤ m ∧ Hid (DrI w wr (touchR false n) EL j g s)) (fun _ _ i _ => m - (intOf i).toNat)
  case atStart => exact ⟨0, rfl, Nat.zero_le _, HI0⟩
  case round =>
    clear HI0
    obtain ⟨j, rfl, hj, HI⟩ := hrel
    have hml := HM.out.2
    obtain ⟨ga, gc, rfl⟩ := HI.out.g.shape
    obtain ⟨sa, sc, rfl⟩ := HI.out.s.shape
    obtain ⟨G, hG⟩ : ∃ l, l = idsE ((EL.take j).map Er.e) (touchR false n) := ⟨_, rfl⟩
    obtain ⟨T, hT⟩ : ∃ l, l = (EL.take j).filter (fun x => !touchR false n x.e) := ⟨_, rfl⟩
    have hOG := HI.out.g
    have hOS := HI.out.s
    rw [← hG] at hOG ⊢
    rw [← hT] at hOS ⊢
    have HG := Lib.hid hG
    have HT := Lib.hid hT
    have HOG := Lib.hid hOG
    have HOS := Lib.hid hOS
    have HBW := Lib.hid HI.out.b
    have HGL : Hid (G.length ≤ j ∧ T.length ≤ j) := Lib.hid ⟨by rw [hG]; refine Nat.le_trans (idsE_len _ _) ?_; rw [List.length_map, List.length_take]; omega, by rw [hT]; refine Nat.le_trans (List.length_filter_le _ _) ?_; rw [List.length_take]; omega⟩
    obtain ⟨q0, _, hv⟩ := HC.out wr HBW.out
    have c1 := cell_of_blk q0 1
    have zr : rb < wr.heap.size := (Array.getElem?_eq_some_iff.1 q0).1
    simp at c1
    clear hG hT hOG hOS q0
    by_cases hlt : j < m
    · obtain ⟨x, hx⟩ : ∃ x, EL[j]? = some x := ⟨_, List.getElem?_eq_getElem (by have := HM.out; omega)⟩
      obtain ⟨b, off, rfl, hat⟩ := hv (fun e => by rw [e] at hx; simp at hx)
      have x0 := hat.cells j x hx 0 _ rfl
      have x1 := hat.cells j x hx 1 _ rfl
      have x2 := hat.cells j x hx 2 _ rfl
      have x3 := hat.cells j x hx 3 _ rfl
      have x4 := hat.cells j x hx 4 _ rfl
      simp [kEr] at x0 x1 x2 x3 x4
      have hbl := hat.lt
      have tj : decide ((j : Int) < (m : Int)) = true := decide_eq_true (by omega)
      have hjz : (j : Int) < (m : Int) := by omega
      have HTG := Lib.hid (idsE_takeR (touchR false n) hx)
      have HTT := Lib.hid (filter_takeR (fun x : Er => !touchR false n x.e) hx)
      obtain ⟨U, hU⟩ : ∃ U, U = wr.alloc (.cells #[.int .i64 x.e.id, .string x.e.label, .int .i64 x.e.fr, .int .i64 x.e.to, .slice x.a x.e.ps.length x.c] 30) := ⟨_, rfl⟩
      obtain ⟨xb, hxb⟩ : ∃ b, b = wr.heap.size := ⟨_, rfl⟩
      have hBU : Below wr.heap.size wr U := by rw [hU]; exact below_box _ _
      have eX : U.heap[xb]? = some (.cells #[.int .i64 x.e.id, .string x.e.label, .int .i64 x.e.fr, .int .i64 x.e.to, .slice x.a x.e.ps.length x.c] 30 (0, 0)) := by rw [hU, hxb]; exact heap_new _ _
      have HOGU := Lib.hid (HOG.out.below hBU)
      have HOSU := Lib.hid (HOS.out.below hBU)
      have HBU : Hid (Below w.heap.size w U) := Lib.hid (HBW.out.trans (hBU.mono HBW.out.size))
      have HU := Lib.hid hU
      have HXB := Lib.hid hxb
      have HEX := Lib.hid eX
      clear hx hat hv hU hxb hBU eX
      go_upto_region 9 with fail
      rw [← HU.out, ← HXB.out]
      clear c1 zr x0 x1 x2 x3 x4 hbl tj hjz
      have y0 := cell_of_blk HEX.out 0
      have y1 := cell_of_blk HEX.out 1
      have y2 := cell_of_blk HEX.out 2
      have y3 := cell_of_blk HEX.out 3
      have y4 := cell_of_blk HEX.out 4
      simp at y0 y1 y2 y3 y4
      have hxl : xb < U.heap.size := (Array.getElem?_eq_some_iff.1 HEX.out).1
      have HZ : Hid (w.heap.size ≤ U.heap.size) := Lib.hid HBU.out.size
      by_cases he : x.e.fr = n
      · have t1 : (x.e.fr == n) = true := by simpa using he
        have HTR : Hid (touchR false n x.e = true) := Lib.hid (by unfold touchR; rw [t1]; rfl)
        clear he
        have HP : Hid (G ++ [x.e.id] = idsE ((EL.take (j + 1)).map Er.e) (touchR false n)) := Lib.hid (by rw [HTG.out, ← HG.out, if_pos HTR.out])
        have HQ : Hid (T = (EL.take (j + 1)).filter (fun x => !touchR false n x.e)) := Lib.hid (by rw [HTT.out, ← HT.out, HTR.out]; simp)
        have HXV := Lib.hid (int_new U U.heap.size rfl x.e.id)
        have HOA := Lib.hid (HOGU.out.alloc (.cells #[.int .i64 x.e.id] 3))
        have HOB := Lib.hid (HOSU.out.alloc (.cells #[.int .i64 x.e.id] 3))
        have HNE := Lib.hid (own_ne HOA.out HOB.out (by decide))
        go_wp2_with (first | (at_builtin; refine RowK.wpList_app (k := kI) rfl (.tmp 70) (.tmp 73) rfl rfl HOA.out (some ⟨U.heap.size, 0, none⟩) 1 [x.e.id] 1 rfl rfl HXV.out (fun e => by cases e) (by have := HGL.out; simp; omega) (by have := HZ.out; simp; omega) ?_; intro v8 w8 hA; have HA8 := Lib.hid hA; clear hA) | fail)
        obtain ⟨oA, gA, kA⟩ := HA8.out
        refine ⟨⟨j + 1, by simp, hlt, Lib.hid ⟨by rw [← HP.out]; exact oA, by rw [← HQ.out]; exact HOB.out.grown gA (fun q hq e => HNE.out q e.symm hq), (HBU.out.alloc HZ.out _).grown gA (by have := HZ.out; simp; omega) (fun q hq => (HOA.out.lt q hq).1)⟩⟩, by simp [intOf]; omega⟩
      · have t1 : (x.e.fr == n) = false := by simpa using he
        clear he
        by_cases he : x.e.to = n
        · have t2 : (x.e.to == n) = true := by simpa using he
          have HTR : Hid (touchR false n x.e = true) := Lib.hid (by unfold touchR; rw [t1, t2]; rfl)
          clear he
          have HP : Hid (G ++ [x.e.id] = idsE ((EL.take (j + 1)).map Er.e) (touchR false n)) := Lib.hid (by rw [HTG.out, ← HG.out, if_pos HTR.out])
          have HQ : Hid (T = (EL.take (j + 1)).filter (fun x => !touchR false n x.e)) := Lib.hid (by rw [HTT.out, ← HT.out, HTR.out]; simp)
          have HXV := Lib.hid (int_new U U.heap.size rfl x.e.id)
          have HOA := Lib.hid (HOGU.out.alloc (.cells #[.int .i64 x.e.id] 3))
          have HOB := Lib.hid (HOSU.out.alloc (.cells #[.int .i64 x.e.id] 3))
          have HNE := Lib.hid (own_ne HOA.out HOB.out (by decide))
          go_wp2_with (first | (at_builtin; refine RowK.wpList_app (k := kI) rfl (.tmp 70) (.tmp 73) rfl rfl HOA.out (some ⟨U.heap.size, 0, none⟩) 1 [x.e.id] 1 rfl rfl HXV.out (fun e => by cases e) (by have := HGL.out; simp; omega) (by have := HZ.out; simp; omega) ?_; intro v8 w8 hA; have HA8 := Lib.hid hA; clear hA) | fail)
          obtain ⟨oA, gA, kA⟩ := HA8.out
          refine ⟨⟨j + 1, by simp, hlt, Lib.hid ⟨by rw [← HP.out]; exact oA, by rw [← HQ.out]; exact HOB.out.grown gA (fun q hq e => HNE.out q e.symm hq), (HBU.out.alloc HZ.out _).grown gA (by have := HZ.out; simp; omega) (fun q hq => (HOA.out.lt q hq).1)⟩⟩, by simp [intOf]; omega⟩
        · have t2 : (x.e.to == n) = false := by simpa using he
          have HTR : Hid (touchR false n x.e = false) := Lib.hid (by unfold touchR; rw [t1, t2]; rfl)
          clear he
          have HP : Hid (G = idsE ((EL.take (j + 1)).map Er.e) (touchR false n)) := Lib.hid (by rw [HTG.out, ← HG.out, HTR.out]; simp)
          have HQ : Hid (T ++ [x] = (EL.take (j + 1)).filter (fun x => !touchR false n x.e)) := Lib.hid (by rw [HTT.out, ← HT.out, HTR.out]; simp)
          have HXV : Hid (kEr.V (U.alloc (.cells #[.int .i64 x.e.id, .string x.e.label, .int .i64 x.e.fr, .int .i64 x.e.to, .slice x.a x.e.ps.length x.c] 30)) (some ⟨U.heap.size, 0, none⟩) [x]) := Lib.hid (fun _ => ⟨_, 0, rfl, RowK.new_at (k := kEr) (heap_new U _) (by simp [RowK.cells, kEr, Er.enc])⟩)
          have HOA := Lib.hid (HOSU.out.alloc (.cells #[.int .i64 x.e.id, .string x.e.label, .int .i64 x.e.fr, .int .i64 x.e.to, .slice x.a x.e.ps.length x.c] 30))
          have HOB := Lib.hid (HOGU.out.alloc (.cells #[.int .i64 x.e.id, .string x.e.label, .int .i64 x.e.fr, .int .i64 x.e.to, .slice x.a x.e.ps.length x.c] 30))
          have HNE := Lib.hid (own_ne HOA.out HOB.out (by decide))
          go_wp2_with (first | (at_builtin; refine RowK.wpList_app (k := kEr) rfl (.tmp 75) (.tmp 77) rfl rfl HOA.out (some ⟨U.heap.size, 0, none⟩) 1 [x] 1 rfl rfl HXV.out (fun e => by cases e) (by have := HGL.out; simp; omega) (by have := HZ.out; simp; omega) ?_; intro v8 w8 hA; have HA8 := Lib.hid hA; clear hA) | fail)
          obtain ⟨oA, gA, kA⟩ := HA8.out
          refine ⟨⟨j + 1, by simp, hlt, Lib.hid ⟨by rw [← HP.out]; exact HOB.out.grown gA (fun q hq e => HNE.out q e.symm hq), by rw [← HQ.out]; exact oA, (HBU.out.alloc HZ.out _).grown gA (by have := HZ.out; simp; omega) (fun q hq => (HOA.out.lt q hq).1)⟩⟩, by simp [intOf]; omega⟩
    · have hjm : j = m := by omega
      have tj : decide ((j : Int) < (m : Int)) = false := decide_eq_false (by omega)
      have HGE : Hid (G = idsE (EL.map Er.e) (touchR false n)) := Lib.hid (by rw [HG.out, List.take_of_length_le (by rw [← HM.out.1]; omega)])
      have HTE : Hid (T = EL.filter (fun x => !touchR false n x.e)) := Lib.hid (by rw [HT.out, List.take_of_length_le (by rw [← HM.out.1]; omega)])
      have hg9 := H0.out.layE HBW.out HB.out HOS.out (fun x hx => .inl (by rw [HTE.out] at hx; exact (List.mem_filter.1 hx).1))
      have hc9 : Chg w (wr.setCell ⟨rb, 1, none⟩ (.slice sa T.length sc)) (fun i => i = rb) := (Chg.of_below HBW.out (fun i => i = rb)).setCell (p := ⟨rb, 1, none⟩) (fun _ => rfl) _
      have ho9 : kI.Own (wr.setCell ⟨rb, 1, none⟩ (.slice sa T.length sc)) w.heap.size (.slice ga G.length gc) G := HOG.out.chg ((Chg.refl wr (fun i => i = rb)).setCell (p := ⟨rb, 1, none⟩) (fun _ => rfl) _) (fun q hq e => by have := (HOG.out.lt q hq).1; have := HRB.out; omega)
      have fz : wr.frozen? ⟨rb, 1, none⟩ = false := frozen_of_blk (HC.out wr HBW.out).1 1
      have hn9 : RowsNew w (wr.setCell ⟨rb, 1, none⟩ (.slice sa T.length sc)) rb := fun i v hv => by
        by_cases e : i = 1
        · subst e
          right
          intro q hq
          have h1 : (wr.setCell ⟨rb, 1, none⟩ (.slice sa T.length sc)).cell? ⟨rb, 1, none⟩ = some (.slice sa T.length sc) := by
            rw [cell_of_blk (blk_setCell (HC.out wr HBW.out).1 _)]; simp
          rw [h1] at hv
          injection hv with hv
          subst hv
          exact (HOS.out.lt q hq).1
        · left
          rw [cell_of_blk (blk_setCell (HC.out wr HBW.out).1 _)] at hv
          rw [cell_of_blk (HC.out w (Below.refl _ _)).1]
          cases i with
          | zero => simpa using hv
          | succ i => cases i with
            | zero => exact absurd rfl e
            | succ i => simp at hv
      have HG9 := Lib.hid hg9
      have HC9 := Lib.hid hc9
      have HO9 := Lib.hid ho9
      have HN9 := Lib.hid hn9
      clear hjm hg9 hc9 ho9 hn9
      obtain ⟨u1, hu1⟩ : ∃ u, u = wr.setCell ⟨rb, 1, none⟩ (.slice sa T.length sc) := ⟨_, rfl⟩
      have HU1 := Lib.hid hu1
      rw [← hu1] at HG9 HC9 HO9 HN9
      go_upto_region 14 with fail
      rw [← HU1.out]
      clear hu1
      obtain ⟨⟨va2, vc2, ea2, ec2, hb2, hov2, _⟩, _⟩ := HG9.out
      have HV2 : Hid (∀ u, Below u1.heap.size u1 u → u.heap[rb]? = some (.cells #[.slice va2 k vc2, .slice ea2 (EL.filter (fun x => !touchR false n x.e)).length ec2] 39 (0, 0)) ∧ kVr.V u va2 VL) := Lib.hid (fun u hu => ⟨by rw [HK.out.1, ← HTE.out]; exact (hu.block _ (Array.getElem?_eq_some_iff.1 hb2).1).trans hb2, (hov2.below hu).toV⟩)
      have HWU : Hid (w.heap.size ≤ u1.heap.size) := Lib.hid HC9.out.size
      clear hb2 hov2
      go_wp2_with fail
      obtain ⟨wo, rfl⟩ : ∃ wo : World, wo = wr := ⟨_, rfl⟩
      go_loopw [12, 13] (fun v i wr => ∃ j : Nat, i = .int .i64 j ∧ j ≤ k ∧ kVr.Own wr u1.heap.size v ((VL.take j).filter (fun x => x.v.id != n)) ∧ Below u1.heap.size u1 wr) (fun _ i _ => k - (intOf i).toNat)
      case atStart => exact ⟨0, rfl, Nat.zero_le _, RowK.Own.nil kVr _ _, Below.refl _ _⟩
      case round =>
        obtain ⟨i, rfl, hi, hO, hb⟩ := hrel
        have hkl := HK.out.2
        obtain ⟨oa, oc, rfl⟩ := hO.shape
        obtain ⟨D, hD⟩ : ∃ l, l = (VL.take i).filter (fun x => x.v.id != n) := ⟨_, rfl⟩
        rw [← hD] at hO ⊢
        have HD := Lib.hid hD
        have HO := Lib.hid hO
        have HBQ := Lib.hid hb
        have HDL : Hid (D.length ≤ i) := Lib.hid (by rw [hD]; refine Nat.le_trans (List.length_filter_le _ _) ?_; rw [List.length_take]; omega)
        obtain ⟨q0, hv⟩ := HV2.out wr hb
        have c0 := cell_of_blk q0 0
        have zr : rb < wr.heap.size := (Array.getElem?_eq_some_iff.1 q0).1
        simp at c0
        have HZ := Lib.hid hb.size
        clear hD hO hb
        by_cases hlt : i < k
        · obtain ⟨x, hx⟩ : ∃ x, VL[i]? = some x := ⟨_, List.getElem?_eq_getElem (by have := HK.out; omega)⟩
          obtain ⟨b, off, rfl, hat⟩ := hv (fun e => by rw [e] at hx; simp at hx)
          have x0 := hat.cells i x hx 0 _ rfl
          have x1 := hat.cells i x hx 1 _ rfl
          have x2 := hat.cells i x hx 2 _ rfl
          simp [kVr] at x0 x1 x2
          have hbl := hat.lt
          have ti : decide ((i : Int) < (k : Int)) = true := decide_eq_true (by omega)
          have hiz : (i : Int) < (k : Int) := by omega
          have HTT := Lib.hid (filter_takeR (fun x : Vr => x.v.id != n) hx)
          clear hat hx hv q0
          by_cases he : x.v.id = n
          · have t1 : (x.v.id == n) = true := by simpa using he
            have HQ : Hid (D = (VL.take (i + 1)).filter (fun x => x.v.id != n)) := Lib.hid (by rw [HTT.out, ← HD.out, he]; simp)
            clear he
            go_wp2_with fail
            exact ⟨⟨i + 1, by simp, hlt, by rw [← HQ.out]; exact HO.out, HBQ.out⟩, by simp [intOf]; omega⟩
          · have t1 : (x.v.id == n) = false := by simpa using he
            have HQ : Hid (D ++ [x] = (VL.take (i + 1)).filter (fun x => x.v.id != n)) := Lib.hid (by rw [HTT.out, ← HD.out]; simp [he])
            have HXV : Hid (kVr.V (wr.alloc (.cells #[.int .i64 x.v.id, .string x.v.label, .slice x.a x.v.ps.length x.c] 28)) (some ⟨wr.heap.size, 0, none⟩) [x]) := Lib.hid (fun _ => ⟨_, 0, rfl, RowK.new_at (k := kVr) (heap_new wr _) (by simp [RowK.cells, kVr, Vr.enc])⟩)
            have HOA := Lib.hid (HO.out.alloc (.cells #[.int .i64 x.v.id, .string x.v.label, .slice x.a x.v.ps.length x.c] 28))
            clear he
            go_wp2_with (first | (at_builtin; refine RowK.wpList_app (k := kVr) rfl (.tmp 104) (.tmp 112) rfl rfl HOA.out (some ⟨wr.heap.size, 0, none⟩) 1 [x] 1 rfl rfl HXV.out (fun e => by cases e) (by have := HDL.out; simp; omega) (by have := HZ.out; simp; omega) ?_; intro v8 w8 hA; have HA8 := Lib.hid hA; clear hA) | fail)
            obtain ⟨oA, gA, kA⟩ := HA8.out
            refine ⟨⟨i + 1, by simp, hlt, by rw [← HQ.out]; exact oA, (HBQ.out.alloc HZ.out _).grown gA (by have := HZ.out; simp; omega) (fun q hq => (HOA.out.lt q hq).1)⟩, by simp [intOf]; omega⟩
        · have hik : i = k := by omega
          have ti : decide ((i : Int) < (k : Int)) = false := decide_eq_false (by omega)
          have HDE : Hid (D = VL.filter (fun x => x.v.id != n)) := Lib.hid (by rw [HD.out, List.take_of_length_le (by rw [← HK.out.1]; omega)])
          have hg := HG9.out.layV HBQ.out (Nat.le_trans HB.out HWU.out) HO.out (fun x hx => .inl (by rw [HDE.out] at hx; exact (List.mem_filter.1 hx).1))
          have hcq : Chg wr (wr.setCell ⟨rb, 0, none⟩ (.slice oa D.length oc)) (fun i => i = rb) := (Chg.refl wr (fun i => i = rb)).setCell (p := ⟨rb, 0, none⟩) (fun _ => rfl) _
          have HGX := Lib.hid hg
          have HCX : Hid (Chg w (wr.setCell ⟨rb, 0, none⟩ (.slice oa D.length oc)) (fun i => i = rb)) := Lib.hid ((HC9.out.trans (Chg.of_below HBQ.out (fun i => i = rb)) (fun _ _ h => h)).trans hcq (fun _ _ h => h))
          have HOX : Hid (kI.Own (wr.setCell ⟨rb, 0, none⟩ (.slice oa D.length oc)) w.heap.size (.slice ga G.length gc) G) := Lib.hid ((HO9.out.below HBQ.out).chg hcq (fun q hq e => by have := (HO9.out.lt q hq).1; have := HRB.out; omega))
          have HNX : Hid (RowsNew w (wr.setCell ⟨rb, 0, none⟩ (.slice oa D.length oc)) rb) := Lib.hid (fun i v hv => by
            rw [cell_of_blk (blk_setCell q0 _)] at hv
            cases i with
            | zero =>
              right
              intro q hq
              have hv2 : v = .slice oa D.length oc := by simpa using hv.symm
              subst hv2
              exact Nat.le_trans HWU.out (HO.out.lt q hq).1
            | succ i => cases i with
              | zero =>
                refine HN9.out 1 v ?_
                rw [cell_of_blk (HV2.out u1 (Below.refl _ _)).1]
                simpa using hv
              | succ i => simp at hv)
          have fz2 : wr.frozen? ⟨rb, 0, none⟩ = false := frozen_of_blk q0 0
          clear hik hg hcq q0 hv
          go_wp2_with fail
          go_ret2
          unfold RdPost
          rw [if_neg (show ¬ (if false then (findB Eg.id (EL.map Er.e) n).isNone else (findB Vt.id (VL.map Vr.v) n).isNone) = true from by show ¬ (findB Vt.id (VL.map Vr.v) n).isNone = true; rw [HPQ.out]; simp), ← HGE.out]
          refine ⟨ga, gc, rfl, HOX.out, ?_, HCX.out, HNX.out⟩
          show RgL _ rb B (VL.filter (fun x => x.v.id != n)) (EL.filter (fun x => !touchR false n x.e))
          rw [← HDE.out, ← HTE.out]
          exact HGX.out
end Go.Proofs.YtonilojjahfboaaGreat
namespace Go.Proofs.YtonilojjahfboaaGreat
open Go.RowKit Go.Maps

/-- a place in a row of a reference graph, where a slice stands -/
structure InRow (u : World) (rb : Nat) (p : Addr) : Prop where
  row : ∃ i v, u.cell? ⟨rb, i, none⟩ = some v ∧ v.ownBlock = some p.block
  blk : ∃ cs z, u.heap[p.block]? = some (.cells cs 28 z) ∨ u.heap[p.block]? = some (.cells cs 30 z)
  old : ∃ a n c, u.cell? p = some (.slice a n c)
/-- what Set leaves -/
def RsPost (w : World) (rb B : Nat) (r : Int × List Vt × List Eg) (e : Ending) (w' : World) : Prop :=
  e = .returned (.int .i64 r.1) ∧ ∃ u VL EL, Below w.heap.size w u ∧ (w' = u ∨ ∃ p v, w' = u.setCell p v ∧ InRow u rb p) ∧ RgL w' rb B VL EL ∧ VL.map Vr.v = r.2.1 ∧ EL.map Er.e = r.2.2
theorem set_mapB {α β : Type} {key : β → Int} {f : α → β} {L : List α} (hs : SortB key (L.map f)) {i : Nat} {x x' : α} (hx : L[i]? = some x) (hk : key (f x') = key (f x)) : (L.set i x').map f = chgB key (L.map f) (key (f x)) (f x') := by
  unfold chgB
  rw [List.map_set]
  apply List.ext_getElem?
  intro j
  have hil := (List.getElem?_eq_some_iff.1 hx).1
  rw [List.getElem?_set, List.getElem?_map, List.getElem?_map, List.getElem?_map]
  by_cases e : i = j
  · subst e
    rw [if_pos rfl, if_pos (by simpa using hil), hx]
    simp
  · rw [if_neg e]
    cases hy : L[j]? with
    | none => rfl
    | some y =>
      have hjl := (List.getElem?_eq_some_iff.1 hy).1
      have hne : key (f y) ≠ key (f x) := by
        intro he
        have hp : L.Pairwise (fun a b => key (f a) < key (f b)) := by
          have h' : (L.map f).Pairwise (fun a b => key a < key b) := hs
          rwa [List.pairwise_map] at h'
        rcases Nat.lt_or_gt_of_ne e with h | h
        · have := List.pairwise_iff_getElem.1 hp i j hil hjl h
          rw [(List.getElem?_eq_some_iff.1 hx).2, (List.getElem?_eq_some_iff.1 hy).2] at this
          omega
        · have := List.pairwise_iff_getElem.1 hp j i hjl hil h
          rw [(List.getElem?_eq_some_iff.1 hx).2, (List.getElem?_eq_some_iff.1 hy).2] at this
          omega
      simp [hne]
/-- cells that hold texts and numbers outlive a write where a slice stood -/
theorem PsA.inRow {w : World} {p : Addr} {v : Value} {a : Option Addr} {c : Nat} {ps : List Pr} (h : PsA w a c ps) (hp : ∃ b n q, w.cell? p = some (.slice b n q)) : PsA (w.setCell p v) a c ps := by
  obtain ⟨b, n, q, hp⟩ := hp
  refine ⟨fun hne => ?_, h.nil⟩
  obtain ⟨bk, off, e, hat⟩ := h.v hne
  have key : ∀ (o : Nat) (x : Value), (∀ b n q, x ≠ .slice b n q) → w.cell? ⟨bk, o, none⟩ = some x → (w.setCell p v).cell? ⟨bk, o, none⟩ = some x := fun o x hx hc => by
    rw [← hc]
    refine World.cell?_setCell_other _ _ _ _ (fun e => ?_)
    rw [e, hc] at hp
    injection hp with hp
    exact hx _ _ _ hp
  refine ⟨bk, off, e, ⟨hat.ok, fun i p hi => ?_, by have := hat.lt; simpa using this⟩⟩
  obtain ⟨h0, h1, h2, h3⟩ := hat.cells i p hi
  exact ⟨key _ _ (fun _ _ _ e => by cases e) h0, key _ _ (fun _ _ _ e => by cases e) h1, key _ _ (fun _ _ _ e => by cases e) h2, key _ _ (fun _ _ _ e => by cases e) h3⟩
set_option maxRecDepth 100000 in
set_option maxHeartbeats 4000000 in
theorem r16setV_any {w : World} {rb B : Nat} {VL : List Vr} {EL : List Er} (h : RgL w rb B VL EL) (hG : PGo (VL.map Vr.v) (EL.map Er.e)) (hB : B ≤ w.heap.size) (n : Int) (unset : Bool) (pa ka : Option Addr) (pc kc : Nat) (ps : List Pr) (ks : List ByteArray) (hps : PsV w pa ps) (hpl : ps.length ≤ 10000) (hks : SsV w ka ks) (hkl : ks.length ≤ 1000000) (hvl : VL.length ≤ 1000000) (hel : EL.length ≤ 1000000) :
    Calls Tryz.prog 86 #[.pointer (some ⟨rb, 0, none⟩), .bool false, .int .i64 n, .slice pa ps.length pc, .slice ka ks.length kc, .bool unset] w (RsPost w rb B (changeG (VL.map Vr.v) (EL.map Er.e) false n (if unset then dropF ks else setF ps))) := by
  obtain ⟨f, hf⟩ : ∃ f, f = (if unset then dropF ks else setF ps) := ⟨_, rfl⟩
  rw [← hf]
  have HFU := Lib.hid hf
  clear hf
  have HB := Lib.hid hB
  have H0 := Lib.hid h
  have HG := Lib.hid hG
  have HFV := Lib.hid (r16V_any h (by omega) n)
  have HFE := Lib.hid (r16E_any h (by omega) n)
  have HPS := Lib.hid (And.intro hps hpl)
  have HKS := Lib.hid (And.intro hks hkl)
  obtain ⟨pn, hpn⟩ : ∃ m, m = ps.length := ⟨_, rfl⟩
  obtain ⟨kn, hkn⟩ : ∃ m, m = ks.length := ⟨_, rfl⟩
  have HPN := Lib.hid hpn
  have HKN := Lib.hid hkn
  obtain ⟨m, hm⟩ : ∃ m, m = VL.length := ⟨_, rfl⟩
  obtain ⟨va, vc, hc⟩ : ∃ va vc, ∀ u, Below w.heap.size w u → u.cell? ⟨rb, 0, none⟩ = some (.slice va m vc) ∧ rb < u.heap.size ∧ kVr.Own u B (.slice va m vc) VL := by
    obtain ⟨⟨va, vc, ea, ec, h1, h2, h3⟩, _⟩ := h
    refine ⟨va, vc, fun u hu => ?_⟩
    have e := (hu.block _ (Array.getElem?_eq_some_iff.1 h1).1).trans h1
    rw [hm]
    exact ⟨by rw [cell_of_blk e]; rfl, (Array.getElem?_eq_some_iff.1 e).1, h2.below hu⟩
  have HC := Lib.hid hc
  have HM : Hid (m = VL.length ∧ m ≤ 1000000) := Lib.hid ⟨hm, by omega⟩
  rw [← hpn, ← hkn]
  clear h hG hB hps hpl hks hkl hvl hel hpn hkn hm hc
  go_enter Tryz.func86, Tryz.ntmps86
  go_wp2_with fail
  refine HFV.out.mono ?_
  rintro e w1 ⟨rfl, rv, rfl, hrv⟩
  go_wp2_with fail
  refine HFE.out.mono ?_
  rintro e w1 ⟨rfl, re, rfl, hre⟩
  rcases hrv with ⟨rfl, hno⟩ | ⟨i, x, rfl, hx, hxi⟩
  · have HF : Hid (changeG (VL.map Vr.v) (EL.map Er.e) false n f = (101, VL.map Vr.v, EL.map Er.e)) := Lib.hid (by
      have hn : findB Vt.id (VL.map Vr.v) n = none := findB_none.2 (fun y hy => by obtain ⟨z, hz, rfl⟩ := List.mem_map.1 hy; exact hno z hz)
      unfold changeG
      simp [hn])
    clear hre hno
    go_wp2_with fail
    go_ret
    unfold RsPost
    rw [HF.out]
    exact ⟨rfl, _, VL, EL, Below.refl _ _, .inl rfl, H0.out, rfl, rfl⟩
  · subst hxi
    have hmem : x.v ∈ VL.map Vr.v := List.mem_map.2 ⟨x, List.mem_of_getElem? hx, rfl⟩
    have HF : Hid (∀ f, changeG (VL.map Vr.v) (EL.map Er.e) false x.v.id f = match f x.v.ps with
      | .ok l => (0, chgB Vt.id (VL.map Vr.v) x.v.id (x.v.setPs l), EL.map Er.e)
      | .error z => (z, VL.map Vr.v, EL.map Er.e)) := Lib.hid (fun f => by
      have hn := findB_mem HG.out.sv hmem
      unfold changeG
      simp only [hn]
      cases f x.v.ps <;> rfl)
    have HRT : Hid (rightPs x.v.ps = true ∧ x.v.ps.length ≤ 16) := Lib.hid ⟨(checkR_zero (HG.out.v x.v hmem)).2.2, checkR_ps (HG.out.v x.v hmem)⟩
    have HPX : Hid (∀ u, Below w.heap.size w u → PsA u x.a x.c x.v.ps) := Lib.hid (fun u hu => (H0.out.pv x (List.mem_of_getElem? hx)).1.below hu)
    obtain ⟨b, cp, hsl, _, _, hat⟩ := (HC.out w (Below.refl _ _)).2.2.at' (fun e => by rw [e] at hx; simp at hx)
    injection hsl with e1 e2 e3
    subst e1 e3
    have hil : i < m := by have := (List.getElem?_eq_some_iff.1 hx).1; have := HM.out.1; omega
    have hiz : (i : Int) < (m : Int) := by omega
    have n1 : decide ((i : Int) < 0) = false := decide_eq_false (by omega)
    obtain ⟨c0, zr, _⟩ := HC.out w (Below.refl _ _)
    have x0 := hat.cells i x hx 2 _ rfl
    simp [kVr] at x0
    have hbl := hat.lt
    have HXC : Hid (∀ u, Below w.heap.size w u → u.cell? ⟨b, i * 3 + 2, none⟩ = some (.slice x.a x.v.ps.length x.c) ∧ b < u.heap.size ∧ u.frozen? ⟨b, i * 3 + 2, none⟩ = false) := Lib.hid (fun u hu => ⟨(hu.cell (p := ⟨b, _, none⟩) hbl).trans x0, Nat.lt_of_lt_of_le hbl hu.size, by
      rcases (HC.out u hu).2.2.2 with ⟨hv, _⟩ | ⟨g, cap, cur, hv, _, hg, _⟩
      · cases hv
      · injection hv with q1 _ _
        injection q1 with q1
        injection q1 with q1
        subst q1
        exact frozen_of_blk hg _⟩)
    obtain ⟨xn, hxn⟩ : ∃ l, l = x.v.ps.length := ⟨_, rfl⟩
    rw [← hxn] at x0 HXC
    have HXN := Lib.hid hxn
    -- the row behind the store
    have HST : Hid (∀ (u : World) (a : Option Addr) (c : Nat) (l : List Pr), Below w.heap.size w u → PsB u w.heap.size a c l → ∃ VL' EL', RgL (u.setCell ⟨b, i * 3 + 2, none⟩ (.slice a l.length c)) rb B VL' EL' ∧ InRow u rb ⟨b, i * 3 + 2, none⟩ ∧ (VL'.map Vr.v, EL'.map Er.e) = (chgB Vt.id (VL.map Vr.v) x.v.id (x.v.setPs l), EL.map Er.e)) := Lib.hid (fun u a c l hu hl => by
      obtain ⟨⟨va1, vc1, ea1, ec1, h1, h2, h3⟩, h4, h5, h6⟩ := H0.out.below hu
      obtain ⟨d0, _, ho⟩ := HC.out u hu
      have hold : ∃ b' n' q', u.cell? ⟨b, i * 3 + 2, none⟩ = some (.slice b' n' q') := ⟨_, _, _, (HXC.out u hu).1⟩
      have hd1 : u.cell? ⟨rb, 0, none⟩ = some (.slice va1 VL.length vc1) := by rw [cell_of_blk h1]; rfl
      rw [d0] at hd1
      injection hd1 with hd1
      obtain ⟨g', cap', cur', hg', hBg, hgb, _⟩ : ∃ g' cap' cur', (Value.slice (some ⟨b, 0, none⟩) m vc) = .slice (some ⟨g', 0, none⟩) VL.length cap' ∧ B ≤ g' ∧ u.heap[g']? = some (.cells cur' 28 (0, 0)) ∧ True := by
        rcases ho.2 with ⟨hv, _⟩ | ⟨g, cap, cur, hv, hBg, hg, _⟩
        · cases hv
        · refine ⟨g, cap, cur, ?_, hBg, hg, trivial⟩
          rw [hv]
      have hgb' : g' = b := by
        injection hg' with q1 _ _
        injection q1 with q1
        injection q1 with q1
        exact q1.symm
      subst hgb'
      have hrb : rb ≠ g' := by omega
      have hup := RowK.Own.upd (k := kVr) ho hx (r := 2) (x' := (⟨x.v.setPs l, a, c⟩ : Vr)) [.slice a l.length c] (by show 2 + 1 ≤ 3; omega) (fun j => by
        match j with
        | 0 => rfl
        | 1 => rfl
        | 2 => rfl
        | j + 3 =>
          have e1 : (kVr.enc (⟨x.v.setPs l, a, c⟩ : Vr))[j + 3]? = none := List.getElem?_eq_none (by rw [kVr.len]; show 3 ≤ _; omega)
          have e2 : (kVr.enc x)[j + 3]? = none := List.getElem?_eq_none (by rw [kVr.len]; show 3 ≤ _; omega)
          rw [e1, if_neg (by show ¬ (2 ≤ j + 3 ∧ j + 3 < 2 + 1); omega), e2])
      have hup' : kVr.Own (u.setCell ⟨g', i * 3 + 2, none⟩ (.slice a l.length c)) B (.slice (some ⟨g', 0, none⟩) m vc) (VL.set i ⟨x.v.setPs l, a, c⟩) := hup
      have hch : Chg u (u.setCell ⟨g', i * 3 + 2, none⟩ (.slice a l.length c)) (fun j => j = g') := (Chg.refl u (fun j => j = g')).setCell (p := ⟨g', _, none⟩) (fun _ => rfl) _
      have hoth := h3.chg hch (fun j hj e => own_ne h3 ho (by decide) j hj (by rw [e]; rfl))
      refine ⟨VL.set i ⟨x.v.setPs l, a, c⟩, EL, ⟨⟨va1, vc1, ea1, ec1, (hch.block rb (Array.getElem?_eq_some_iff.1 h1).1 hrb).trans (by rw [h1]; simp), by (have q := hup'; rw [hd1] at q; rw [List.length_set]; exact q), hoth⟩, (fun y hy => by
        rcases List.mem_or_eq_of_mem_set hy with hy | rfl
        · exact ⟨(h4 y hy).1.inRow hold, (h4 y hy).2⟩
        · exact ⟨hl.1.inRow hold, fun b o e => Nat.le_trans HB.out (hl.2 b o e)⟩), (fun y hy => ⟨(h5 y hy).1.inRow hold, (h5 y hy).2⟩), h6⟩, ⟨⟨0, _, d0, rfl⟩, ⟨cur', (0, 0), .inl hgb⟩, hold⟩, ?_⟩
      show (_, _) = _
      rw [set_mapB (key := Vt.id) (x' := (⟨x.v.setPs l, a, c⟩ : Vr)) HG.out.sv hx rfl])
    clear hre hmem hx hat hxn
    have HDR : Hid (Calls Tryz.prog 168 #[.slice x.a xn x.c, .slice ka kn kc] w (PsPost w (dropP x.v.ps ks))) := Lib.hid (by rw [HXN.out, HKN.out]; exact r3drop_any x.a ka x.c kc x.v.ps ks w (HPX.out w (Below.refl _ _)) (by have := HRT.out.2; omega) HKS.out.1 HKS.out.2)
    have HSE : Hid (Calls Tryz.prog 169 #[.slice x.a xn x.c, .slice pa pn pc] w (StPost w x.v.ps ps)) := Lib.hid (by rw [HXN.out, HPN.out]; exact r3set_any x.a pa x.c pc x.v.ps ps w (HPX.out w (Below.refl _ _)) HRT.out.1 HPS.out.1 HPS.out.2)
    cases unset
    · obtain rfl : f = setF ps := HFU.out
      have HF2 := Lib.hid (HF.out (setF ps))
      unfold setF at HF2
      unfold StPost at HSE
      cases hgo : setGo x.v.ps ps with
      | error z =>
        rw [hgo] at HF2 HSE
        have hz : (z != 0) = true := by rcases setGo_err hgo with rfl | rfl | rfl <;> rfl
        clear hgo
        go_wp2_with (first | (go_at_call 169; (with_reducible refine HSE.out.mono ?_); rintro e w2 ⟨b2, rfl⟩; have HB2 := Lib.hid b2; clear b2) | fail)
        go_ret
        unfold RsPost setF
        rw [HF2.out]
        exact ⟨rfl, w2, VL, EL, HB2.out, .inl rfl, H0.out.below HB2.out, rfl, rfl⟩
      | ok l =>
        rw [hgo] at HF2 HSE
        clear hgo
        go_wp2_with (first | (go_at_call 169; (with_reducible refine HSE.out.mono ?_); rintro e w2 ⟨b2, a2, c2, rfl, p2⟩; have HP2 := Lib.hid p2; have HB2 := Lib.hid b2; clear p2 b2; obtain ⟨d0, dr, _⟩ := HC.out w2 HB2.out; obtain ⟨d1, d2, d3⟩ := HXC.out w2 HB2.out) | fail)
        go_ret
        unfold RsPost setF
        rw [HF2.out]
        obtain ⟨VL', EL', h1, h2, h3⟩ := HST.out w2 a2 c2 l HB2.out HP2.out
        exact ⟨rfl, w2, VL', EL', HB2.out, .inr ⟨_, _, rfl, h2⟩, h1, congrArg Prod.fst h3, congrArg Prod.snd h3⟩
    · obtain rfl : f = dropF ks := HFU.out
      have HF2 : Hid (changeG (VL.map Vr.v) (EL.map Er.e) false x.v.id (dropF ks) = (0, chgB Vt.id (VL.map Vr.v) x.v.id (x.v.setPs (dropP x.v.ps ks)), EL.map Er.e)) := Lib.hid (HF.out (dropF ks))
      obtain ⟨l, hl⟩ : ∃ l, l = dropP x.v.ps ks := ⟨_, rfl⟩
      rw [← hl] at HF2 HDR
      clear hl
      go_wp2_with (first | (go_at_call 168; (with_reducible refine HDR.out.mono ?_); rintro e w2 ⟨a2, c2, rfl, p2, b2⟩; have HP2 := Lib.hid p2; have HB2 := Lib.hid b2; clear p2 b2; obtain ⟨d0, dr, _⟩ := HC.out w2 HB2.out; obtain ⟨d1, d2, d3⟩ := HXC.out w2 HB2.out) | fail)
      go_ret
      unfold RsPost
      rw [HF2.out]
      obtain ⟨VL', EL', h1, h2, h3⟩ := HST.out w2 a2 c2 l HB2.out HP2.out
      exact ⟨rfl, w2, VL', EL', HB2.out, .inr ⟨_, _, rfl, h2⟩, h1, congrArg Prod.fst h3, congrArg Prod.snd h3⟩
set_option maxRecDepth 100000 in
set_option maxHeartbeats 4000000 in
theorem r16setE_any {w : World} {rb B : Nat} {VL : List Vr} {EL : List Er} (h : RgL w rb B VL EL) (hG : PGo (VL.map Vr.v) (EL.map Er.e)) (hB : B ≤ w.heap.size) (n : Int) (unset : Bool) (pa ka : Option Addr) (pc kc : Nat) (ps : List Pr) (ks : List ByteArray) (hps : PsV w pa ps) (hpl : ps.length ≤ 10000) (hks : SsV w ka ks) (hkl : ks.length ≤ 1000000) (hvl : VL.length ≤ 1000000) (hel : EL.length ≤ 1000000) :
    Calls Tryz.prog 86 #[.pointer (some ⟨rb, 0, none⟩), .bool true, .int .i64 n, .slice pa ps.length pc, .slice ka ks.length kc, .bool unset] w (RsPost w rb B (changeG (VL.map Vr.v) (EL.map Er.e) true n (if unset then dropF ks else setF ps))) := by
  obtain ⟨f, hf⟩ : ∃ f, f = (if unset then dropF ks else setF ps) := ⟨_, rfl⟩
  rw [← hf]
  have HFU := Lib.hid hf
  clear hf
  have HB := Lib.hid hB
  have H0 := Lib.hid h
  have HG := Lib.hid hG
  have HFV := Lib.hid (r16V_any h (by omega) n)
  have HFE := Lib.hid (r16E_any h (by omega) n)
  have HPS := Lib.hid (And.intro hps hpl)
  have HKS := Lib.hid (And.intro hks hkl)
  obtain ⟨pn, hpn⟩ : ∃ m, m = ps.length := ⟨_, rfl⟩
  obtain ⟨kn, hkn⟩ : ∃ m, m = ks.length := ⟨_, rfl⟩
  have HPN := Lib.hid hpn
  have HKN := Lib.hid hkn
  obtain ⟨m, hm⟩ : ∃ m, m = EL.length := ⟨_, rfl⟩
  obtain ⟨va, vc, hc⟩ : ∃ va vc, ∀ u, Below w.heap.size w u → u.cell? ⟨rb, 1, none⟩ = some (.slice va m vc) ∧ rb < u.heap.size ∧ kEr.Own u B (.slice va m vc) EL := by
    obtain ⟨⟨va, vc, ea, ec, h1, h2, h3⟩, _⟩ := h
    refine ⟨ea, ec, fun u hu => ?_⟩
    have e := (hu.block _ (Array.getElem?_eq_some_iff.1 h1).1).trans h1
    rw [hm]
    exact ⟨by rw [cell_of_blk e]; rfl, (Array.getElem?_eq_some_iff.1 e).1, h3.below hu⟩
  have HC := Lib.hid hc
  have HM : Hid (m = EL.length ∧ m ≤ 1000000) := Lib.hid ⟨hm, by omega⟩
  rw [← hpn, ← hkn]
  clear h hG hB hps hpl hks hkl hvl hel hpn hkn hm hc
  go_enter Tryz.func86, Tryz.ntmps86
  go_wp2_with fail
  refine HFV.out.mono ?_
  rintro e w1 ⟨rfl, rv, rfl, hrv⟩
  go_wp2_with fail
  refine HFE.out.mono ?_
  rintro e w1 ⟨rfl, re, rfl, hre⟩
  rcases hre with ⟨rfl, hno⟩ | ⟨i, x, rfl, hx, hxi⟩
  · have HF : Hid (changeG (VL.map Vr.v) (EL.map Er.e) true n f = (101, VL.map Vr.v, EL.map Er.e)) := Lib.hid (by
      have hn : findB Eg.id (EL.map Er.e) n = none := findB_none.2 (fun y hy => by obtain ⟨z, hz, rfl⟩ := List.mem_map.1 hy; exact hno z hz)
      unfold changeG
      simp [hn])
    clear hrv hno
    go_wp2_with fail
    go_ret
    unfold RsPost
    rw [HF.out]
    exact ⟨rfl, _, VL, EL, Below.refl _ _, .inl rfl, H0.out, rfl, rfl⟩
  · subst hxi
    have hmem : x.e ∈ EL.map Er.e := List.mem_map.2 ⟨x, List.mem_of_getElem? hx, rfl⟩
    have HF : Hid (∀ f, changeG (VL.map Vr.v) (EL.map Er.e) true x.e.id f = match f x.e.ps with
      | .ok l => (0, VL.map Vr.v, chgB Eg.id (EL.map Er.e) x.e.id (x.e.setPs l))
      | .error z => (z, VL.map Vr.v, EL.map Er.e)) := Lib.hid (fun f => by
      have hn := findB_mem HG.out.se hmem
      unfold changeG
      simp only [hn]
      cases f x.e.ps <;> rfl)
    have HRT : Hid (rightPs x.e.ps = true ∧ x.e.ps.length ≤ 16) := Lib.hid ⟨(checkR_zero (HG.out.e x.e hmem)).2.2, checkR_ps (HG.out.e x.e hmem)⟩
    have HPX : Hid (∀ u, Below w.heap.size w u → PsA u x.a x.c x.e.ps) := Lib.hid (fun u hu => (H0.out.pe x (List.mem_of_getElem? hx)).1.below hu)
    obtain ⟨b, cp, hsl, _, _, hat⟩ := (HC.out w (Below.refl _ _)).2.2.at' (fun e => by rw [e] at hx; simp at hx)
    injection hsl with e1 e2 e3
    subst e1 e3
    have hil : i < m := by have := (List.getElem?_eq_some_iff.1 hx).1; have := HM.out.1; omega
    have hiz : (i : Int) < (m : Int) := by omega
    have n1 : decide ((i : Int) < 0) = false := decide_eq_false (by omega)
    obtain ⟨c0, zr, _⟩ := HC.out w (Below.refl _ _)
    have x0 := hat.cells i x hx 4 _ rfl
    simp [kEr] at x0
    have hbl := hat.lt
    have HXC : Hid (∀ u, Below w.heap.size w u → u.cell? ⟨b, i * 5 + 4, none⟩ = some (.slice x.a x.e.ps.length x.c) ∧ b < u.heap.size ∧ u.frozen? ⟨b, i * 5 + 4, none⟩ = false) := Lib.hid (fun u hu => ⟨(hu.cell (p := ⟨b, _, none⟩) hbl).trans x0, Nat.lt_of_lt_of_le hbl hu.size, by
      rcases (HC.out u hu).2.2.2 with ⟨hv, _⟩ | ⟨g, cap, cur, hv, _, hg, _⟩
      · cases hv
      · injection hv with q1 _ _
        injection q1 with q1
        injection q1 with q1
        subst q1
        exact frozen_of_blk hg _⟩)
    obtain ⟨xn, hxn⟩ : ∃ l, l = x.e.ps.length := ⟨_, rfl⟩
    rw [← hxn] at x0 HXC
    have HXN := Lib.hid hxn
    -- the row behind the store
    have HST : Hid (∀ (u : World) (a : Option Addr) (c : Nat) (l : List Pr), Below w.heap.size w u → PsB u w.heap.size a c l → ∃ VL' EL', RgL (u.setCell ⟨b, i * 5 + 4, none⟩ (.slice a l.length c)) rb B VL' EL' ∧ InRow u rb ⟨b, i * 5 + 4, none⟩ ∧ (VL'.map Vr.v, EL'.map Er.e) = (VL.map Vr.v, chgB Eg.id (EL.map Er.e) x.e.id (x.e.setPs l))) := Lib.hid (fun u a c l hu hl => by
      obtain ⟨⟨va1, vc1, ea1, ec1, h1, h2, h3⟩, h4, h5, h6⟩ := H0.out.below hu
      obtain ⟨d0, _, ho⟩ := HC.out u hu
      have hold : ∃ b' n' q', u.cell? ⟨b, i * 5 + 4, none⟩ = some (.slice b' n' q') := ⟨_, _, _, (HXC.out u hu).1⟩
      have hd1 : u.cell? ⟨rb, 1, none⟩ = some (.slice ea1 EL.length ec1) := by rw [cell_of_blk h1]; rfl
      rw [d0] at hd1
      injection hd1 with hd1
      obtain ⟨g', cap', cur', hg', hBg, hgb, _⟩ : ∃ g' cap' cur', (Value.slice (some ⟨b, 0, none⟩) m vc) = .slice (some ⟨g', 0, none⟩) EL.length cap' ∧ B ≤ g' ∧ u.heap[g']? = some (.cells cur' 30 (0, 0)) ∧ True := by
        rcases ho.2 with ⟨hv, _⟩ | ⟨g, cap, cur, hv, hBg, hg, _⟩
        · cases hv
        · refine ⟨g, cap, cur, ?_, hBg, hg, trivial⟩
          rw [hv]
      have hgb' : g' = b := by
        injection hg' with q1 _ _
        injection q1 with q1
        injection q1 with q1
        exact q1.symm
      subst hgb'
      have hrb : rb ≠ g' := by omega
      have hup := RowK.Own.upd (k := kEr) ho hx (r := 4) (x' := (⟨x.e.setPs l, a, c⟩ : Er)) [.slice a l.length c] (by show 4 + 1 ≤ 5; omega) (fun j => by
        match j with
        | 0 => rfl
        | 1 => rfl
        | 2 => rfl
        | 3 => rfl
        | 4 => rfl
        | j + 5 =>
          have e1 : (kEr.enc (⟨x.e.setPs l, a, c⟩ : Er))[j + 5]? = none := List.getElem?_eq_none (by rw [kEr.len]; show 5 ≤ _; omega)
          have e2 : (kEr.enc x)[j + 5]? = none := List.getElem?_eq_none (by rw [kEr.len]; show 5 ≤ _; omega)
          rw [e1, if_neg (by show ¬ (4 ≤ j + 5 ∧ j + 5 < 4 + 1); omega), e2])
      have hup' : kEr.Own (u.setCell ⟨g', i * 5 + 4, none⟩ (.slice a l.length c)) B (.slice (some ⟨g', 0, none⟩) m vc) (EL.set i ⟨x.e.setPs l, a, c⟩) := hup
      have hch : Chg u (u.setCell ⟨g', i * 5 + 4, none⟩ (.slice a l.length c)) (fun j => j = g') := (Chg.refl u (fun j => j = g')).setCell (p := ⟨g', _, none⟩) (fun _ => rfl) _
      have hoth := h2.chg hch (fun j hj e => own_ne h2 ho (by decide) j hj (by rw [e]; rfl))
      refine ⟨VL, EL.set i ⟨x.e.setPs l, a, c⟩, ⟨⟨va1, vc1, ea1, ec1, (hch.block rb (Array.getElem?_eq_some_iff.1 h1).1 hrb).trans (by rw [h1]; simp), hoth, by (have q := hup'; rw [hd1] at q; rw [List.length_set]; exact q)⟩, (fun y hy => ⟨(h4 y hy).1.inRow hold, (h4 y hy).2⟩), (fun y hy => by
        rcases List.mem_or_eq_of_mem_set hy with hy | rfl
        · exact ⟨(h5 y hy).1.inRow hold, (h5 y hy).2⟩
        · exact ⟨hl.1.inRow hold, fun b o e => Nat.le_trans HB.out (hl.2 b o e)⟩), h6⟩, ⟨⟨1, _, d0, rfl⟩, ⟨cur', (0, 0), .inr hgb⟩, hold⟩, ?_⟩
      show (_, _) = _
      rw [set_mapB (key := Eg.id) (x' := (⟨x.e.setPs l, a, c⟩ : Er)) HG.out.se hx rfl])
    clear hrv hmem hx hat hxn
    have HDR : Hid (Calls Tryz.prog 168 #[.slice x.a xn x.c, .slice ka kn kc] w (PsPost w (dropP x.e.ps ks))) := Lib.hid (by rw [HXN.out, HKN.out]; exact r3drop_any x.a ka x.c kc x.e.ps ks w (HPX.out w (Below.refl _ _)) (by have := HRT.out.2; omega) HKS.out.1 HKS.out.2)
    have HSE : Hid (Calls Tryz.prog 169 #[.slice x.a xn x.c, .slice pa pn pc] w (StPost w x.e.ps ps)) := Lib.hid (by rw [HXN.out, HPN.out]; exact r3set_any x.a pa x.c pc x.e.ps ps w (HPX.out w (Below.refl _ _)) HRT.out.1 HPS.out.1 HPS.out.2)
    cases unset
    · obtain rfl : f = setF ps := HFU.out
      have HF2 := Lib.hid (HF.out (setF ps))
      unfold setF at HF2
      unfold StPost at HSE
      cases hgo : setGo x.e.ps ps with
      | error z =>
        rw [hgo] at HF2 HSE
        have hz : (z != 0) = true := by rcases setGo_err hgo with rfl | rfl | rfl <;> rfl
        clear hgo
        go_wp2_with (first | (go_at_call 169; (with_reducible refine HSE.out.mono ?_); rintro e w2 ⟨b2, rfl⟩; have HB2 := Lib.hid b2; clear b2) | fail)
        go_ret
        unfold RsPost setF
        rw [HF2.out]
        exact ⟨rfl, w2, VL, EL, HB2.out, .inl rfl, H0.out.below HB2.out, rfl, rfl⟩
      | ok l =>
        rw [hgo] at HF2 HSE
        clear hgo
        go_wp2_with (first | (go_at_call 169; (with_reducible refine HSE.out.mono ?_); rintro e w2 ⟨b2, a2, c2, rfl, p2⟩; have HP2 := Lib.hid p2; have HB2 := Lib.hid b2; clear p2 b2; obtain ⟨d0, dr, _⟩ := HC.out w2 HB2.out; obtain ⟨d1, d2, d3⟩ := HXC.out w2 HB2.out) | fail)
        go_ret
        unfold RsPost setF
        rw [HF2.out]
        obtain ⟨VL', EL', h1, h2, h3⟩ := HST.out w2 a2 c2 l HB2.out HP2.out
        exact ⟨rfl, w2, VL', EL', HB2.out, .inr ⟨_, _, rfl, h2⟩, h1, congrArg Prod.fst h3, congrArg Prod.snd h3⟩
    · obtain rfl : f = dropF ks := HFU.out
      have HF2 : Hid (changeG (VL.map Vr.v) (EL.map Er.e) true x.e.id (dropF ks) = (0, VL.map Vr.v, chgB Eg.id (EL.map Er.e) x.e.id (x.e.setPs (dropP x.e.ps ks)))) := Lib.hid (HF.out (dropF ks))
      obtain ⟨l, hl⟩ : ∃ l, l = dropP x.e.ps ks := ⟨_, rfl⟩
      rw [← hl] at HF2 HDR
      clear hl
      go_wp2_with (first | (go_at_call 168; (with_reducible refine HDR.out.mono ?_); rintro e w2 ⟨a2, c2, rfl, p2, b2⟩; have HP2 := Lib.hid p2; have HB2 := Lib.hid b2; clear p2 b2; obtain ⟨d0, dr, _⟩ := HC.out w2 HB2.out; obtain ⟨d1, d2, d3⟩ := HXC.out w2 HB2.out) | fail)
      go_ret
      unfold RsPost
      rw [HF2.out]
      obtain ⟨VL', EL', h1, h2, h3⟩ := HST.out w2 a2 c2 l HB2.out HP2.out
      exact ⟨rfl, w2, VL', EL', HB2.out, .inr ⟨_, _, rfl, h2⟩, h1, congrArg Prod.fst h3, congrArg Prod.snd h3⟩
end Go.Proofs.YtonilojjahfboaaGreat
namespace Go.Proofs.YtonilojjahfboaaGreat
open Go.RowKit Go.Maps

theorem RowsNew.of_below {w w' : World} {rb : Nat} (hb : Below w.heap.size w w') (hr : rb < w.heap.size) : RowsNew w w' rb := fun i v hv => .inl (by
  rw [← hv]; exact (hb.cell (p := ⟨rb, i, none⟩) hr).symm)
theorem RowsNew.lay {w u : World} {rb i0 : Nat} {v0 : Value} (hb : Below w.heap.size w u) (hr : rb < w.heap.size) (hn : ∀ j, v0.ownBlock = some j → w.heap.size ≤ j) : RowsNew w (u.setCell ⟨rb, i0, none⟩ v0) rb := fun i v hv => by
  by_cases e : i = i0
  · subst e
    right
    cases hu : u.cell? ⟨rb, i, none⟩ with
    | none =>
      exfalso
      have : (u.setCell ⟨rb, i, none⟩ v0).cell? ⟨rb, i, none⟩ = none := by
        unfold World.cell? at hu ⊢
        simp only [World.setCell, Array.getElem?_modify, if_true]
        cases hb : u.heap[rb]? with
        | none => simp
        | some o =>
          rw [hb] at hu
          cases o <;> simp_all
      rw [this] at hv; cases hv
    | some x =>
      rw [World.cell?_setCell_same u ⟨rb, i, none⟩ v0 hu] at hv
      injection hv with hv
      subst hv
      exact hn
  · left
    rw [World.cell?_setCell_other u ⟨rb, i0, none⟩ ⟨rb, i, none⟩ v0 (fun h => e (by injection h with _ h _; exact h.symm))] at hv
    rw [← hv]
    exact (hb.cell (p := ⟨rb, i, none⟩) hr).symm
def RavPostN (w : World) (rb B : Nat) (V : List Vt) (E : List Eg) (v : Vt) (e : Ending) (w' : World) : Prop := e = .returned (.int .i64 (addV V v).1) ∧ RgC w' rb B (addV V v).2 E ∧ Chg w w' (fun i => i = rb) ∧ RowsNew w w' rb
def RaePostN (w : World) (rb B : Nat) (V : List Vt) (E : List Eg) (v : Eg) (e : Ending) (w' : World) : Prop := e = .returned (.int .i64 (addE V E v).1) ∧ RgC w' rb B V (addE V E v).2 ∧ Chg w w' (fun i => i = rb) ∧ RowsNew w w' rb
set_option maxRecDepth 100000 in
set_option maxHeartbeats 4000000 in
theorem r16addVN_any {w : World} {rb B : Nat} {VL : List Vr} {EL : List Er} (v : Vt) (a : Option Addr) (c : Nat) (h : RgL w rb B VL EL) (hB : B ≤ w.heap.size) (hp : PsA w a c v.ps) (hl : v.ps.length ≤ 100000) (hid : I64 v.id) (hlab : v.label.size ≤ 2000000) (hvl : VL.length ≤ 500000) (hel : EL.length ≤ 500000) :
    Calls Tryz.prog 83 #[.pointer (some ⟨rb, 0, none⟩), v.val a c] w (RavPostN w rb B (VL.map Vr.v) (EL.map Er.e) v) := by
  obtain ⟨V, hV⟩ : ∃ V, V = VL.map Vr.v := ⟨_, rfl⟩
  obtain ⟨E, hE⟩ : ∃ E, E = EL.map Er.e := ⟨_, rfl⟩
  rw [← hV, ← hE]
  have HV := Lib.hid hV
  have HE := Lib.hid hE
  clear hV hE
  have HX0 := Lib.hid (heap_new w (.cells #[.int .i64 v.id, .string v.label, .slice a v.ps.length c] 28))
  have HW0 := Lib.hid ((below_box w (.cells #[.int .i64 v.id, .string v.label, .slice a v.ps.length c] 28)).alloc (by simp) (.cells #[.int .i64 v.id] 3))
  have HIDS : Hid (IsV ((w.alloc (.cells #[.int .i64 v.id, .string v.label, .slice a v.ps.length c] 28)).alloc (.cells #[.int .i64 v.id] 3)) (some ⟨w.heap.size + 1, 0, none⟩) [v.id]) := Lib.hid (ids_at (heap_new2 w _ _) (by simp [hid]))
  have HG := Lib.hid h
  have HPA := Lib.hid hp
  have HPL := Lib.hid hl
  have HID := Lib.hid hid
  have HVL := Lib.hid hvl
  have HEL := Lib.hid hel
  have HLB := Lib.hid hlab
  have HBZ := Lib.hid hB
  clear h hp hl hid hvl hel hlab hB
  unfold Vt.val
  go_enter Tryz.func83, Tryz.ntmps83
  go_wp2_with fail
  refine (r16check_any v.label a _ c 1 v.ps [v.id] _ HLB.out (HPA.out.v.below HW0.out) HIDS.out HPL.out (by simp)).mono ?_
  rintro e w1 ⟨rfl, b1⟩
  have HB1 : Hid (w1.heap[w.heap.size]? = some (.cells #[.int .i64 v.id, .string v.label, .slice a v.ps.length c] 28)) := Lib.hid ((b1.block _ (by simp; omega)).trans ((Below.heap_alloc _ _ _ (by simp)).trans HX0.out))
  have HBW : Hid (Below w.heap.size w w1) := Lib.hid (HW0.out.trans (b1.mono (by simp; omega)))
  replace HPA : Hid (PsA w1 a c v.ps) := Lib.hid (HPA.out.below HBW.out)
  have HG1 : Hid (RgL w1 rb B VL EL) := Lib.hid (HG.out.below HBW.out)
  have HKB : Hid (w.heap.size < w1.heap.size ∧ B ≤ w.heap.size) := Lib.hid ⟨(Array.getElem?_eq_some_iff.1 HB1.out).1, HBZ.out⟩
  clear b1 HIDS HX0 HW0
  by_cases hck : checkR v.label v.ps [v.id] = 0
  case neg =>
    have HCK := Lib.hid hck
    have t1 : (checkR v.label v.ps [v.id] != 0) = true := by simp [hck]
    clear hck
    go_wp2_with fail
    go_ret
    unfold RavPostN addV
    rw [if_neg HCK.out]
    exact ⟨rfl, ⟨VL, EL, HG1.out, HV.out.symm, HE.out.symm⟩, Chg.of_below HBW.out _, RowsNew.of_below HBW.out HG.out.size⟩
  case pos =>
  rw [hck]
  have HCK := Lib.hid hck
  clear hck
  have k0 := cell_of_blk HB1.out 0

  simp at k0
  have hz1 := HKB.out.1
  go_wp2_with fail
  refine (r16V_any HG1.out (by have := HVL.out; omega) v.id).mono ?_
  rintro e w2 ⟨rfl, r, rfl, hr⟩
  rcases hr with ⟨rfl, hno⟩ | ⟨i, x, rfl, hx, hk⟩
  rotate_left
  · have HA : Hid (addV V v = (31, V)) := Lib.hid (by
      have hf : (findB Vt.id V v.id).isSome = true := find_some_of (x := x.v) (by rw [HV.out]; exact List.mem_map.2 ⟨x, List.mem_of_getElem? hx, rfl⟩) hk
      unfold addV
      rw [if_pos HCK.out, if_pos hf])
    clear hx hk
    have t1 : decide ((0 : Int) ≤ (i : Int)) = true := by simp
    go_wp2_with fail
    go_ret
    unfold RavPostN
    rw [HA.out]
    exact ⟨rfl, ⟨VL, EL, HG1.out, HV.out.symm, HE.out.symm⟩, Chg.of_below HBW.out _, RowsNew.of_below HBW.out HG.out.size⟩
  have HF : Hid (∀ x ∈ VL, x.v.id ≠ v.id) := Lib.hid hno
  have HADD : Hid ((Ending.returned (.int .i64 0)) = .returned (.int .i64 (addV V v).1) ∧ (addV V v).2 = insB Vt.id v V) := Lib.hid (by
    have hf : findB Vt.id V v.id = none := findB_none.2 (fun y hy => by
      rw [HV.out] at hy
      obtain ⟨x, hx, rfl⟩ := List.mem_map.1 hy
      exact hno x hx)
    unfold addV
    rw [if_pos HCK.out, hf]
    exact ⟨rfl, rfl⟩)
  clear hno
  have HE0 : Hid (kP.Own (w1.alloc (.cells #[] 137)) w1.heap.size (.slice (some ⟨w1.heap.size, 0, none⟩) 0 0) []) := Lib.hid (RowK.Own.new (k := kP) (l := []) (heap_new w1 (.cells #[] 137)) (Nat.le_refl _) rfl (Nat.zero_le _))
  have HPV : Hid (kP.V (w1.alloc (.cells #[] 137)) a v.ps) := Lib.hid ((HPA.out.below (below_box w1 _)).v.kP)
  have HPN : Hid (a = none → c = 0) := Lib.hid (fun e => (HPA.out.nil e).1)
  have HPL' : Hid (([] : List Pr).length + v.ps.length ≤ 4000000) := Lib.hid (by have := HPL.out; simp; omega)
  have p0 := cell_of_blk ((Below.heap_alloc w1 (.cells #[] 137) w.heap.size hz1).trans HB1.out) 2
  simp at p0
  go_upto_region 7 with (first | (at_builtin; refine RowK.wpList_app (k := kP) (B := w1.heap.size) (v := .slice (some ⟨w1.heap.size, 0, none⟩) 0 0) (l := []) rfl (.tmp 24) (.tmp 26) rfl rfl HE0.out a v.ps.length v.ps c rfl rfl HPV.out HPN.out HPL'.out (by simp) ?_; rintro v8 u8 g8; obtain ⟨a2, c2, hv8⟩ := g8.1.shape; rw [List.nil_append] at hv8 g8; subst hv8; have G8 := Lib.hid g8; clear g8; have HB8 : Hid (Below w1.heap.size w1 u8) := Lib.hid ((below_box w1 _).trans (below_grownR HE0.out G8.out.2.1 (by simp))); have y0 := cell_of_blk ((HB8.out.block _ HKB.out.1).trans HB1.out) 2; have f0 := frozen_of_blk ((HB8.out.block _ HKB.out.1).trans HB1.out) 2; have z0 : w.heap.size < u8.heap.size := Nat.lt_of_lt_of_le HKB.out.1 HB8.out.size; simp at y0) | fail)
  obtain ⟨n2, hn2⟩ : ∃ n2, n2 = v.ps.length := ⟨_, rfl⟩
  have HN2 := Lib.hid hn2
  rw [← hn2]
  obtain ⟨W, hW⟩ : ∃ W, W = u8.setCell ⟨w.heap.size, 2, none⟩ (.slice a2 n2 c2) := ⟨_, rfl⟩
  rw [← hW]
  have HWB : Hid (W.heap[w.heap.size]? = some (.cells #[.int .i64 v.id, .string v.label, .slice a2 n2 c2] 28)) := Lib.hid (by rw [hW, blk_setCell ((HB8.out.block _ HKB.out.1).trans HB1.out)]; simp)
  have HZW : Hid (W.heap.size = u8.heap.size) := Lib.hid (by rw [hW]; simp)
  have HBW2 : Hid (Below w.heap.size w W) := Lib.hid (by rw [hW]; exact (HBW.out.trans (HB8.out.mono HBW.out.size)).setCell (Nat.le_refl _) _)
  have HRW : Hid (RgL W rb B VL EL) := Lib.hid (HG.out.below HBW2.out)
  have HCW : Hid (Chg w W (fun j => j = rb)) := Lib.hid (Chg.of_below HBW2.out _)
  have HBW9 : Hid (B ≤ W.heap.size) := Lib.hid (Nat.le_trans HBZ.out HBW2.out.size)
  have HPB : Hid (PsB W B a2 c2 v.ps) := Lib.hid (by
    have ho : kP.Own W w1.heap.size (.slice a2 v.ps.length c2) v.ps := by
      rw [hW]
      exact G8.out.1.chg (S := fun i => i = w.heap.size) ((Chg.refl u8 (fun i => i = w.heap.size)).setCell (p := ⟨w.heap.size, 2, none⟩) (fun _ => rfl) _) (fun j hj e => by have := (G8.out.1.lt j hj).1; have := HKB.out.1; omega)
    exact psB_own ho HPA.out.v.ok (Nat.le_trans HKB.out.2 (Nat.le_of_lt HKB.out.1)))
  obtain ⟨n, hn⟩ : ∃ n, n = VL.length := ⟨_, rfl⟩
  have HC0 : Hid (∃ va cap ea ec, (∀ u : World, Below W.heap.size W u → u.heap[rb]? = some (.cells #[.slice va n cap, .slice ea EL.length ec] 39 (0, 0)) ∧ u.heap[w.heap.size]? = some (.cells #[.int .i64 v.id, .string v.label, .slice a2 n2 c2] 28 (0, 0)) ∧ kVr.Own u B (.slice va n cap) VL)) := Lib.hid (by
    obtain ⟨⟨va, vc, ea, ec, h1, h2, h3⟩, _, _, _⟩ := HRW.out
    rw [hn]
    exact ⟨va, vc, ea, ec, fun u hu => ⟨(hu.block _ (Array.getElem?_eq_some_iff.1 h1).1).trans h1, (hu.block _ (Array.getElem?_eq_some_iff.1 HWB.out).1).trans HWB.out, h2.below hu⟩⟩)
  have HN := Lib.hid hn
  have HNM : Hid (n ≤ 500000) := Lib.hid (by rw [hn]; exact HVL.out)
  clear hn2 hn hW p0
  obtain ⟨va, cap, ea, ec, hc⟩ := HC0.out
  have HC := Lib.hid hc
  clear hc HC0
  have HI0 : Hid (Below W.heap.size W W) := Lib.hid (Below.refl _ _)
  go_wp2_with fail
  go_loopw [6] (fun i wr => ∃ j : Nat, j ≤ n ∧ i = .int .i64 j ∧ Hid (∀ j' x, j' < j → VL[j']? = some x → x.v.id < v.id) ∧ Hid (Below W.heap.size W wr)) (fun i _ => n - (intOf i).toNat)
  case atStart => exact ⟨0, Nat.zero_le _, rfl, Lib.hid (fun _ _ h => absurd h (Nat.not_lt_zero _)), HI0⟩
  case round =>
    obtain ⟨j, hj, rfl, HLT, HBW⟩ := hrel
    have hnm := HNM.out
    obtain ⟨e1, e2, _⟩ := HC.out _ HBW.out
    have c0 := cell_of_blk e1 0
    have k0 := cell_of_blk e2 0
    simp at c0 k0
    have z1 : rb < wr.heap.size := (Array.getElem?_eq_some_iff.1 e1).1
    have z2 : w.heap.size < wr.heap.size := (Array.getElem?_eq_some_iff.1 e2).1
    clear e1 e2
    by_cases hlt : j < n
    · have hne : VL ≠ [] := fun e => by have := HN.out; rw [e] at this; simp at this; omega
      obtain ⟨b, cp, hbe, _, _, hat⟩ := (HC.out _ HBW.out).2.2.at' hne
      injection hbe with e1 e2 e3
      subst e1
      clear e2 e3
      obtain ⟨x, hx⟩ : ∃ x, VL[j]? = some x := ⟨_, List.getElem?_eq_getElem (by have := HN.out; omega)⟩
      have x0 := hat.cells j x hx 0 _ rfl
      simp [kVr] at x0
      have hbl := hat.lt
      have HX := Lib.hid hx
      clear hat hx hne
      by_cases he : x.v.id < v.id
      · have HE := Lib.hid he
        have t3 : decide (x.v.id < v.id) = true := decide_eq_true he
        go_wp2_with fail
        go_quiet (fail)
        go_wp2_with fail
        refine ⟨⟨j + 1, hlt, by simp, Lib.hid (fun j' y hj' hy => ?_), Lib.hid (below_drewN HBW.out _)⟩, by simp [intOf]; omega⟩
        by_cases e : j' < j
        · exact HLT.out j' y e hy
        · obtain rfl : j' = j := by omega
          rw [HX.out] at hy
          injection hy with hy
          subst hy
          exact HE.out
      · have HGE : Hid (∀ y, VL[j]? = some y → ¬ y.v.id < v.id) := Lib.hid (fun y hy => by rw [HX.out] at hy; injection hy with hy; subst hy; exact he)
        have t3 : decide (x.v.id < v.id) = false := decide_eq_false he
        clear he
        go_wp2_with fail
        go_quiet (fail)
        go_upto_region 11 with fail
        clear t3 x0 k0
        clear c0
        have HBU : Hid (Below W.heap.size W (wr.drewN nq)) := Lib.hid (below_drewN HBW.out _)
        obtain ⟨a1, ha1⟩ : ∃ a1, kVr.pfx ((some ⟨b, 0, none⟩) : Option Addr) cap = a1 := ⟨_, rfl⟩
        obtain ⟨a3, ha3⟩ : ∃ a3, kVr.sfx ((some ⟨b, 0, none⟩) : Option Addr) cap j = a3 := ⟨_, rfl⟩
        obtain ⟨n3, hn3⟩ : ∃ n3, n - j = n3 := ⟨_, rfl⟩
        obtain ⟨c3, hc3⟩ : ∃ c3, cap - j = c3 := ⟨_, rfl⟩
        have HCP : Hid (n ≤ cap) := Lib.hid (by have := (HC.out _ (Below.refl _ _)).2.2.cap; rw [HN.out]; exact this)
        have HV1 : Hid (∀ u, Below W.heap.size W u → kVr.V u a1 (VL.take j)) := Lib.hid (fun u hu => by rw [← ha1]; exact ((HC.out u hu).2.2.toV).take j cap)
        have HV3 : Hid (∀ u, Below W.heap.size W u → kVr.V u a3 (VL.drop j)) := Lib.hid (fun u hu => by rw [← ha3]; exact ((HC.out u hu).2.2.toV).drop (by rw [← HN.out]; exact HCP.out))
        have HNN1 : Hid (a1 = none → cap = 0) := Lib.hid (fun e => RowK.pfx_none (k := kVr) (a := ((some ⟨b, 0, none⟩) : Option Addr)) (fun (ea : ((some ⟨b, 0, none⟩) : Option Addr) = none) => by first | (cases ea; done) | (have := (HC.out _ (Below.refl _ _)).2.2; rw [ea] at this; exact this.noneCap)) (ha1.trans e))
        have HNN3 : Hid (a3 = none → c3 = 0) := Lib.hid (fun e => by rw [← hc3]; exact RowK.sfx_none (k := kVr) (a := ((some ⟨b, 0, none⟩) : Option Addr)) (fun (ea : ((some ⟨b, 0, none⟩) : Option Addr) = none) => by first | (cases ea; done) | (have := (HC.out _ (Below.refl _ _)).2.2; rw [ea] at this; exact this.noneCap)) (ha3.trans e))
        have HL1 : Hid ((VL.take j).length = j) := Lib.hid (by rw [List.length_take]; have := HN.out; omega)
        have HL3 : Hid ((VL.drop j).length = n3) := Lib.hid (by rw [List.length_drop, ← HN.out]; exact hn3)
        have HA1 := Lib.hid ha1
        have HA3 := Lib.hid ha3
        have HN3 := Lib.hid hn3
        have HC3 := Lib.hid hc3
        have hjc : j ≤ cap := Nat.le_trans hj HCP.out
        clear ha1 ha3 hn3 hc3
        obtain ⟨q0, q1, _⟩ := HC.out _ HBU.out
        have l0 := cell_of_blk q0 0
        simp at l0
        clear q0 q1
        go_upto_region 12 with (first | (refine RowK.wpList_pfx (k := kVr) (o := ⟨some 57, _, _, _, _, _⟩) rfl (.tmp 55) (.tmp 56) rfl _ n cap j rfl rfl hjc HA1.out ?_) | (at_builtin; refine RowK.wpList_app (k := kVr) (B := W.heap.size) (v := .slice none 0 0) (l := []) rfl (.tmp 51) (.tmp 57) rfl rfl (RowK.Own.nil kVr _ _) a1 j (VL.take j) cap rfl HL1.out (HV1.out _ HBU.out) HNN1.out (by have := HNM.out; rw [HL1.out]; simp; omega) HBU.out.size ?_; rintro v1 u1 g1; have G1 := Lib.hid g1; clear g1))
        clear l0
        obtain ⟨av1, cv1, hv1⟩ := G1.out.1.shape
        rw [List.nil_append, HL1.out] at hv1
        subst hv1
        have HB1 := Lib.hid (below_then HBU.out (below_nilR G1.out.2.1))
        have HO1 : Hid (kVr.Own u1 W.heap.size (.slice av1 j cv1) (VL.take j)) := Lib.hid G1.out.1
        clear G1
        obtain ⟨q0, q1, _⟩ := HC.out _ HB1.out
        have k0 := cell_of_blk q1 0
        have k1 := cell_of_blk q1 1
        have k2 := cell_of_blk q1 2
        simp at k0 k1 k2
        clear q0 q1
        have HXV : Hid (kVr.V (u1.alloc (.cells #[.int .i64 v.id, .string v.label, .slice a2 n2 c2] 28)) (some ⟨u1.heap.size, 0, none⟩) [(⟨v, a2, c2⟩ : Vr)]) := Lib.hid (fun _ => ⟨_, 0, rfl, RowK.new_at (k := kVr) (heap_new u1 _) (by simp [RowK.cells, kVr, Vr.enc, HN2.out])⟩)
        have HO2 := Lib.hid (HO1.out.alloc (.cells #[.int .i64 v.id, .string v.label, .slice a2 n2 c2] 28))
        have HB2 := Lib.hid (below_then HB1.out (below_box u1 (.cells #[.int .i64 v.id, .string v.label, .slice a2 n2 c2] 28)))
        go_upto_region 13 with ((at_builtin; refine RowK.wpList_app (k := kVr) (B := W.heap.size) (v := .slice av1 j cv1) (l := VL.take j) rfl (.tmp 59) (.tmp 61) rfl rfl HO2.out (some ⟨u1.heap.size, 0, none⟩) 1 [(⟨v, a2, c2⟩ : Vr)] 1 rfl rfl HXV.out (fun e => by cases e) (by have := HNM.out; rw [HL1.out]; simp; omega) HB2.out.size ?_; rintro v2 u2 g2; have G2 := Lib.hid g2; clear g2))
        clear k0 k1 k2
        have HB3 : Hid (Below W.heap.size W u2) := Lib.hid (HB2.out.trans (below_grownR HO2.out G2.out.2.1 HB2.out.size))
        obtain ⟨av2, cv2, hv2⟩ := G2.out.1.shape
        subst hv2
        obtain ⟨m2, hm2⟩ : ∃ m2, m2 = (VL.take j ++ [(⟨v, a2, c2⟩ : Vr)]).length := ⟨_, rfl⟩
        rw [← hm2]
        have HO3 : Hid (kVr.Own u2 W.heap.size (.slice av2 m2 cv2) (VL.take j ++ [(⟨v, a2, c2⟩ : Vr)])) := Lib.hid (by rw [hm2]; exact G2.out.1)
        have HM2 := Lib.hid hm2
        clear hm2 G2
        obtain ⟨q0, _, _⟩ := HC.out _ HB3.out
        have l0 := cell_of_blk q0 0
        simp at l0
        clear q0
        go_wp2_with (first | (refine RowK.wpList_sfx (k := kVr) (o := ⟨some 70, _, _, _, _, _⟩) rfl (.tmp 68) (.tmp 69) rfl _ n cap j rfl rfl hj HA3.out HN3.out HC3.out ?_) | (at_builtin; refine RowK.wpList_app (k := kVr) (B := W.heap.size) (v := .slice av2 m2 cv2) (l := VL.take j ++ [(⟨v, a2, c2⟩ : Vr)]) rfl (.tmp 64) (.tmp 70) rfl rfl HO3.out a3 n3 (VL.drop j) c3 rfl HL3.out (HV3.out _ HB3.out) HNN3.out (by have := HNM.out; have := HL1.out; have := HL3.out; have := HN3.out; simp only [List.length_append, List.length_cons, List.length_nil]; omega) HB3.out.size ?_; rintro v3 u3 g3; obtain ⟨av3, cv3, hv3⟩ := g3.1.shape; obtain ⟨n9, hn9⟩ : ∃ n9, n9 = (VL.take j ++ [(⟨v, a2, c2⟩ : Vr)] ++ VL.drop j).length := ⟨_, rfl⟩; rw [← hn9] at hv3; subst hv3; have HN9 := Lib.hid hn9; have G3 := Lib.hid g3; clear g3 hn9; have HB4 : Hid (Below W.heap.size W u3) := Lib.hid (HB3.out.trans (below_grownR HO3.out G3.out.2.1 HB3.out.size)); have y0 := cell_of_blk (HC.out _ HB4.out).1 0; have f0 := frozen_of_blk (HC.out _ HB4.out).1 0; have z0 : rb < u3.heap.size := (Array.getElem?_eq_some_iff.1 (HC.out _ HB4.out).1).1; simp at y0))
        clear l0 y0 f0
        go_ret
        have hO := G3.out.1
        have hq : u3.setCell ⟨rb, 0, none⟩ (.slice av3 n9 cv3) = u3.setCell ⟨rb, 0, none⟩ (.slice av3 (VL.take j ++ [(⟨v, a2, c2⟩ : Vr)] ++ VL.drop j).length cv3) := by rw [← HN9.out]
        rw [hq]
        rw [HN9.out] at hO
        refine ⟨HADD.out.1, ⟨_, _, HRW.out.layV HB4.out HBW9.out hO (fun x hx => ?_), ?_⟩, ?_, ?_⟩
        · rcases List.mem_append.1 hx with hx | hx
          · rcases List.mem_append.1 hx with hx | hx
            · exact .inl (List.mem_of_mem_take hx)
            · obtain rfl : x = (⟨v, a2, c2⟩ : Vr) := by simpa using hx
              exact .inr (HPB.out.below HB4.out)
          · exact .inl (List.mem_of_mem_drop hx)
        · rw [HADD.out.2]
          exact ⟨map_ins (key := Vt.id) (f := Vr.v) (x := (⟨v, a2, c2⟩ : Vr)) HV.out HLT.out (fun y hy => Int.not_lt.2 (HGE.out y hy)), HE.out.symm⟩
        · rw [← hq]
          exact (HCW.out.trans (Chg.of_below HB4.out (fun j => j = rb)) (fun _ _ h => h)).setCell (p := ⟨rb, 0, none⟩) (fun _ => rfl) _
        · exact RowsNew.lay (HBW2.out.trans (HB4.out.mono HBW2.out.size)) HG.out.size (fun q hq => Nat.le_trans HBW2.out.size (hO.lt q hq).1)
    · have tj : decide ((j : Int) < (n : Int)) = false := decide_eq_false (by omega)
      have HGE : Hid (∀ y, VL[j]? = some y → ¬ y.v.id < v.id) := Lib.hid (fun y hy => by have := (List.getElem?_eq_some_iff.1 hy).1; have := HN.out; omega)
      go_wp2_with fail
      go_quiet (fail)
      go_upto_region 11 with fail
      clear k0 tj
      clear c0
      have HBU : Hid (Below W.heap.size W (wr.drewN nq)) := Lib.hid (below_drewN HBW.out _)
      obtain ⟨a1, ha1⟩ : ∃ a1, kVr.pfx (va : Option Addr) cap = a1 := ⟨_, rfl⟩
      obtain ⟨a3, ha3⟩ : ∃ a3, kVr.sfx (va : Option Addr) cap j = a3 := ⟨_, rfl⟩
      obtain ⟨n3, hn3⟩ : ∃ n3, n - j = n3 := ⟨_, rfl⟩
      obtain ⟨c3, hc3⟩ : ∃ c3, cap - j = c3 := ⟨_, rfl⟩
      have HCP : Hid (n ≤ cap) := Lib.hid (by have := (HC.out _ (Below.refl _ _)).2.2.cap; rw [HN.out]; exact this)
      have HV1 : Hid (∀ u, Below W.heap.size W u → kVr.V u a1 (VL.take j)) := Lib.hid (fun u hu => by rw [← ha1]; exact ((HC.out u hu).2.2.toV).take j cap)
      have HV3 : Hid (∀ u, Below W.heap.size W u → kVr.V u a3 (VL.drop j)) := Lib.hid (fun u hu => by rw [← ha3]; exact ((HC.out u hu).2.2.toV).drop (by rw [← HN.out]; exact HCP.out))
      have HNN1 : Hid (a1 = none → cap = 0) := Lib.hid (fun e => RowK.pfx_none (k := kVr) (a := (va : Option Addr)) (fun (ea : (va : Option Addr) = none) => by first | (cases ea; done) | (have := (HC.out _ (Below.refl _ _)).2.2; rw [ea] at this; exact this.noneCap)) (ha1.trans e))
      have HNN3 : Hid (a3 = none → c3 = 0) := Lib.hid (fun e => by rw [← hc3]; exact RowK.sfx_none (k := kVr) (a := (va : Option Addr)) (fun (ea : (va : Option Addr) = none) => by first | (cases ea; done) | (have := (HC.out _ (Below.refl _ _)).2.2; rw [ea] at this; exact this.noneCap)) (ha3.trans e))
      have HL1 : Hid ((VL.take j).length = j) := Lib.hid (by rw [List.length_take]; have := HN.out; omega)
      have HL3 : Hid ((VL.drop j).length = n3) := Lib.hid (by rw [List.length_drop, ← HN.out]; exact hn3)
      have HA1 := Lib.hid ha1
      have HA3 := Lib.hid ha3
      have HN3 := Lib.hid hn3
      have HC3 := Lib.hid hc3
      have hjc : j ≤ cap := Nat.le_trans hj HCP.out
      clear ha1 ha3 hn3 hc3
      obtain ⟨q0, q1, _⟩ := HC.out _ HBU.out
      have l0 := cell_of_blk q0 0
      simp at l0
      clear q0 q1
      go_upto_region 12 with (first | (refine RowK.wpList_pfx (k := kVr) (o := ⟨some 57, _, _, _, _, _⟩) rfl (.tmp 55) (.tmp 56) rfl _ n cap j rfl rfl hjc HA1.out ?_) | (at_builtin; refine RowK.wpList_app (k := kVr) (B := W.heap.size) (v := .slice none 0 0) (l := []) rfl (.tmp 51) (.tmp 57) rfl rfl (RowK.Own.nil kVr _ _) a1 j (VL.take j) cap rfl HL1.out (HV1.out _ HBU.out) HNN1.out (by have := HNM.out; rw [HL1.out]; simp; omega) HBU.out.size ?_; rintro v1 u1 g1; have G1 := Lib.hid g1; clear g1))
      clear l0
      obtain ⟨av1, cv1, hv1⟩ := G1.out.1.shape
      rw [List.nil_append, HL1.out] at hv1
      subst hv1
      have HB1 := Lib.hid (below_then HBU.out (below_nilR G1.out.2.1))
      have HO1 : Hid (kVr.Own u1 W.heap.size (.slice av1 j cv1) (VL.take j)) := Lib.hid G1.out.1
      clear G1
      obtain ⟨q0, q1, _⟩ := HC.out _ HB1.out
      have k0 := cell_of_blk q1 0
      have k1 := cell_of_blk q1 1
      have k2 := cell_of_blk q1 2
      simp at k0 k1 k2
      clear q0 q1
      have HXV : Hid (kVr.V (u1.alloc (.cells #[.int .i64 v.id, .string v.label, .slice a2 n2 c2] 28)) (some ⟨u1.heap.size, 0, none⟩) [(⟨v, a2, c2⟩ : Vr)]) := Lib.hid (fun _ => ⟨_, 0, rfl, RowK.new_at (k := kVr) (heap_new u1 _) (by simp [RowK.cells, kVr, Vr.enc, HN2.out])⟩)
      have HO2 := Lib.hid (HO1.out.alloc (.cells #[.int .i64 v.id, .string v.label, .slice a2 n2 c2] 28))
      have HB2 := Lib.hid (below_then HB1.out (below_box u1 (.cells #[.int .i64 v.id, .string v.label, .slice a2 n2 c2] 28)))
      go_upto_region 13 with ((at_builtin; refine RowK.wpList_app (k := kVr) (B := W.heap.size) (v := .slice av1 j cv1) (l := VL.take j) rfl (.tmp 59) (.tmp 61) rfl rfl HO2.out (some ⟨u1.heap.size, 0, none⟩) 1 [(⟨v, a2, c2⟩ : Vr)] 1 rfl rfl HXV.out (fun e => by cases e) (by have := HNM.out; rw [HL1.out]; simp; omega) HB2.out.size ?_; rintro v2 u2 g2; have G2 := Lib.hid g2; clear g2))
      clear k0 k1 k2
      have HB3 : Hid (Below W.heap.size W u2) := Lib.hid (HB2.out.trans (below_grownR HO2.out G2.out.2.1 HB2.out.size))
      obtain ⟨av2, cv2, hv2⟩ := G2.out.1.shape
      subst hv2
      obtain ⟨m2, hm2⟩ : ∃ m2, m2 = (VL.take j ++ [(⟨v, a2, c2⟩ : Vr)]).length := ⟨_, rfl⟩
      rw [← hm2]
      have HO3 : Hid (kVr.Own u2 W.heap.size (.slice av2 m2 cv2) (VL.take j ++ [(⟨v, a2, c2⟩ : Vr)])) := Lib.hid (by rw [hm2]; exact G2.out.1)
      have HM2 := Lib.hid hm2
      clear hm2 G2
      obtain ⟨q0, _, _⟩ := HC.out _ HB3.out
      have l0 := cell_of_blk q0 0
      simp at l0
      clear q0
      go_wp2_with (first | (refine RowK.wpList_sfx (k := kVr) (o := ⟨some 70, _, _, _, _, _⟩) rfl (.tmp 68) (.tmp 69) rfl _ n cap j rfl rfl hj HA3.out HN3.out HC3.out ?_) | (at_builtin; refine RowK.wpList_app (k := kVr) (B := W.heap.size) (v := .slice av2 m2 cv2) (l := VL.take j ++ [(⟨v, a2, c2⟩ : Vr)]) rfl (.tmp 64) (.tmp 70) rfl rfl HO3.out a3 n3 (VL.drop j) c3 rfl HL3.out (HV3.out _ HB3.out) HNN3.out (by have := HNM.out; have := HL1.out; have := HL3.out; have := HN3.out; simp only [List.length_append, List.length_cons, List.length_nil]; omega) HB3.out.size ?_; rintro v3 u3 g3; obtain ⟨av3, cv3, hv3⟩ := g3.1.shape; obtain ⟨n9, hn9⟩ : ∃ n9, n9 = (VL.take j ++ [(⟨v, a2, c2⟩ : Vr)] ++ VL.drop j).length := ⟨_, rfl⟩; rw [← hn9] at hv3; subst hv3; have HN9 := Lib.hid hn9; have G3 := Lib.hid g3; clear g3 hn9; have HB4 : Hid (Below W.heap.size W u3) := Lib.hid (HB3.out.trans (below_grownR HO3.out G3.out.2.1 HB3.out.size)); have y0 := cell_of_blk (HC.out _ HB4.out).1 0; have f0 := frozen_of_blk (HC.out _ HB4.out).1 0; have z0 : rb < u3.heap.size := (Array.getElem?_eq_some_iff.1 (HC.out _ HB4.out).1).1; simp at y0))
      clear l0 y0 f0
      go_ret
      have hO := G3.out.1
      have hq : u3.setCell ⟨rb, 0, none⟩ (.slice av3 n9 cv3) = u3.setCell ⟨rb, 0, none⟩ (.slice av3 (VL.take j ++ [(⟨v, a2, c2⟩ : Vr)] ++ VL.drop j).length cv3) := by rw [← HN9.out]
      rw [hq]
      rw [HN9.out] at hO
      refine ⟨HADD.out.1, ⟨_, _, HRW.out.layV HB4.out HBW9.out hO (fun x hx => ?_), ?_⟩, ?_, ?_⟩
      · rcases List.mem_append.1 hx with hx | hx
        · rcases List.mem_append.1 hx with hx | hx
          · exact .inl (List.mem_of_mem_take hx)
          · obtain rfl : x = (⟨v, a2, c2⟩ : Vr) := by simpa using hx
            exact .inr (HPB.out.below HB4.out)
        · exact .inl (List.mem_of_mem_drop hx)
      · rw [HADD.out.2]
        exact ⟨map_ins (key := Vt.id) (f := Vr.v) (x := (⟨v, a2, c2⟩ : Vr)) HV.out HLT.out (fun y hy => Int.not_lt.2 (HGE.out y hy)), HE.out.symm⟩
      · rw [← hq]
        exact (HCW.out.trans (Chg.of_below HB4.out (fun j => j = rb)) (fun _ _ h => h)).setCell (p := ⟨rb, 0, none⟩) (fun _ => rfl) _
      · exact RowsNew.lay (HBW2.out.trans (HB4.out.mono HBW2.out.size)) HG.out.size (fun q hq => Nat.le_trans HBW2.out.size (hO.lt q hq).1)

set_option maxRecDepth 100000 in
set_option maxHeartbeats 4000000 in
theorem r16addEN_any {w : World} {rb B : Nat} {VL : List Vr} {EL : List Er} (v : Eg) (a : Option Addr) (c : Nat) (h : RgL w rb B VL EL) (hB : B ≤ w.heap.size) (hp : PsA w a c v.ps) (hl : v.ps.length ≤ 100000) (hid : I64 v.id ∧ I64 v.fr ∧ I64 v.to) (hlab : v.label.size ≤ 2000000) (hvl : VL.length ≤ 500000) (hel : EL.length ≤ 500000) :
    Calls Tryz.prog 84 #[.pointer (some ⟨rb, 0, none⟩), v.val a c] w (RaePostN w rb B (VL.map Vr.v) (EL.map Er.e) v) := by
  obtain ⟨V, hV⟩ : ∃ V, V = VL.map Vr.v := ⟨_, rfl⟩
  obtain ⟨E, hE⟩ : ∃ E, E = EL.map Er.e := ⟨_, rfl⟩
  rw [← hV, ← hE]
  have HV := Lib.hid hV
  have HE := Lib.hid hE
  clear hV hE
  have HX0 := Lib.hid (heap_new w (.cells #[.int .i64 v.id, .string v.label, .int .i64 v.fr, .int .i64 v.to, .slice a v.ps.length c] 30))
  have HW0 := Lib.hid ((below_box w (.cells #[.int .i64 v.id, .string v.label, .int .i64 v.fr, .int .i64 v.to, .slice a v.ps.length c] 30)).alloc (by simp) (.cells #[.int .i64 v.id, .int .i64 v.fr, .int .i64 v.to] 3))
  have HIDS : Hid (IsV ((w.alloc (.cells #[.int .i64 v.id, .string v.label, .int .i64 v.fr, .int .i64 v.to, .slice a v.ps.length c] 30)).alloc (.cells #[.int .i64 v.id, .int .i64 v.fr, .int .i64 v.to] 3)) (some ⟨w.heap.size + 1, 0, none⟩) [v.id, v.fr, v.to]) := Lib.hid (ids_at (heap_new2 w _ _) (by simp [hid]))
  have HG := Lib.hid h
  have HPA := Lib.hid hp
  have HPL := Lib.hid hl
  have HID := Lib.hid hid
  have HVL := Lib.hid hvl
  have HEL := Lib.hid hel
  have HLB := Lib.hid hlab
  have HBZ := Lib.hid hB
  clear h hp hl hid hvl hel hlab hB
  unfold Eg.val
  go_enter Tryz.func84, Tryz.ntmps84
  go_wp2_with fail
  refine (r16check_any v.label a _ c 3 v.ps [v.id, v.fr, v.to] _ HLB.out (HPA.out.v.below HW0.out) HIDS.out HPL.out (by simp)).mono ?_
  rintro e w1 ⟨rfl, b1⟩
  have HB1 : Hid (w1.heap[w.heap.size]? = some (.cells #[.int .i64 v.id, .string v.label, .int .i64 v.fr, .int .i64 v.to, .slice a v.ps.length c] 30)) := Lib.hid ((b1.block _ (by simp; omega)).trans ((Below.heap_alloc _ _ _ (by simp)).trans HX0.out))
  have HBW : Hid (Below w.heap.size w w1) := Lib.hid (HW0.out.trans (b1.mono (by simp; omega)))
  replace HPA : Hid (PsA w1 a c v.ps) := Lib.hid (HPA.out.below HBW.out)
  have HG1 : Hid (RgL w1 rb B VL EL) := Lib.hid (HG.out.below HBW.out)
  have HKB : Hid (w.heap.size < w1.heap.size ∧ B ≤ w.heap.size) := Lib.hid ⟨(Array.getElem?_eq_some_iff.1 HB1.out).1, HBZ.out⟩
  clear b1 HIDS HX0 HW0
  by_cases hck : checkR v.label v.ps [v.id, v.fr, v.to] = 0
  case neg =>
    have HCK := Lib.hid hck
    have t1 : (checkR v.label v.ps [v.id, v.fr, v.to] != 0) = true := by simp [hck]
    clear hck
    go_wp2_with fail
    go_ret
    unfold RaePostN addE
    rw [if_neg HCK.out]
    exact ⟨rfl, ⟨VL, EL, HG1.out, HV.out.symm, HE.out.symm⟩, Chg.of_below HBW.out _, RowsNew.of_below HBW.out HG.out.size⟩
  case pos =>
  rw [hck]
  have HCK := Lib.hid hck
  clear hck
  have k0 := cell_of_blk HB1.out 0
  have k2 := cell_of_blk HB1.out 2
  have k3 := cell_of_blk HB1.out 3

  simp at k0 k2 k3
  have hz1 := HKB.out.1
  go_wp2_with fail
  refine (r16E_any HG1.out (by have := HEL.out; omega) v.id).mono ?_
  rintro e w2 ⟨rfl, r, rfl, hr⟩
  rcases hr with ⟨rfl, hno⟩ | ⟨i, x, rfl, hx, hk⟩
  rotate_left
  · have HA : Hid (addE V E v = (31, E)) := Lib.hid (by
      have hf : (findB Eg.id E v.id).isSome = true := find_some_of (x := x.e) (by rw [HE.out]; exact List.mem_map.2 ⟨x, List.mem_of_getElem? hx, rfl⟩) hk
      unfold addE
      rw [if_pos HCK.out, if_pos hf])
    clear hx hk
    have t1 : decide ((0 : Int) ≤ (i : Int)) = true := by simp
    go_wp2_with fail
    go_ret
    unfold RaePostN
    rw [HA.out]
    exact ⟨rfl, ⟨VL, EL, HG1.out, HV.out.symm, HE.out.symm⟩, Chg.of_below HBW.out _, RowsNew.of_below HBW.out HG.out.size⟩
  have HFE : Hid (findB Eg.id E v.id = none) := Lib.hid (findB_none.2 (fun y hy => by
    rw [HE.out] at hy
    obtain ⟨x, hx, rfl⟩ := List.mem_map.1 hy
    exact hno x hx))
  have hno2 := Lib.hid hno
  clear hno
  go_wp2_with fail
  refine (r16V_any HG1.out (by have := HVL.out; omega) v.fr).mono ?_
  rintro e w2 ⟨rfl, r, rfl, hr⟩
  rcases hr with ⟨rfl, hnf⟩ | ⟨i, x, rfl, hx, hk⟩
  · have hv := (findB_none.2 (fun y hy => by rw [HV.out] at hy; obtain ⟨x, hx, rfl⟩ := List.mem_map.1 hy; exact hnf x hx) : findB Vt.id V v.fr = none)
    have HFV := Lib.hid hv
    clear hv
    have HA : Hid (addE V E v = (101, E)) := Lib.hid (by
      unfold addE
      rw [if_pos HCK.out, HFE.out]
      simp only [Option.isSome_none, Bool.false_eq_true, if_false]
      rw [if_pos (by rw [HFV.out]; simp)])
    clear hnf
    go_wp2_with fail
    go_ret
    unfold RaePostN
    rw [HA.out]
    exact ⟨rfl, ⟨VL, EL, HG1.out, HV.out.symm, HE.out.symm⟩, Chg.of_below HBW.out _, RowsNew.of_below HBW.out HG.out.size⟩
  have HF1 : Hid ((findB Vt.id V v.fr).isSome = true) := Lib.hid (find_some_of (x := x.v) (by rw [HV.out]; exact List.mem_map.2 ⟨x, List.mem_of_getElem? hx, rfl⟩) hk)
  clear hx hk
  have t1 : decide ((i : Int) < 0) = false := by simp
  go_wp2_with fail
  refine (r16V_any HG1.out (by have := HVL.out; omega) v.to).mono ?_
  rintro e w2 ⟨rfl, r, rfl, hr⟩
  rcases hr with ⟨rfl, hnf⟩ | ⟨i2, x2, rfl, hx, hk⟩
  · have hv := (findB_none.2 (fun y hy => by rw [HV.out] at hy; obtain ⟨x, hx, rfl⟩ := List.mem_map.1 hy; exact hnf x hx) : findB Vt.id V v.to = none)
    have HFV := Lib.hid hv
    clear hv
    have HA : Hid (addE V E v = (101, E)) := Lib.hid (by
      unfold addE
      rw [if_pos HCK.out, HFE.out]
      simp only [Option.isSome_none, Bool.false_eq_true, if_false]
      rw [if_pos (by rw [HFV.out]; simp)])
    clear hnf
    go_wp2_with fail
    go_ret
    unfold RaePostN
    rw [HA.out]
    exact ⟨rfl, ⟨VL, EL, HG1.out, HV.out.symm, HE.out.symm⟩, Chg.of_below HBW.out _, RowsNew.of_below HBW.out HG.out.size⟩
  have HF2 : Hid ((findB Vt.id V v.to).isSome = true) := Lib.hid (find_some_of (x := x2.v) (by rw [HV.out]; exact List.mem_map.2 ⟨x2, List.mem_of_getElem? hx, rfl⟩) hk)
  clear hx hk
  have t2 : decide ((i2 : Int) < 0) = false := by simp
  have hno := hno2.out
  have HF : Hid (∀ x ∈ EL, x.e.id ≠ v.id) := Lib.hid hno
  have HADD : Hid ((Ending.returned (.int .i64 0)) = .returned (.int .i64 (addE V E v).1) ∧ (addE V E v).2 = insB Eg.id v E) := Lib.hid (by
    unfold addE
    rw [if_pos HCK.out, HFE.out]
    simp only [Option.isSome_none, Bool.false_eq_true, if_false]
    rw [if_neg (by simp only [Bool.or_eq_true, not_or, Option.isNone_iff_eq_none]; exact ⟨(fun e => by have := HF1.out; rw [e] at this; cases this), (fun e => by have := HF2.out; rw [e] at this; cases this)⟩)]
    exact ⟨rfl, rfl⟩)
  clear hno
  have HE0 : Hid (kP.Own (w1.alloc (.cells #[] 137)) w1.heap.size (.slice (some ⟨w1.heap.size, 0, none⟩) 0 0) []) := Lib.hid (RowK.Own.new (k := kP) (l := []) (heap_new w1 (.cells #[] 137)) (Nat.le_refl _) rfl (Nat.zero_le _))
  have HPV : Hid (kP.V (w1.alloc (.cells #[] 137)) a v.ps) := Lib.hid ((HPA.out.below (below_box w1 _)).v.kP)
  have HPN : Hid (a = none → c = 0) := Lib.hid (fun e => (HPA.out.nil e).1)
  have HPL' : Hid (([] : List Pr).length + v.ps.length ≤ 4000000) := Lib.hid (by have := HPL.out; simp; omega)
  have p0 := cell_of_blk ((Below.heap_alloc w1 (.cells #[] 137) w.heap.size hz1).trans HB1.out) 4
  simp at p0
  go_upto_region 9 with (first | (at_builtin; refine RowK.wpList_app (k := kP) (B := w1.heap.size) (v := .slice (some ⟨w1.heap.size, 0, none⟩) 0 0) (l := []) rfl (.tmp 40) (.tmp 42) rfl rfl HE0.out a v.ps.length v.ps c rfl rfl HPV.out HPN.out HPL'.out (by simp) ?_; rintro v8 u8 g8; obtain ⟨a2, c2, hv8⟩ := g8.1.shape; rw [List.nil_append] at hv8 g8; subst hv8; have G8 := Lib.hid g8; clear g8; have HB8 : Hid (Below w1.heap.size w1 u8) := Lib.hid ((below_box w1 _).trans (below_grownR HE0.out G8.out.2.1 (by simp))); have y0 := cell_of_blk ((HB8.out.block _ HKB.out.1).trans HB1.out) 4; have f0 := frozen_of_blk ((HB8.out.block _ HKB.out.1).trans HB1.out) 4; have z0 : w.heap.size < u8.heap.size := Nat.lt_of_lt_of_le HKB.out.1 HB8.out.size; simp at y0) | fail)
  obtain ⟨n2, hn2⟩ : ∃ n2, n2 = v.ps.length := ⟨_, rfl⟩
  have HN2 := Lib.hid hn2
  rw [← hn2]
  obtain ⟨W, hW⟩ : ∃ W, W = u8.setCell ⟨w.heap.size, 4, none⟩ (.slice a2 n2 c2) := ⟨_, rfl⟩
  rw [← hW]
  have HWB : Hid (W.heap[w.heap.size]? = some (.cells #[.int .i64 v.id, .string v.label, .int .i64 v.fr, .int .i64 v.to, .slice a2 n2 c2] 30)) := Lib.hid (by rw [hW, blk_setCell ((HB8.out.block _ HKB.out.1).trans HB1.out)]; simp)
  have HZW : Hid (W.heap.size = u8.heap.size) := Lib.hid (by rw [hW]; simp)
  have HBW2 : Hid (Below w.heap.size w W) := Lib.hid (by rw [hW]; exact (HBW.out.trans (HB8.out.mono HBW.out.size)).setCell (Nat.le_refl _) _)
  have HRW : Hid (RgL W rb B VL EL) := Lib.hid (HG.out.below HBW2.out)
  have HCW : Hid (Chg w W (fun j => j = rb)) := Lib.hid (Chg.of_below HBW2.out _)
  have HBW9 : Hid (B ≤ W.heap.size) := Lib.hid (Nat.le_trans HBZ.out HBW2.out.size)
  have HPB : Hid (PsB W B a2 c2 v.ps) := Lib.hid (by
    have ho : kP.Own W w1.heap.size (.slice a2 v.ps.length c2) v.ps := by
      rw [hW]
      exact G8.out.1.chg (S := fun i => i = w.heap.size) ((Chg.refl u8 (fun i => i = w.heap.size)).setCell (p := ⟨w.heap.size, 4, none⟩) (fun _ => rfl) _) (fun j hj e => by have := (G8.out.1.lt j hj).1; have := HKB.out.1; omega)
    exact psB_own ho HPA.out.v.ok (Nat.le_trans HKB.out.2 (Nat.le_of_lt HKB.out.1)))
  obtain ⟨n, hn⟩ : ∃ n, n = EL.length := ⟨_, rfl⟩
  have HC0 : Hid (∃ va cap ea ec, (∀ u : World, Below W.heap.size W u → u.heap[rb]? = some (.cells #[.slice ea VL.length ec, .slice va n cap] 39 (0, 0)) ∧ u.heap[w.heap.size]? = some (.cells #[.int .i64 v.id, .string v.label, .int .i64 v.fr, .int .i64 v.to, .slice a2 n2 c2] 30 (0, 0)) ∧ kEr.Own u B (.slice va n cap) EL)) := Lib.hid (by
    obtain ⟨⟨va, vc, ea, ec, h1, h2, h3⟩, _, _, _⟩ := HRW.out
    rw [hn]
    exact ⟨ea, ec, va, vc, fun u hu => ⟨(hu.block _ (Array.getElem?_eq_some_iff.1 h1).1).trans h1, (hu.block _ (Array.getElem?_eq_some_iff.1 HWB.out).1).trans HWB.out, h3.below hu⟩⟩)
  have HN := Lib.hid hn
  have HNM : Hid (n ≤ 500000) := Lib.hid (by rw [hn]; exact HEL.out)
  clear hn2 hn hW p0
  obtain ⟨va, cap, ea, ec, hc⟩ := HC0.out
  have HC := Lib.hid hc
  clear hc HC0
  have HI0 : Hid (Below W.heap.size W W) := Lib.hid (Below.refl _ _)
  go_wp2_with fail
  go_loopw [6] (fun i wr => ∃ j : Nat, j ≤ n ∧ i = .int .i64 j ∧ Hid (∀ j' x, j' < j → EL[j']? = some x → x.e.id < v.id) ∧ Hid (Below W.heap.size W wr)) (fun i _ => n - (intOf i).toNat)
  case atStart => exact ⟨0, Nat.zero_le _, rfl, Lib.hid (fun _ _ h => absurd h (Nat.not_lt_zero _)), HI0⟩
  case round =>
    obtain ⟨j, hj, rfl, HLT, HBW⟩ := hrel
    have hnm := HNM.out
    obtain ⟨e1, e2, _⟩ := HC.out _ HBW.out
    have c0 := cell_of_blk e1 1
    have k0 := cell_of_blk e2 0
    simp at c0 k0
    have z1 : rb < wr.heap.size := (Array.getElem?_eq_some_iff.1 e1).1
    have z2 : w.heap.size < wr.heap.size := (Array.getElem?_eq_some_iff.1 e2).1
    clear e1 e2
    by_cases hlt : j < n
    · have hne : EL ≠ [] := fun e => by have := HN.out; rw [e] at this; simp at this; omega
      obtain ⟨b, cp, hbe, _, _, hat⟩ := (HC.out _ HBW.out).2.2.at' hne
      injection hbe with e1 e2 e3
      subst e1
      clear e2 e3
      obtain ⟨x, hx⟩ : ∃ x, EL[j]? = some x := ⟨_, List.getElem?_eq_getElem (by have := HN.out; omega)⟩
      have x0 := hat.cells j x hx 0 _ rfl
      simp [kEr] at x0
      have hbl := hat.lt
      have HX := Lib.hid hx
      clear hat hx hne
      by_cases he : x.e.id < v.id
      · have HE := Lib.hid he
        have t3 : decide (x.e.id < v.id) = true := decide_eq_true he
        go_wp2_with fail
        go_quiet (fail)
        go_wp2_with fail
        refine ⟨⟨j + 1, hlt, by simp, Lib.hid (fun j' y hj' hy => ?_), Lib.hid (below_drewN HBW.out _)⟩, by simp [intOf]; omega⟩
        by_cases e : j' < j
        · exact HLT.out j' y e hy
        · obtain rfl : j' = j := by omega
          rw [HX.out] at hy
          injection hy with hy
          subst hy
          exact HE.out
      · have HGE : Hid (∀ y, EL[j]? = some y → ¬ y.e.id < v.id) := Lib.hid (fun y hy => by rw [HX.out] at hy; injection hy with hy; subst hy; exact he)
        have t3 : decide (x.e.id < v.id) = false := decide_eq_false he
        clear he
        go_wp2_with fail
        go_quiet (fail)
        go_upto_region 13 with fail
        clear t3 x0 k0
        clear c0
        have HBU : Hid (Below W.heap.size W (wr.drewN nq)) := Lib.hid (below_drewN HBW.out _)
        obtain ⟨a1, ha1⟩ : ∃ a1, kEr.pfx ((some ⟨b, 0, none⟩) : Option Addr) cap = a1 := ⟨_, rfl⟩
        obtain ⟨a3, ha3⟩ : ∃ a3, kEr.sfx ((some ⟨b, 0, none⟩) : Option Addr) cap j = a3 := ⟨_, rfl⟩
        obtain ⟨n3, hn3⟩ : ∃ n3, n - j = n3 := ⟨_, rfl⟩
        obtain ⟨c3, hc3⟩ : ∃ c3, cap - j = c3 := ⟨_, rfl⟩
        have HCP : Hid (n ≤ cap) := Lib.hid (by have := (HC.out _ (Below.refl _ _)).2.2.cap; rw [HN.out]; exact this)
        have HV1 : Hid (∀ u, Below W.heap.size W u → kEr.V u a1 (EL.take j)) := Lib.hid (fun u hu => by rw [← ha1]; exact ((HC.out u hu).2.2.toV).take j cap)
        have HV3 : Hid (∀ u, Below W.heap.size W u → kEr.V u a3 (EL.drop j)) := Lib.hid (fun u hu => by rw [← ha3]; exact ((HC.out u hu).2.2.toV).drop (by rw [← HN.out]; exact HCP.out))
        have HNN1 : Hid (a1 = none → cap = 0) := Lib.hid (fun e => RowK.pfx_none (k := kEr) (a := ((some ⟨b, 0, none⟩) : Option Addr)) (fun (ea : ((some ⟨b, 0, none⟩) : Option Addr) = none) => by first | (cases ea; done) | (have := (HC.out _ (Below.refl _ _)).2.2; rw [ea] at this; exact this.noneCap)) (ha1.trans e))
        have HNN3 : Hid (a3 = none → c3 = 0) := Lib.hid (fun e => by rw [← hc3]; exact RowK.sfx_none (k := kEr) (a := ((some ⟨b, 0, none⟩) : Option Addr)) (fun (ea : ((some ⟨b, 0, none⟩) : Option Addr) = none) => by first | (cases ea; done) | (have := (HC.out _ (Below.refl _ _)).2.2; rw [ea] at this; exact this.noneCap)) (ha3.trans e))
        have HL1 : Hid ((EL.take j).length = j) := Lib.hid (by rw [List.length_take]; have := HN.out; omega)
        have HL3 : Hid ((EL.drop j).length = n3) := Lib.hid (by rw [List.length_drop, ← HN.out]; exact hn3)
        have HA1 := Lib.hid ha1
        have HA3 := Lib.hid ha3
        have HN3 := Lib.hid hn3
        have HC3 := Lib.hid hc3
        have hjc : j ≤ cap := Nat.le_trans hj HCP.out
        clear ha1 ha3 hn3 hc3
        obtain ⟨q0, q1, _⟩ := HC.out _ HBU.out
        have l0 := cell_of_blk q0 1
        simp at l0
        clear q0 q1
        go_upto_region 14 with (first | (refine RowK.wpList_pfx (k := kEr) (o := ⟨some 73, _, _, _, _, _⟩) rfl (.tmp 71) (.tmp 72) rfl _ n cap j rfl rfl hjc HA1.out ?_) | (at_builtin; refine RowK.wpList_app (k := kEr) (B := W.heap.size) (v := .slice none 0 0) (l := []) rfl (.tmp 67) (.tmp 73) rfl rfl (RowK.Own.nil kEr _ _) a1 j (EL.take j) cap rfl HL1.out (HV1.out _ HBU.out) HNN1.out (by have := HNM.out; rw [HL1.out]; simp; omega) HBU.out.size ?_; rintro v1 u1 g1; have G1 := Lib.hid g1; clear g1))
        clear l0
        obtain ⟨av1, cv1, hv1⟩ := G1.out.1.shape
        rw [List.nil_append, HL1.out] at hv1
        subst hv1
        have HB1 := Lib.hid (below_then HBU.out (below_nilR G1.out.2.1))
        have HO1 : Hid (kEr.Own u1 W.heap.size (.slice av1 j cv1) (EL.take j)) := Lib.hid G1.out.1
        clear G1
        obtain ⟨q0, q1, _⟩ := HC.out _ HB1.out
        have k0 := cell_of_blk q1 0
        have k1 := cell_of_blk q1 1
        have k2 := cell_of_blk q1 2
        have k3 := cell_of_blk q1 3
        have k4 := cell_of_blk q1 4
        simp at k0 k1 k2 k3 k4
        clear q0 q1
        have HXV : Hid (kEr.V (u1.alloc (.cells #[.int .i64 v.id, .string v.label, .int .i64 v.fr, .int .i64 v.to, .slice a2 n2 c2] 30)) (some ⟨u1.heap.size, 0, none⟩) [(⟨v, a2, c2⟩ : Er)]) := Lib.hid (fun _ => ⟨_, 0, rfl, RowK.new_at (k := kEr) (heap_new u1 _) (by simp [RowK.cells, kEr, Er.enc, HN2.out])⟩)
        have HO2 := Lib.hid (HO1.out.alloc (.cells #[.int .i64 v.id, .string v.label, .int .i64 v.fr, .int .i64 v.to, .slice a2 n2 c2] 30))
        have HB2 := Lib.hid (below_then HB1.out (below_box u1 (.cells #[.int .i64 v.id, .string v.label, .int .i64 v.fr, .int .i64 v.to, .slice a2 n2 c2] 30)))
        go_upto_region 15 with ((at_builtin; refine RowK.wpList_app (k := kEr) (B := W.heap.size) (v := .slice av1 j cv1) (l := EL.take j) rfl (.tmp 75) (.tmp 77) rfl rfl HO2.out (some ⟨u1.heap.size, 0, none⟩) 1 [(⟨v, a2, c2⟩ : Er)] 1 rfl rfl HXV.out (fun e => by cases e) (by have := HNM.out; rw [HL1.out]; simp; omega) HB2.out.size ?_; rintro v2 u2 g2; have G2 := Lib.hid g2; clear g2))
        clear k0 k1 k2 k3 k4
        have HB3 : Hid (Below W.heap.size W u2) := Lib.hid (HB2.out.trans (below_grownR HO2.out G2.out.2.1 HB2.out.size))
        obtain ⟨av2, cv2, hv2⟩ := G2.out.1.shape
        subst hv2
        obtain ⟨m2, hm2⟩ : ∃ m2, m2 = (EL.take j ++ [(⟨v, a2, c2⟩ : Er)]).length := ⟨_, rfl⟩
        rw [← hm2]
        have HO3 : Hid (kEr.Own u2 W.heap.size (.slice av2 m2 cv2) (EL.take j ++ [(⟨v, a2, c2⟩ : Er)])) := Lib.hid (by rw [hm2]; exact G2.out.1)
        have HM2 := Lib.hid hm2
        clear hm2 G2
        obtain ⟨q0, _, _⟩ := HC.out _ HB3.out
        have l0 := cell_of_blk q0 1
        simp at l0
        clear q0
        go_wp2_with (first | (refine RowK.wpList_sfx (k := kEr) (o := ⟨some 86, _, _, _, _, _⟩) rfl (.tmp 84) (.tmp 85) rfl _ n cap j rfl rfl hj HA3.out HN3.out HC3.out ?_) | (at_builtin; refine RowK.wpList_app (k := kEr) (B := W.heap.size) (v := .slice av2 m2 cv2) (l := EL.take j ++ [(⟨v, a2, c2⟩ : Er)]) rfl (.tmp 80) (.tmp 86) rfl rfl HO3.out a3 n3 (EL.drop j) c3 rfl HL3.out (HV3.out _ HB3.out) HNN3.out (by have := HNM.out; have := HL1.out; have := HL3.out; have := HN3.out; simp only [List.length_append, List.length_cons, List.length_nil]; omega) HB3.out.size ?_; rintro v3 u3 g3; obtain ⟨av3, cv3, hv3⟩ := g3.1.shape; obtain ⟨n9, hn9⟩ : ∃ n9, n9 = (EL.take j ++ [(⟨v, a2, c2⟩ : Er)] ++ EL.drop j).length := ⟨_, rfl⟩; rw [← hn9] at hv3; subst hv3; have HN9 := Lib.hid hn9; have G3 := Lib.hid g3; clear g3 hn9; have HB4 : Hid (Below W.heap.size W u3) := Lib.hid (HB3.out.trans (below_grownR HO3.out G3.out.2.1 HB3.out.size)); have y0 := cell_of_blk (HC.out _ HB4.out).1 1; have f0 := frozen_of_blk (HC.out _ HB4.out).1 1; have z0 : rb < u3.heap.size := (Array.getElem?_eq_some_iff.1 (HC.out _ HB4.out).1).1; simp at y0))
        clear l0 y0 f0
        go_ret
        have hO := G3.out.1
        have hq : u3.setCell ⟨rb, 1, none⟩ (.slice av3 n9 cv3) = u3.setCell ⟨rb, 1, none⟩ (.slice av3 (EL.take j ++ [(⟨v, a2, c2⟩ : Er)] ++ EL.drop j).length cv3) := by rw [← HN9.out]
        rw [hq]
        rw [HN9.out] at hO
        refine ⟨HADD.out.1, ⟨_, _, HRW.out.layE HB4.out HBW9.out hO (fun x hx => ?_), ?_⟩, ?_, ?_⟩
        · rcases List.mem_append.1 hx with hx | hx
          · rcases List.mem_append.1 hx with hx | hx
            · exact .inl (List.mem_of_mem_take hx)
            · obtain rfl : x = (⟨v, a2, c2⟩ : Er) := by simpa using hx
              exact .inr (HPB.out.below HB4.out)
          · exact .inl (List.mem_of_mem_drop hx)
        · rw [HADD.out.2]
          exact ⟨HV.out.symm, map_ins (key := Eg.id) (f := Er.e) (x := (⟨v, a2, c2⟩ : Er)) HE.out HLT.out (fun y hy => Int.not_lt.2 (HGE.out y hy))⟩
        · rw [← hq]
          exact (HCW.out.trans (Chg.of_below HB4.out (fun j => j = rb)) (fun _ _ h => h)).setCell (p := ⟨rb, 1, none⟩) (fun _ => rfl) _
        · exact RowsNew.lay (HBW2.out.trans (HB4.out.mono HBW2.out.size)) HG.out.size (fun q hq => Nat.le_trans HBW2.out.size (hO.lt q hq).1)
    · have tj : decide ((j : Int) < (n : Int)) = false := decide_eq_false (by omega)
      have HGE : Hid (∀ y, EL[j]? = some y → ¬ y.e.id < v.id) := Lib.hid (fun y hy => by have := (List.getElem?_eq_some_iff.1 hy).1; have := HN.out; omega)
      go_wp2_with fail
      go_quiet (fail)
      go_upto_region 13 with fail
      clear k0 tj
      clear c0
      have HBU : Hid (Below W.heap.size W (wr.drewN nq)) := Lib.hid (below_drewN HBW.out _)
      obtain ⟨a1, ha1⟩ : ∃ a1, kEr.pfx (va : Option Addr) cap = a1 := ⟨_, rfl⟩
      obtain ⟨a3, ha3⟩ : ∃ a3, kEr.sfx (va : Option Addr) cap j = a3 := ⟨_, rfl⟩
      obtain ⟨n3, hn3⟩ : ∃ n3, n - j = n3 := ⟨_, rfl⟩
      obtain ⟨c3, hc3⟩ : ∃ c3, cap - j = c3 := ⟨_, rfl⟩
      have HCP : Hid (n ≤ cap) := Lib.hid (by have := (HC.out _ (Below.refl _ _)).2.2.cap; rw [HN.out]; exact this)
      have HV1 : Hid (∀ u, Below W.heap.size W u → kEr.V u a1 (EL.take j)) := Lib.hid (fun u hu => by rw [← ha1]; exact ((HC.out u hu).2.2.toV).take j cap)
      have HV3 : Hid (∀ u, Below W.heap.size W u → kEr.V u a3 (EL.drop j)) := Lib.hid (fun u hu => by rw [← ha3]; exact ((HC.out u hu).2.2.toV).drop (by rw [← HN.out]; exact HCP.out))
      have HNN1 : Hid (a1 = none → cap = 0) := Lib.hid (fun e => RowK.pfx_none (k := kEr) (a := (va : Option Addr)) (fun (ea : (va : Option Addr) = none) => by first | (cases ea; done) | (have := (HC.out _ (Below.refl _ _)).2.2; rw [ea] at this; exact this.noneCap)) (ha1.trans e))
      have HNN3 : Hid (a3 = none → c3 = 0) := Lib.hid (fun e => by rw [← hc3]; exact RowK.sfx_none (k := kEr) (a := (va : Option Addr)) (fun (ea : (va : Option Addr) = none) => by first | (cases ea; done) | (have := (HC.out _ (Below.refl _ _)).2.2; rw [ea] at this; exact this.noneCap)) (ha3.trans e))
      have HL1 : Hid ((EL.take j).length = j) := Lib.hid (by rw [List.length_take]; have := HN.out; omega)
      have HL3 : Hid ((EL.drop j).length = n3) := Lib.hid (by rw [List.length_drop, ← HN.out]; exact hn3)
      have HA1 := Lib.hid ha1
      have HA3 := Lib.hid ha3
      have HN3 := Lib.hid hn3
      have HC3 := Lib.hid hc3
      have hjc : j ≤ cap := Nat.le_trans hj HCP.out
      clear ha1 ha3 hn3 hc3
      obtain ⟨q0, q1, _⟩ := HC.out _ HBU.out
      have l0 := cell_of_blk q0 1
      simp at l0
      clear q0 q1
      go_upto_region 14 with (first | (refine RowK.wpList_pfx (k := kEr) (o := ⟨some 73, _, _, _, _, _⟩) rfl (.tmp 71) (.tmp 72) rfl _ n cap j rfl rfl hjc HA1.out ?_) | (at_builtin; refine RowK.wpList_app (k := kEr) (B := W.heap.size) (v := .slice none 0 0) (l := []) rfl (.tmp 67) (.tmp 73) rfl rfl (RowK.Own.nil kEr _ _) a1 j (EL.take j) cap rfl HL1.out (HV1.out _ HBU.out) HNN1.out (by have := HNM.out; rw [HL1.out]; simp; omega) HBU.out.size ?_; rintro v1 u1 g1; have G1 := Lib.hid g1; clear g1))
      clear l0
      obtain ⟨av1, cv1, hv1⟩ := G1.out.1.shape
      rw [List.nil_append, HL1.out] at hv1
      subst hv1
      have HB1 := Lib.hid (below_then HBU.out (below_nilR G1.out.2.1))
      have HO1 : Hid (kEr.Own u1 W.heap.size (.slice av1 j cv1) (EL.take j)) := Lib.hid G1.out.1
      clear G1
      obtain ⟨q0, q1, _⟩ := HC.out _ HB1.out
      have k0 := cell_of_blk q1 0
      have k1 := cell_of_blk q1 1
      have k2 := cell_of_blk q1 2
      have k3 := cell_of_blk q1 3
      have k4 := cell_of_blk q1 4
      simp at k0 k1 k2 k3 k4
      clear q0 q1
      have HXV : Hid (kEr.V (u1.alloc (.cells #[.int .i64 v.id, .string v.label, .int .i64 v.fr, .int .i64 v.to, .slice a2 n2 c2] 30)) (some ⟨u1.heap.size, 0, none⟩) [(⟨v, a2, c2⟩ : Er)]) := Lib.hid (fun _ => ⟨_, 0, rfl, RowK.new_at (k := kEr) (heap_new u1 _) (by simp [RowK.cells, kEr, Er.enc, HN2.out])⟩)
      have HO2 := Lib.hid (HO1.out.alloc (.cells #[.int .i64 v.id, .string v.label, .int .i64 v.fr, .int .i64 v.to, .slice a2 n2 c2] 30))
      have HB2 := Lib.hid (below_then HB1.out (below_box u1 (.cells #[.int .i64 v.id, .string v.label, .int .i64 v.fr, .int .i64 v.to, .slice a2 n2 c2] 30)))
      go_upto_region 15 with ((at_builtin; refine RowK.wpList_app (k := kEr) (B := W.heap.size) (v := .slice av1 j cv1) (l := EL.take j) rfl (.tmp 75) (.tmp 77) rfl rfl HO2.out (some ⟨u1.heap.size, 0, none⟩) 1 [(⟨v, a2, c2⟩ : Er)] 1 rfl rfl HXV.out (fun e => by cases e) (by have := HNM.out; rw [HL1.out]; simp; omega) HB2.out.size ?_; rintro v2 u2 g2; have G2 := Lib.hid g2; clear g2))
      clear k0 k1 k2 k3 k4
      have HB3 : Hid (Below W.heap.size W u2) := Lib.hid (HB2.out.trans (below_grownR HO2.out G2.out.2.1 HB2.out.size))
      obtain ⟨av2, cv2, hv2⟩ := G2.out.1.shape
      subst hv2
      obtain ⟨m2, hm2⟩ : ∃ m2, m2 = (EL.take j ++ [(⟨v, a2, c2⟩ : Er)]).length := ⟨_, rfl⟩
      rw [← hm2]
      have HO3 : Hid (kEr.Own u2 W.heap.size (.slice av2 m2 cv2) (EL.take j ++ [(⟨v, a2, c2⟩ : Er)])) := Lib.hid (by rw [hm2]; exact G2.out.1)
      have HM2 := Lib.hid hm2
      clear hm2 G2
      obtain ⟨q0, _, _⟩ := HC.out _ HB3.out
      have l0 := cell_of_blk q0 1
      simp at l0
      clear q0
      go_wp2_with (first | (refine RowK.wpList_sfx (k := kEr) (o := ⟨some 86, _, _, _, _, _⟩) rfl (.tmp 84) (.tmp 85) rfl _ n cap j rfl rfl hj HA3.out HN3.out HC3.out ?_) | (at_builtin; refine RowK.wpList_app (k := kEr) (B := W.heap.size) (v := .slice av2 m2 cv2) (l := EL.take j ++ [(⟨v, a2, c2⟩ : Er)]) rfl (.tmp 80) (.tmp 86) rfl rfl HO3.out a3 n3 (EL.drop j) c3 rfl HL3.out (HV3.out _ HB3.out) HNN3.out (by have := HNM.out; have := HL1.out; have := HL3.out; have := HN3.out; simp only [List.length_append, List.length_cons, List.length_nil]; omega) HB3.out.size ?_; rintro v3 u3 g3; obtain ⟨av3, cv3, hv3⟩ := g3.1.shape; obtain ⟨n9, hn9⟩ : ∃ n9, n9 = (EL.take j ++ [(⟨v, a2, c2⟩ : Er)] ++ EL.drop j).length := ⟨_, rfl⟩; rw [← hn9] at hv3; subst hv3; have HN9 := Lib.hid hn9; have G3 := Lib.hid g3; clear g3 hn9; have HB4 : Hid (Below W.heap.size W u3) := Lib.hid (HB3.out.trans (below_grownR HO3.out G3.out.2.1 HB3.out.size)); have y0 := cell_of_blk (HC.out _ HB4.out).1 1; have f0 := frozen_of_blk (HC.out _ HB4.out).1 1; have z0 : rb < u3.heap.size := (Array.getElem?_eq_some_iff.1 (HC.out _ HB4.out).1).1; simp at y0))
      clear l0 y0 f0
      go_ret
      have hO := G3.out.1
      have hq : u3.setCell ⟨rb, 1, none⟩ (.slice av3 n9 cv3) = u3.setCell ⟨rb, 1, none⟩ (.slice av3 (EL.take j ++ [(⟨v, a2, c2⟩ : Er)] ++ EL.drop j).length cv3) := by rw [← HN9.out]
      rw [hq]
      rw [HN9.out] at hO
      refine ⟨HADD.out.1, ⟨_, _, HRW.out.layE HB4.out HBW9.out hO (fun x hx => ?_), ?_⟩, ?_, ?_⟩
      · rcases List.mem_append.1 hx with hx | hx
        · rcases List.mem_append.1 hx with hx | hx
          · exact .inl (List.mem_of_mem_take hx)
          · obtain rfl : x = (⟨v, a2, c2⟩ : Er) := by simpa using hx
            exact .inr (HPB.out.below HB4.out)
        · exact .inl (List.mem_of_mem_drop hx)
      · rw [HADD.out.2]
        exact ⟨HV.out.symm, map_ins (key := Eg.id) (f := Er.e) (x := (⟨v, a2, c2⟩ : Er)) HE.out HLT.out (fun y hy => Int.not_lt.2 (HGE.out y hy))⟩
      · rw [← hq]
        exact (HCW.out.trans (Chg.of_below HB4.out (fun j => j = rb)) (fun _ _ h => h)).setCell (p := ⟨rb, 1, none⟩) (fun _ => rfl) _
      · exact RowsNew.lay (HBW2.out.trans (HB4.out.mono HBW2.out.size)) HG.out.size (fun q hq => Nat.le_trans HBW2.out.size (hO.lt q hq).1)

end Go.Proofs.YtonilojjahfboaaGreat
