/- graph.edges, Out, In. Conditions: each contract's own premises. -/
import Derived.Test.YtkbmipmegljidaaGreatWsP
import Derived.Test.YtkbmipmegljidaaGreatGr7
import Derived.Test.YtkbmipmegljidaaGreatWsA
import Derived.Maps.RangeWalk
namespace Go.Proofs.YtkbmipmegljidaaGreat
open Go.RowKit Go.Maps

/-- ids that have come, of edges of which something is so -/
def ColE (E : List Eg) (p : Eg → Bool) (left : Lit → Bool) (ks : List Int) : Prop := ks.Nodup ∧ (∀ k ∈ ks, I64 k) ∧ ∀ k, I64 k → (k ∈ ks ↔ ∃ x, findB Eg.id E k = some x ∧ p x = true ∧ left (.int .i64 k) = false)
theorem ColE.start {E : List Eg} {p : Eg → Bool} {left : Lit → Bool} (h : ∀ k, I64 k → left (.int .i64 k) = (findB Eg.id E k).isSome) : ColE E p left [] :=
  ⟨List.nodup_nil, fun k hk => (by cases hk), fun k hk => ⟨fun hk => (by cases hk), fun ⟨x, h1, _, h3⟩ => by
    rw [h k hk, h1] at h3
    cases h3⟩⟩
theorem sameI (k : Int) : (Lit.int .i64 k).sameKey (.int .i64 k) = true := by simp [Lit.sameKey]
theorem otherI {k x : Int} (e : k ≠ x) : (Lit.int .i64 k).sameKey (.int .i64 x) = false := by simp [Lit.sameKey, e]
theorem ColE.yes {E : List Eg} {p : Eg → Bool} {left : Lit → Bool} {ks : List Int} {k : Int} {x : Eg} (h : ColE E p left ks) (hk : I64 k) (hf : findB Eg.id E k = some x) (hl : left (.int .i64 k) = true) (hp : p x = true) : ColE E p (fun z => left z && !z.sameKey (.int .i64 k)) (ks ++ [k]) := by
  obtain ⟨h1, h2, h3⟩ := h
  refine ⟨List.nodup_append.2 ⟨h1, by simp, fun a ha b hb => ?_⟩, fun y hy => ?_, fun y hy => ?_⟩
  · obtain rfl : b = k := by simpa using hb
    intro e
    subst e
    obtain ⟨_, _, _, h4⟩ := (h3 a hk).1 ha
    rw [hl] at h4
    cases h4
  · rcases List.mem_append.1 hy with hy | hy
    · exact h2 y hy
    · obtain rfl : y = k := by simpa using hy
      exact hk
  · rw [List.mem_append, List.mem_singleton, h3 y hy]
    by_cases e : y = k
    · subst e
      simp [hf, hp, sameI]
    · simp [e, otherI e]
theorem ColE.no {E : List Eg} {p : Eg → Bool} {left : Lit → Bool} {ks : List Int} {k : Int} {x : Eg} (h : ColE E p left ks) (hf : findB Eg.id E k = some x) (hp : p x = false) : ColE E p (fun z => left z && !z.sameKey (.int .i64 k)) ks := by
  obtain ⟨h1, h2, h3⟩ := h
  refine ⟨h1, h2, fun y hy => ?_⟩
  rw [h3 y hy]
  by_cases e : y = k
  · subst e
    simp [hf, hp]
  · simp [otherI e]
/-- the ids of the edges of which something is so, by rising ids -/
def idsE (E : List Eg) (p : Eg → Bool) : List Int := (E.filter p).map Eg.id
theorem idsE_inc {E : List Eg} (h : SortB Eg.id E) (p : Eg → Bool) : IncI (idsE E p) := List.pairwise_map.2 (h.filter p)
theorem ColE.end {E : List Eg} {p : Eg → Bool} {left : Lit → Bool} {ks : List Int} (hs : SortB Eg.id E) (hi : ∀ e ∈ E, I64 e.id) (h : ColE E p left ks) (hl : ∀ kl, left kl = false) : sortI ks = idsE E p := by
  refine incI_uniq (sortI_inc h.1) (idsE_inc hs p) (fun k => ?_)
  rw [(sortI_perm ks).mem_iff]
  unfold idsE
  simp only [List.mem_map, List.mem_filter]
  constructor
  · intro hk
    obtain ⟨x, h1, h2, _⟩ := (h.2.2 k (h.2.1 k hk)).1 hk
    obtain ⟨h3, h4⟩ := findB_some h1
    exact ⟨x, ⟨h3, h2⟩, h4⟩
  · rintro ⟨x, ⟨h1, h2⟩, rfl⟩
    exact (h.2.2 x.id (hi x h1)).2 ⟨x, findB_mem hs h1, h2, hl _⟩
/-- what edges leaves -/
def EsPost (E : List Eg) (p : Eg → Bool) (w : World) (e : Ending) (w' : World) : Prop := ∃ v, e = .returned v ∧ kI.Own w' w.heap.size v (idsE E p) ∧ Below w.heap.size w w'
def outP (n : Int) (e : Eg) : Bool := e.fr == n
def inP (n : Int) (e : Eg) : Bool := e.to == n
theorem int_new (u : World) (n : Nat) (hn : u.heap.size = n) (x : Int) : kI.V (u.alloc (.cells #[.int .i64 x] 3)) (some ⟨n, 0, none⟩) [x] := by
  subst hn
  exact fun _ => ⟨_, 0, rfl, RowK.new_at (k := kI) (heap_new _ _) rfl⟩
theorem World.grownBy_of_below {a b : World} (h : Below a.heap.size a b) : a.grownBy b none := ⟨h.os, h.tape, h.output, h.size, fun i hi _ => h.block i hi⟩
set_option maxRecDepth 100000 in
set_option maxHeartbeats 400000 in
theorem out1_any (y : Eg) (a : Option Addr) (c wb : Nat) (n : Int) (w : World) (hw : w.cell? ⟨wb, 0, none⟩ = some (.int .i64 n)) (hl : wb < w.heap.size) :
    Calls Tryz.prog 71 #[y.val a c, .pointer (some ⟨wb, 0, none⟩)] w fun e w' => e = .returned (.bool (outP n y)) ∧ Below w.heap.size w w' := by
  have HB := Lib.hid (below_box w (.cells #[.int .i64 y.id, .string y.label, .int .i64 y.fr, .int .i64 y.to, .slice a y.ps.length c] 32))
  unfold Eg.val outP
  go_enter Tryz.func71, Tryz.ntmps71
  go_wp2
  go_ret
  exact ⟨rfl, HB.out⟩
set_option maxRecDepth 100000 in
set_option maxHeartbeats 2000000 in
theorem edgesOut_any (gb vb eb : Nat) (V : List Vt) (E : List Eg) (wb : Nat) (n : Int) (w : World) (h : GrC w gb vb eb V E) (hw : w.cell? ⟨wb, 0, none⟩ = some (.int .i64 n)) (hwl : wb < w.heap.size) (hn : E.length ≤ 1000000) :
    Calls Tryz.prog 70 #[.pointer (some ⟨gb, 0, none⟩), .func (.func 71) #[] #[.pointer (some ⟨wb, 0, none⟩)]] w (EsPost E (outP n) w) := by
  obtain ⟨g, hmap, hg⟩ := h.em
  obtain ⟨D0, hown, hsz, hhas, hat0⟩ := hmap.open'
  have c1 : w.cell? ⟨gb, 1, none⟩ = some (.map (some eb)) := by rw [cell_of_blk h.blk]; rfl
  have hls := h.lt
  have HG := Lib.hid hg
  have HA0 := Lib.hid hat0
  have HH := Lib.hid hhas
  have HGC := Lib.hid h
  have hlm := h.ltE
  clear hg hat0 hhas h
  go_enter Tryz.func70, Tryz.ntmps70
  go_wp2_with (first
    | (at_range; refine wpList_range_own _ rfl _ 78 rfl 3 32 lawI Tryz.underlying78 _ eb E.length _ rfl hown ?_; intro w0 hrg0 hg0 hs0)
    | go_in)
  go_frame
  go_loopw [5] (fun v wr => ∃ (left : Lit → Bool) (cnt : Nat) (ks : List Int), wr.ranges Tryz.prog 3 rawElem eb w.heap.size E.length D0 left cnt ∧ ks.length + cnt ≤ E.length ∧ ColE E (outP n) left ks ∧ kI.Own wr (w.heap.size + 1) v ks ∧ w.heap.size < wr.heap.size ∧ Below w.heap.size w wr)
    (fun _ wr => wr.rangeLeft eb w.heap.size)
  case atStart =>
    refine ⟨_, _, [], hrg0, by rw [hsz]; simp, ColE.start (fun k hk => ?_), RowK.Own.nil kI _ _, by omega, (Below.refl w.heap.size w).grown hg0 (Nat.le_refl _) (fun j hj => by cases hj)⟩
    rw [HH.out _ (lawI.key (keyI hk))]
    cases hf : findB Eg.id E k with
    | none => rw [HG.out.no k hk hf]; rfl
    | some y =>
      obtain ⟨h1, h2⟩ := findB_some hf
      obtain ⟨a, c, h3, _⟩ := HG.out.yes y h1
      rw [h2] at h3
      rw [h3]; rfl
  case round =>
    obtain ⟨left, cnt, ks, hrg, hcs, hC, hO, hwz, hB⟩ := hrel
    obtain ⟨a, cap, rfl⟩ := hO.shape
    have HCE := Lib.hid hC
    have HO := Lib.hid hO
    have HB := Lib.hid hB
    clear hC hO hB
    go_wp2_with (first
      | (at_next; refine wpList_next_ranges _ rfl _ rfl 3 lawI rawElem (Value.int .i64) id (fun key kl hk => by obtain ⟨x, rfl, _⟩ := Maps.keyOf_int_inv Tryz.underlying3 hk; exact ⟨x, rfl⟩) (fun v _ _ => ⟨v, rfl⟩) eb w.heap.size E.length _ _ _ rfl hrg ?_ ?_)
      | go_in)
    · intro hc0 hl0
      have HK : Hid (sortI ks = idsE E (outP n)) := Lib.hid (ColE.end HGC.out.ok.se (fun e he => checkR_ids (HGC.out.ok.e e he) (by simp)) HCE.out hl0)
      have HL : Hid (ks.length ≤ 1000000) := Lib.hid (by omega)
      clear hc0 hl0 hcs
      go_wp2_with fail
      refine (sortI_any HO.out HL.out).mono ?_
      rintro e w2 ⟨rfl, o2, b2⟩
      have HO2 := Lib.hid (And.intro o2 b2)
      clear o2 b2
      go_wp2_with fail
      go_ret
      refine ⟨_, rfl, ?_, HB.out.trans (HO2.out.2.mono (Nat.le_succ _))⟩
      rw [← HK.out]
      exact HO2.out.1.mono (Nat.le_succ _)
    · intro x c kl yd yp w2 cnt2 hkey hlk hv hat hrg2 hlt hg2 hs2 hen
      obtain ⟨x', ex, rfl, hwx⟩ := Maps.keyOf_int_inv Tryz.underlying3 hkey
      obtain rfl : x = x' := by injection ex
      have hxi : I64 x := I64.of_wf hwx
      have hyd : yd = .held c := by
        simp only [rawElem, Option.some.injEq, Prod.mk.injEq] at hv
        exact hv.1.symm
      have hgx : g (.int .i64 x) = some c := HA0.out _ c (lawI.key (keyI hxi)) (fun z => by rw [hat z]; exact hyd)
      obtain ⟨y, pa, pc, hy, rfl⟩ : ∃ y pa pc, findB Eg.id E x = some y ∧ y.val pa pc = c := by
        cases hf : findB Eg.id E x with
        | none => rw [HG.out.no x hxi hf] at hgx; cases hgx
        | some y =>
          obtain ⟨h1, h2⟩ := findB_some hf
          obtain ⟨a, c', h3, _⟩ := HG.out.yes y h1
          rw [h2, hgx] at h3
          exact ⟨y, a, c', rfl, by injection h3 with h3; exact h3.symm⟩
      have hB2 : Below w.heap.size w w2 := HB.out.grown hg2 HB.out.size (fun j hj => by cases hj; exact Nat.le_refl _)
      have hO2 : kI.Own w2 (w.heap.size + 1) (.slice a ks.length cap) ks := HO.out.grown hg2 (fun j hj e => by injection e with e; have := (HO.out.lt j hj).1; omega)
      have hbW : Below w.heap.size w (w2.alloc (.cells #[.int .i64 y.id, .string y.label, .int .i64 y.fr, .int .i64 y.to, .slice pa y.ps.length pc] 32)) := hB2.alloc hB2.size _
      have hO4 := hO2.alloc (.cells #[.int .i64 y.id, .string y.label, .int .i64 y.fr, .int .i64 y.to, .slice pa y.ps.length pc] 32)
      have hrg4 := hrg2.alloc (.cells #[.int .i64 y.id, .string y.label, .int .i64 y.fr, .int .i64 y.to, .slice pa y.ps.length pc] 32)
      have HWB := Lib.hid (And.intro ((hbW.cell (p := ⟨wb, 0, none⟩) hwl).trans hw) (Nat.lt_of_lt_of_le hwl hbW.size))
      unfold Eg.val at hen
      have HY := Lib.hid hy
      have HLK := Lib.hid hlk
      have HO4 := Lib.hid hO4
      have HR4 := Lib.hid hrg4
      have HBW := Lib.hid hbW
      have HXI := Lib.hid hxi
      have HWZ : Hid (w.heap.size + 1 ≤ w2.heap.size) := Lib.hid (by omega)
      clear hs2 hat hv hkey hlk hyd hgx hrg2 hg2 ex hB2 hO2 hO4 hrg4 hbW hy hwx hxi
      unfold Eg.val
      cases hp : outP n y
      · have HP := Lib.hid hp
        clear hp
        go_wp2_with (go_at_call 71; refine (out1_any y pa pc wb n _ HWB.out.1 HWB.out.2).mono ?_; rintro e w3 ⟨rfl, b3⟩; rw [HP.out]; have HB3 := Lib.hid b3; clear b3)
        have hr3 := HR4.out.kept (World.grownBy_of_below HB3.out) (by simp) (by simp)
        go_roundw
        case rel => exact ⟨_, cnt2, ks, hr3, by omega, HCE.out.no HY.out HP.out, HO4.out.below HB3.out, by have := HWZ.out; have := HB3.out.size; simp at this; omega, HBW.out.trans (HB3.out.mono HBW.out.size)⟩
        case measure => rw [hr3.left_eq, hrg.left_eq]; exact hlt
      · have HP := Lib.hid hp
        clear hp
        go_wp2_with (first | (go_at_call 71; refine (out1_any y pa pc wb n _ HWB.out.1 HWB.out.2).mono ?_; rintro e w3 ⟨rfl, b3⟩; rw [HP.out]; have HB3 := Lib.hid b3; have HXV := Lib.hid (int_new w3 w3.heap.size rfl x); have HOA := Lib.hid ((HO4.out.below b3).alloc (.cells #[.int .i64 x] 3)); have HSZ : Hid (w.heap.size + 1 ≤ w3.heap.size) := Lib.hid (by have := HWZ.out; have := b3.size; simp at this; omega); clear b3) | (at_builtin; refine RowK.wpList_app (k := kI) rfl (.tmp 21) (.tmp 23) rfl rfl HOA.out (some ⟨w3.heap.size, 0, none⟩) 1 [x] 1 rfl rfl HXV.out (fun e => by cases e) (by simp; omega) (by have := HSZ.out; simp; omega) ?_; intro v8 w8 hA; have HA8 := Lib.hid hA; clear hA) | fail)
        obtain ⟨oA, gA, kA⟩ := HA8.out
        have hne : ∀ j : Nat, j ≤ w.heap.size → some j ≠ (Value.slice a ks.length cap).ownBlock := fun j hj e => by
          have := (HO4.out.lt j e.symm).1
          omega
        have hR8 := ((HR4.out.kept (World.grownBy_of_below HB3.out) (by simp) (by simp)).alloc (.cells #[.int .i64 x] 3)).kept gA (hne _ (Nat.le_of_lt hlm)) (hne _ (Nat.le_refl _))
        have hB8 := ((HBW.out.trans (HB3.out.mono HBW.out.size)).alloc (by have := HSZ.out; omega) (.cells #[.int .i64 x] 3)).grown gA (by have := HSZ.out; simp; omega) (fun j hj => by have := (HO4.out.lt j hj).1; omega)
        have hsz8 := gA.size
        simp only [size_alloc] at hsz8
        go_roundw
        case rel => exact ⟨_, cnt2, ks ++ [x], hR8, by simp; omega, HCE.out.yes HXI.out HY.out HLK.out HP.out, oA, by have := HSZ.out; omega, hB8⟩
        case measure => rw [hR8.left_eq, hrg.left_eq]; exact hlt
set_option maxRecDepth 100000 in
theorem gout_any (gb vb eb : Nat) (V : List Vt) (E : List Eg) (n : Int) (w : World) (h : GrC w gb vb eb V E) (hn : E.length ≤ 1000000) :
    Calls Tryz.prog 33 #[.pointer (some ⟨gb, 0, none⟩), .int .i64 n] w (EsPost E (outP n) w) := by
  have HB := Lib.hid (below_box w (.cells #[.int .i64 n] 3))
  have HC := Lib.hid (edgesOut_any gb vb eb V E w.heap.size n _ (h.below HB.out) (by rw [cell_of_blk (heap_new w _)]; rfl) (by simp) hn)
  clear h
  go_enter Tryz.func33, Tryz.ntmps33
  go_wp2_with fail
  refine HC.out.mono ?_
  rintro e w1 ⟨v, rfl, o1, b1⟩
  obtain ⟨a, cap, rfl⟩ := o1.shape
  have HO := Lib.hid o1
  have HB1 := Lib.hid b1
  clear o1 b1
  go_wp2_with fail
  go_ret
  exact ⟨_, rfl, HO.out.mono (by simp), below_then HB.out HB1.out⟩
set_option maxRecDepth 100000 in
set_option maxHeartbeats 400000 in
theorem in1_any (y : Eg) (a : Option Addr) (c wb : Nat) (n : Int) (w : World) (hw : w.cell? ⟨wb, 0, none⟩ = some (.int .i64 n)) (hl : wb < w.heap.size) :
    Calls Tryz.prog 72 #[y.val a c, .pointer (some ⟨wb, 0, none⟩)] w fun e w' => e = .returned (.bool (inP n y)) ∧ Below w.heap.size w w' := by
  have HB := Lib.hid (below_box w (.cells #[.int .i64 y.id, .string y.label, .int .i64 y.fr, .int .i64 y.to, .slice a y.ps.length c] 32))
  unfold Eg.val inP
  go_enter Tryz.func72, Tryz.ntmps72
  go_wp2
  go_ret
  exact ⟨rfl, HB.out⟩
set_option maxRecDepth 100000 in
set_option maxHeartbeats 2000000 in
theorem edgesIn_any (gb vb eb : Nat) (V : List Vt) (E : List Eg) (wb : Nat) (n : Int) (w : World) (h : GrC w gb vb eb V E) (hw : w.cell? ⟨wb, 0, none⟩ = some (.int .i64 n)) (hwl : wb < w.heap.size) (hn : E.length ≤ 1000000) :
    Calls Tryz.prog 70 #[.pointer (some ⟨gb, 0, none⟩), .func (.func 72) #[] #[.pointer (some ⟨wb, 0, none⟩)]] w (EsPost E (inP n) w) := by
  obtain ⟨g, hmap, hg⟩ := h.em
  obtain ⟨D0, hown, hsz, hhas, hat0⟩ := hmap.open'
  have c1 : w.cell? ⟨gb, 1, none⟩ = some (.map (some eb)) := by rw [cell_of_blk h.blk]; rfl
  have hls := h.lt
  have HG := Lib.hid hg
  have HA0 := Lib.hid hat0
  have HH := Lib.hid hhas
  have HGC := Lib.hid h
  have hlm := h.ltE
  clear hg hat0 hhas h
  go_enter Tryz.func70, Tryz.ntmps70
  go_wp2_with (first
    | (at_range; refine wpList_range_own _ rfl _ 78 rfl 3 32 lawI Tryz.underlying78 _ eb E.length _ rfl hown ?_; intro w0 hrg0 hg0 hs0)
    | go_in)
  go_frame
  go_loopw [5] (fun v wr => ∃ (left : Lit → Bool) (cnt : Nat) (ks : List Int), wr.ranges Tryz.prog 3 rawElem eb w.heap.size E.length D0 left cnt ∧ ks.length + cnt ≤ E.length ∧ ColE E (inP n) left ks ∧ kI.Own wr (w.heap.size + 1) v ks ∧ w.heap.size < wr.heap.size ∧ Below w.heap.size w wr)
    (fun _ wr => wr.rangeLeft eb w.heap.size)
  case atStart =>
    refine ⟨_, _, [], hrg0, by rw [hsz]; simp, ColE.start (fun k hk => ?_), RowK.Own.nil kI _ _, by omega, (Below.refl w.heap.size w).grown hg0 (Nat.le_refl _) (fun j hj => by cases hj)⟩
    rw [HH.out _ (lawI.key (keyI hk))]
    cases hf : findB Eg.id E k with
    | none => rw [HG.out.no k hk hf]; rfl
    | some y =>
      obtain ⟨h1, h2⟩ := findB_some hf
      obtain ⟨a, c, h3, _⟩ := HG.out.yes y h1
      rw [h2] at h3
      rw [h3]; rfl
  case round =>
    obtain ⟨left, cnt, ks, hrg, hcs, hC, hO, hwz, hB⟩ := hrel
    obtain ⟨a, cap, rfl⟩ := hO.shape
    have HCE := Lib.hid hC
    have HO := Lib.hid hO
    have HB := Lib.hid hB
    clear hC hO hB
    go_wp2_with (first
      | (at_next; refine wpList_next_ranges _ rfl _ rfl 3 lawI rawElem (Value.int .i64) id (fun key kl hk => by obtain ⟨x, rfl, _⟩ := Maps.keyOf_int_inv Tryz.underlying3 hk; exact ⟨x, rfl⟩) (fun v _ _ => ⟨v, rfl⟩) eb w.heap.size E.length _ _ _ rfl hrg ?_ ?_)
      | go_in)
    · intro hc0 hl0
      have HK : Hid (sortI ks = idsE E (inP n)) := Lib.hid (ColE.end HGC.out.ok.se (fun e he => checkR_ids (HGC.out.ok.e e he) (by simp)) HCE.out hl0)
      have HL : Hid (ks.length ≤ 1000000) := Lib.hid (by omega)
      clear hc0 hl0 hcs
      go_wp2_with fail
      refine (sortI_any HO.out HL.out).mono ?_
      rintro e w2 ⟨rfl, o2, b2⟩
      have HO2 := Lib.hid (And.intro o2 b2)
      clear o2 b2
      go_wp2_with fail
      go_ret
      refine ⟨_, rfl, ?_, HB.out.trans (HO2.out.2.mono (Nat.le_succ _))⟩
      rw [← HK.out]
      exact HO2.out.1.mono (Nat.le_succ _)
    · intro x c kl yd yp w2 cnt2 hkey hlk hv hat hrg2 hlt hg2 hs2 hen
      obtain ⟨x', ex, rfl, hwx⟩ := Maps.keyOf_int_inv Tryz.underlying3 hkey
      obtain rfl : x = x' := by injection ex
      have hxi : I64 x := I64.of_wf hwx
      have hyd : yd = .held c := by
        simp only [rawElem, Option.some.injEq, Prod.mk.injEq] at hv
        exact hv.1.symm
      have hgx : g (.int .i64 x) = some c := HA0.out _ c (lawI.key (keyI hxi)) (fun z => by rw [hat z]; exact hyd)
      obtain ⟨y, pa, pc, hy, rfl⟩ : ∃ y pa pc, findB Eg.id E x = some y ∧ y.val pa pc = c := by
        cases hf : findB Eg.id E x with
        | none => rw [HG.out.no x hxi hf] at hgx; cases hgx
        | some y =>
          obtain ⟨h1, h2⟩ := findB_some hf
          obtain ⟨a, c', h3, _⟩ := HG.out.yes y h1
          rw [h2, hgx] at h3
          exact ⟨y, a, c', rfl, by injection h3 with h3; exact h3.symm⟩
      have hB2 : Below w.heap.size w w2 := HB.out.grown hg2 HB.out.size (fun j hj => by cases hj; exact Nat.le_refl _)
      have hO2 : kI.Own w2 (w.heap.size + 1) (.slice a ks.length cap) ks := HO.out.grown hg2 (fun j hj e => by injection e with e; have := (HO.out.lt j hj).1; omega)
      have hbW : Below w.heap.size w (w2.alloc (.cells #[.int .i64 y.id, .string y.label, .int .i64 y.fr, .int .i64 y.to, .slice pa y.ps.length pc] 32)) := hB2.alloc hB2.size _
      have hO4 := hO2.alloc (.cells #[.int .i64 y.id, .string y.label, .int .i64 y.fr, .int .i64 y.to, .slice pa y.ps.length pc] 32)
      have hrg4 := hrg2.alloc (.cells #[.int .i64 y.id, .string y.label, .int .i64 y.fr, .int .i64 y.to, .slice pa y.ps.length pc] 32)
      have HWB := Lib.hid (And.intro ((hbW.cell (p := ⟨wb, 0, none⟩) hwl).trans hw) (Nat.lt_of_lt_of_le hwl hbW.size))
      unfold Eg.val at hen
      have HY := Lib.hid hy
      have HLK := Lib.hid hlk
      have HO4 := Lib.hid hO4
      have HR4 := Lib.hid hrg4
      have HBW := Lib.hid hbW
      have HXI := Lib.hid hxi
      have HWZ : Hid (w.heap.size + 1 ≤ w2.heap.size) := Lib.hid (by omega)
      clear hs2 hat hv hkey hlk hyd hgx hrg2 hg2 ex hB2 hO2 hO4 hrg4 hbW hy hwx hxi
      unfold Eg.val
      cases hp : inP n y
      · have HP := Lib.hid hp
        clear hp
        go_wp2_with (go_at_call 72; refine (in1_any y pa pc wb n _ HWB.out.1 HWB.out.2).mono ?_; rintro e w3 ⟨rfl, b3⟩; rw [HP.out]; have HB3 := Lib.hid b3; clear b3)
        have hr3 := HR4.out.kept (World.grownBy_of_below HB3.out) (by simp) (by simp)
        go_roundw
        case rel => exact ⟨_, cnt2, ks, hr3, by omega, HCE.out.no HY.out HP.out, HO4.out.below HB3.out, by have := HWZ.out; have := HB3.out.size; simp at this; omega, HBW.out.trans (HB3.out.mono HBW.out.size)⟩
        case measure => rw [hr3.left_eq, hrg.left_eq]; exact hlt
      · have HP := Lib.hid hp
        clear hp
        go_wp2_with (first | (go_at_call 72; refine (in1_any y pa pc wb n _ HWB.out.1 HWB.out.2).mono ?_; rintro e w3 ⟨rfl, b3⟩; rw [HP.out]; have HB3 := Lib.hid b3; have HXV := Lib.hid (int_new w3 w3.heap.size rfl x); have HOA := Lib.hid ((HO4.out.below b3).alloc (.cells #[.int .i64 x] 3)); have HSZ : Hid (w.heap.size + 1 ≤ w3.heap.size) := Lib.hid (by have := HWZ.out; have := b3.size; simp at this; omega); clear b3) | (at_builtin; refine RowK.wpList_app (k := kI) rfl (.tmp 21) (.tmp 23) rfl rfl HOA.out (some ⟨w3.heap.size, 0, none⟩) 1 [x] 1 rfl rfl HXV.out (fun e => by cases e) (by simp; omega) (by have := HSZ.out; simp; omega) ?_; intro v8 w8 hA; have HA8 := Lib.hid hA; clear hA) | fail)
        obtain ⟨oA, gA, kA⟩ := HA8.out
        have hne : ∀ j : Nat, j ≤ w.heap.size → some j ≠ (Value.slice a ks.length cap).ownBlock := fun j hj e => by
          have := (HO4.out.lt j e.symm).1
          omega
        have hR8 := ((HR4.out.kept (World.grownBy_of_below HB3.out) (by simp) (by simp)).alloc (.cells #[.int .i64 x] 3)).kept gA (hne _ (Nat.le_of_lt hlm)) (hne _ (Nat.le_refl _))
        have hB8 := ((HBW.out.trans (HB3.out.mono HBW.out.size)).alloc (by have := HSZ.out; omega) (.cells #[.int .i64 x] 3)).grown gA (by have := HSZ.out; simp; omega) (fun j hj => by have := (HO4.out.lt j hj).1; omega)
        have hsz8 := gA.size
        simp only [size_alloc] at hsz8
        go_roundw
        case rel => exact ⟨_, cnt2, ks ++ [x], hR8, by simp; omega, HCE.out.yes HXI.out HY.out HLK.out HP.out, oA, by have := HSZ.out; omega, hB8⟩
        case measure => rw [hR8.left_eq, hrg.left_eq]; exact hlt
set_option maxRecDepth 100000 in
theorem gin_any (gb vb eb : Nat) (V : List Vt) (E : List Eg) (n : Int) (w : World) (h : GrC w gb vb eb V E) (hn : E.length ≤ 1000000) :
    Calls Tryz.prog 34 #[.pointer (some ⟨gb, 0, none⟩), .int .i64 n] w (EsPost E (inP n) w) := by
  have HB := Lib.hid (below_box w (.cells #[.int .i64 n] 3))
  have HC := Lib.hid (edgesIn_any gb vb eb V E w.heap.size n _ (h.below HB.out) (by rw [cell_of_blk (heap_new w _)]; rfl) (by simp) hn)
  clear h
  go_enter Tryz.func34, Tryz.ntmps34
  go_wp2_with fail
  refine HC.out.mono ?_
  rintro e w1 ⟨v, rfl, o1, b1⟩
  obtain ⟨a, cap, rfl⟩ := o1.shape
  have HO := Lib.hid o1
  have HB1 := Lib.hid b1
  clear o1 b1
  go_wp2_with fail
  go_ret
  exact ⟨_, rfl, HO.out.mono (by simp), below_then HB.out HB1.out⟩
end Go.Proofs.YtkbmipmegljidaaGreat
