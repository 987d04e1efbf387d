/- graph.Labeled. Conditions: the contract's own premises. graph.Valued's closures. Conditions: the contracts' own premises. graph.Valued. Conditions: the contracts' own premises. What the lists of graph.Valued and graph.Labeled hold. Plain facts. -/
import Derived.Test.YtonilojjahfboaaGreatIn1
import Derived.Test.YtonilojjahfboaaGreatGiA
import Derived.Test.YtonilojjahfboaaGreatGsA
import Derived.Test.YtonilojjahfboaaGreatPqA
import Derived.Deep.RegionHeld3
import Derived.Test.YtonilojjahfboaaGreatVlA
import Derived.Laws.EntriesVeiled
import Derived.Test.YtonilojjahfboaaGreatSiA
namespace Go.Proofs.YtonilojjahfboaaGreat
open Go.RowKit Go.Maps

/-- the vertices of a label -/
def labL (V : List Vt) (lab : ByteArray) : List Int := (V.filter (fun v => decide (v.label = lab))).map Vt.id
theorem getV_mem {V : List Vt} (hs : SortB Vt.id V) {v : Vt} (hv : v ∈ V) : getV V v.id = v := by
  unfold getV; rw [findB_mem hs hv]; rfl
theorem lab_filter {V : List Vt} (hs : SortB Vt.id V) (lab : ByteArray) : (V.map Vt.id).filter (fun id => !!decide ((getV V id).label = lab)) = labL V lab := by
  unfold labL
  rw [List.filter_map]
  congr 1
  refine List.filter_congr fun v hv => ?_
  show (!!decide ((getV V v.id).label = lab)) = _
  rw [getV_mem hs hv, Bool.not_not]
theorem getV_runN {w : World} {gb vb eb : Nat} {V : List Vt} {E : List Eg} (h : GrC w gb vb eb V E) {y : Vt} (hy : y ∈ V) : ∃ a c, (∀ u : World, u.heap[vb]? = w.heap[vb]? → (Instr.lookup 163 (.map (some vb)) (.int .i64 y.id) false).run Tryz.prog u = .ok (.agg #[.int .i64 y.id, .string y.label, .slice a y.ps.length c]) u) ∧ PsA w a c y.ps ∧ y.ps.length ≤ 16 := by
  obtain ⟨f, m, hf⟩ := h.vm
  obtain ⟨a, c, h3, h4⟩ := hf.yes y hy
  refine ⟨a, c, fun u hu => ?_, h4, checkR_ps (h.ok.v y hy)⟩
  have e := (m.of_block hu).look lawI Tryz.underlying163 (zeroV u) (keyI (checkR_ids (h.ok.v y hy) (by simp) : I64 y.id))
  rw [h3] at e
  exact e
theorem fldV0 (x v s : Value) (u : World) (hx : ∃ k, x = .int .i64 k) : (Instr.field 28 (.agg #[x, s, v]) 0).run Tryz.prog u = .ok x u := by
  obtain ⟨k, rfl⟩ := hx
  simp only [Instr.field, go_sem, asAgg]
  simp [go_sem]
theorem fldV1 (x : Value) (s : ByteArray) (v : Value) (u : World) : (Instr.field 28 (.agg #[x, .string s, v]) 1).run Tryz.prog u = .ok (.string s) u := by
  simp only [Instr.field, go_sem, asAgg]
  simp [go_sem]
theorem fldV2 (x s : Value) (a : Option Addr) (n c : Nat) (u : World) : (Instr.field 28 (.agg #[x, s, .slice a n c]) 2).run Tryz.prog u = .ok (.slice a n c) u := by
  simp only [Instr.field, go_sem, asAgg]
  simp [go_sem]
set_option maxRecDepth 100000 in
set_option maxHeartbeats 1000000 in
theorem labeled1_any (bb lb gb vb eb : Nat) (V : List Vt) (E : List Eg) (y : Vt) (lab : ByteArray) (w : World) (h : GrC w gb vb eb V E) (hy : y ∈ V) (hb : w.cell? ⟨bb, 0, none⟩ = some (.pointer (some ⟨gb, 0, none⟩))) (hl : w.cell? ⟨lb, 0, none⟩ = some (.string lab)) :
    Calls Tryz.prog 144 #[.int .i64 y.id, .pointer (some ⟨bb, 0, none⟩), .pointer (some ⟨lb, 0, none⟩)] w fun e w' => e = .returned (.bool (!decide (y.label = lab))) ∧ Below w.heap.size w w' := by
  obtain ⟨a, c, hlk0, _, _⟩ := getV_runN h hy
  have hlk : ∀ nq, (Instr.lookup 163 (.map (some vb)) (.int .i64 y.id) false).run Tryz.prog (w.drewN nq) = .ok (.agg #[.int .i64 y.id, .string y.label, .slice a y.ps.length c]) (w.drewN nq) := fun nq => hlk0 _ rfl
  have g0 : w.cell? ⟨gb, 0, none⟩ = some (.map (some vb)) := by rw [cell_of_blk h.blk]; rfl
  have hlg := h.lt
  have hbl := block_lt_of_cell hb
  have hll := block_lt_of_cell hl
  have hne : (y.label.toList == lab.toList) = decide (y.label = lab) := bytes_eqB _ _
  obtain ⟨q, hq⟩ : ∃ q, decide (y.label = lab) = q := ⟨_, rfl⟩
  rw [hq] at hne ⊢
  clear h hy hq hlk0
  have HFV := fldV1 (.int .i64 y.id) y.label (.slice a y.ps.length c)
  have HS0 : Hid (w.drew.cell? ⟨bb, 0, none⟩ = some (.pointer (some ⟨gb, 0, none⟩)) ∧ w.drew.cell? ⟨lb, 0, none⟩ = some (.string lab) ∧ w.drew.cell? ⟨gb, 0, none⟩ = some (.map (some vb)) ∧ (Instr.lookup 163 (.map (some vb)) (.int .i64 y.id) false).run Tryz.prog w.drew = .ok (.agg #[.int .i64 y.id, .string y.label, .slice a y.ps.length c]) w.drew) := Lib.hid ⟨hb, hl, g0, hlk 1⟩
  cases q
  all_goals
    go_enter Tryz.func144, Tryz.ntmps144
    go_upto_region 1 with fail
    go_region_held3 (fun w' => w'.cell? ⟨bb, 0, none⟩ = some (.pointer (some ⟨gb, 0, none⟩)) ∧ w'.cell? ⟨lb, 0, none⟩ = some (.string lab) ∧ w'.cell? ⟨gb, 0, none⟩ = some (.map (some vb)) ∧ (Instr.lookup 163 (.map (some vb)) (.int .i64 y.id) false).run Tryz.prog w' = .ok (.agg #[.int .i64 y.id, .string y.label, .slice a y.ps.length c]) w')
      (exact HS0.out)
      (fail)
    all_goals
      go_wp2_with fail
      go_ret
      exact ⟨rfl, below_drewN (Below.refl _ _) 1⟩
theorem eg_lab1 : ∀ args w, (callFunc 144 args).run Tryz.prog w = .ok (.enter 144 args) w := enters_of Tryz.func144 (by kernel_rfl) rfl
def LbPost (w : World) (l : List Int) (e : Ending) (w' : World) : Prop := ∃ v, e = .returned v ∧ kI.Own w' w.heap.size v l ∧ Below w.heap.size w w'
set_option maxRecDepth 100000 in
set_option maxHeartbeats 2000000 in
theorem glabeled_any (gb vb eb : Nat) (V : List Vt) (E : List Eg) (lab : ByteArray) (w : World) (h : GrC w gb vb eb V E) (hV : V.length ≤ 1000000) :
    Calls Tryz.prog 62 #[.pointer (some ⟨gb, 0, none⟩), .string lab] w (LbPost w (labL V lab)) := by
  obtain ⟨W, hW⟩ : ∃ W, W = (w.alloc (.cells #[.pointer (some ⟨gb, 0, none⟩)] 24)).alloc (.cells #[.string lab] 9) := ⟨_, rfl⟩
  have hBW : Below w.heap.size w W := by rw [hW]; exact (below_box w _).alloc (by simp) _
  obtain ⟨bb, hbb⟩ : ∃ b, b = w.heap.size := ⟨_, rfl⟩
  have e1 : W.heap[bb]? = some (.cells #[.pointer (some ⟨gb, 0, none⟩)] 24) := by rw [hW, hbb]; exact (Below.heap_alloc _ _ _ (by simp)).trans (heap_new w _)
  have e2 : W.heap[bb + 1]? = some (.cells #[.string lab] 9) := by rw [hW, hbb]; exact heap_new2 w _ _
  have hG := h.below hBW
  have g0 : W.cell? ⟨gb, 0, none⟩ = some (.map (some vb)) := by rw [cell_of_blk hG.blk]; rfl
  have hlg := hG.lt
  have b0 : W.cell? ⟨bb, 0, none⟩ = some (.pointer (some ⟨gb, 0, none⟩)) := by rw [cell_of_blk e1]; rfl
  have hbl := block_lt_of_cell b0
  have HE1 := Lib.hid e1
  have HE2 := Lib.hid e2
  have HG := Lib.hid hG
  have HW := Lib.hid hW
  have HBW := Lib.hid hBW
  have HBB := Lib.hid hbb
  clear h hW hBW hbb e1 e2 hG
  go_enter Tryz.func62, Tryz.ntmps62
  go_upto_region 1 with fail
  rw [← HW.out, ← HBB.out]
  go_wp2_with fail
  refine (ikeysV_any (some vb) W).mono ?_
  rintro e wa ⟨rfl, hwa⟩
  have HBa : Hid (Below W.heap.size W wa) := Lib.hid (by rw [hwa]; exact below_box W _)
  have HSR := Lib.hid (isortedV_any W.heap.size wa (HG.out.below HBa.out) hV (by rw [hwa]; simp) (by rw [hwa]; exact cell_of_blk (heap_new W _) 0))
  clear hwa
  go_wp2_with fail
  refine HSR.out.mono ?_
  rintro e wb ⟨vi, rfl, oi, bi⟩
  have HBb : Hid (Below W.heap.size W wb) := Lib.hid (below_then HBa.out bi)
  have HOI := Lib.hid oi
  have HSZ : Hid (W.heap.size ≤ wa.heap.size) := Lib.hid HBa.out.size
  rcases oi.2 with ⟨hv, hn⟩ | ⟨g, cap, cur, hv, hg, _⟩
  · have HN : Hid (V.map Vt.id = []) := Lib.hid (List.eq_nil_of_length_eq_zero hn)
    subst hv
    clear hn bi oi HOI HSR
    go_wp2_with fail
    refine (delI_nil 144 #[.pointer (some ⟨bb, 0, none⟩), .pointer (some ⟨bb + 1, 0, none⟩)] wb eg_lab1).mono ?_
    rintro e w2 ⟨rfl, hb2⟩
    have HB2 := Lib.hid hb2
    clear hb2
    go_wp2_with fail
    go_ret
    refine ⟨_, rfl, ?_, below_then (below_then HBW.out HBb.out) HB2.out⟩
    rw [← lab_filter HG.out.ok.sv, HN.out]
    exact RowK.Own.nil kI _ _
  · subst hv
    have HGB := Lib.hid hg
    have hd := delI_by 144 #[.pointer (some ⟨bb, 0, none⟩), .pointer (some ⟨bb + 1, 0, none⟩)] (fun id => !decide ((getV V id).label = lab)) g cap (V.map Vt.id) wb wa.heap.size eg_lab1 oi (by rw [List.length_map]; omega) (fun W' id hid hc => by
      obtain ⟨y, hy, rfl⟩ := List.mem_map.1 hid
      have hb' : Below W.heap.size W W' := HBb.out.trans (hc.below HBb.out.size (fun j e => by have := HGB.out; have := HSZ.out; omega))
      have := labeled1_any bb (bb + 1) gb vb eb V E y lab W' (HG.out.below hb') hy (by rw [cell_of_blk ((hb'.block _ (Array.getElem?_eq_some_iff.1 HE1.out).1).trans HE1.out)]; rfl) (by rw [cell_of_blk ((hb'.block _ (Array.getElem?_eq_some_iff.1 HE2.out).1).trans HE2.out)]; rfl)
      show Calls Tryz.prog 144 #[.int .i64 y.id, .pointer (some ⟨bb, 0, none⟩), .pointer (some ⟨bb + 1, 0, none⟩)] W' _
      rw [getV_mem HG.out.ok.sv hy]
      exact this)
    rw [List.length_map] at hd
    have HD := Lib.hid hd
    clear hd hg bi oi HSR
    go_wp2_with fail
    refine HD.out.mono ?_
    intro e w2 hh
    unfold DlPost at hh
    obtain ⟨L9, hL9⟩ : ∃ l, l = (V.map Vt.id).filter (fun id => !!decide ((getV V id).label = lab)) := ⟨_, rfl⟩
    have hL9' : labL V lab = L9 := by rw [hL9]; exact (lab_filter HG.out.ok.sv lab).symm
    rw [← hL9] at hh
    have ho2 := hh.2.1
    have hc2 := hh.2.2
    obtain rfl := hh.1
    clear hh
    have HF : Hid (LbPost w (labL V lab) (.returned (.slice (some ⟨g, 0, none⟩) L9.length cap)) w2) := Lib.hid ⟨_, rfl, by
      rw [hL9']
      exact ho2.mono (Nat.le_trans HBW.out.size HSZ.out), (below_then HBW.out HBb.out).trans (hc2.below (Nat.le_trans HBW.out.size HBb.out.size) (fun j e => by have := HGB.out; have := HSZ.out; have := HBW.out.size; omega))⟩
    clear ho2 hc2 hL9 hL9'
    go_wp2_with fail
    go_ret
    exact HF.out
end Go.Proofs.YtonilojjahfboaaGreat
namespace Go.Proofs.YtonilojjahfboaaGreat
open Go.RowKit Go.Maps

/-- a vertex' value of a key, or none; whether it has one -/
def vo (y : Vt) (k : ByteArray) : Vl := match getP y.ps k with
  | some p => p.v
  | none => ⟨0, 0, ⟨#[]⟩⟩
def vq (y : Vt) (k : ByteArray) : Bool := (getP y.ps k).isSome
theorem gotP_vo (y : Vt) (k : ByteArray) : gotP y.ps k = .tuple #[.agg #[.int .i64 (vo y k).kind, .int .i64 (vo y k).n, .string (vo y k).s], .bool (vq y k)] := by
  unfold gotP vo vq
  cases getP y.ps k <;> rfl
/-- a struct of three cells stored into a block of one's own -/
theorem res3 {w wc W9 : World} {B : Nat} {u0 u1 u2 : Value} {ty : TypeId} (hB : w.heap.size ≤ B) (hb : Below w.heap.size w wc) (hbv : wc.heap[B]? = some (.cells #[u0, u1, u2] ty (0, 0))) (x y z : Value) (e9 : W9 = ((wc.setCell ⟨B, 0, none⟩ x).setCell ⟨B, 1, none⟩ y).setCell ⟨B, 2, none⟩ z) :
    Below w.heap.size w W9 ∧ W9.heap[B]? = some (.cells #[x, y, z] ty (0, 0)) := by
  subst e9
  have hb9 := blk_setCell (blk_setCell (blk_setCell hbv x (i := 0)) y (i := 1)) z (i := 2)
  exact ⟨((hb.setCell (p := ⟨B, 0, none⟩) hB _).setCell (p := ⟨B, 1, none⟩) hB _).setCell (p := ⟨B, 2, none⟩) hB _, hb9⟩
/-- what the closure of leaves -/
def V1Post (w : World) (x : Vl) (q : Bool) (e : Ending) (w' : World) : Prop := e = .returned (.tuple #[.agg #[.int .i64 x.kind, .int .i64 x.n, .string x.s], .bool q]) ∧ Below w.heap.size w w'
set_option maxRecDepth 100000 in
set_option maxHeartbeats 2000000 in
theorem valued1_any (bb kb gb vb eb : Nat) (V : List Vt) (E : List Eg) (y : Vt) (k : ByteArray) (w : World) (h : GrC w gb vb eb V E) (hy : y ∈ V) (hb : w.cell? ⟨bb, 0, none⟩ = some (.pointer (some ⟨gb, 0, none⟩))) (hk : w.cell? ⟨kb, 0, none⟩ = some (.string k)) :
    Calls Tryz.prog 134 #[.int .i64 y.id, .pointer (some ⟨bb, 0, none⟩), .pointer (some ⟨kb, 0, none⟩)] w (V1Post w (vo y k) (vq y k)) := by
  obtain ⟨a, c, hlk0, hps, hpl⟩ := getV_runN h hy
  have g0 : w.cell? ⟨gb, 0, none⟩ = some (.map (some vb)) := by rw [cell_of_blk h.blk]; rfl
  have hlg := h.lt
  have hbl := block_lt_of_cell hb
  have hkl := block_lt_of_cell hk
  have hvl := h.ltV
  obtain ⟨W, hW⟩ : ∃ W, W = w.alloc (.cells #[.int .i64 0, .int .i64 0, .string ⟨#[]⟩] 98) := ⟨_, rfl⟩
  have hBW : Below w.heap.size w W := by rw [hW]; exact below_box w _
  have eV : W.heap[w.heap.size]? = some (.cells #[.int .i64 0, .int .i64 0, .string ⟨#[]⟩] 98) := by rw [hW]; exact heap_new w _
  have hks : ∀ u, Below w.heap.size w u → u.cell? ⟨bb, 0, none⟩ = some (.pointer (some ⟨gb, 0, none⟩)) ∧ u.cell? ⟨kb, 0, none⟩ = some (.string k) ∧ u.cell? ⟨gb, 0, none⟩ = some (.map (some vb)) ∧ (Instr.lookup 163 (.map (some vb)) (.int .i64 y.id) false).run Tryz.prog u = .ok (.agg #[.int .i64 y.id, .string y.label, .slice a y.ps.length c]) u := fun u hu =>
    ⟨below_cell hu 0 hbl hb, below_cell hu 0 hkl hk, below_cell hu 0 hlg g0, hlk0 u (hu.block vb hvl)⟩
  have KS := Lib.hid hks
  have hpg := pget_any a c y.ps k W.drew ((hps.below hBW).v.below (Below.refl _ _).drew) (by omega)
  rw [gotP_vo] at hpg
  obtain ⟨x, hx⟩ : ∃ x, vo y k = x := ⟨_, rfl⟩
  obtain ⟨q, hq⟩ : ∃ q, vq y k = q := ⟨_, rfl⟩
  rw [hx, hq] at hpg ⊢
  obtain ⟨vk, vn, vs⟩ := x
  have HPG := Lib.hid hpg
  have HFV := fldV2 (.int .i64 y.id) (.string y.label) a y.ps.length c
  have HW := Lib.hid hW
  have HBW := Lib.hid hBW
  have HEV := Lib.hid eV
  clear h hy hks hps hlk0 hpg hx hq hW hBW eV g0 hb hk
  go_enter Tryz.func134, Tryz.ntmps134
  go_upto_region 1 with fail
  rw [← HW.out]
  go_region_held3 (fun u => u.cell? ⟨bb, 0, none⟩ = some (.pointer (some ⟨gb, 0, none⟩)) ∧ u.cell? ⟨kb, 0, none⟩ = some (.string k) ∧ u.cell? ⟨gb, 0, none⟩ = some (.map (some vb)) ∧ (Instr.lookup 163 (.map (some vb)) (.int .i64 y.id) false).run Tryz.prog u = .ok (.agg #[.int .i64 y.id, .string y.label, .slice a y.ps.length c]) u)
    (first | exact KS.out _ HBW.out | exact KS.out _ HBW.out.drew | exact KS.out _ hbc | exact KS.out _ (res3 (Nat.le_refl _) hbc hbv _ _ _ rfl).1)
    ((go_at_call 135; (with_reducible refine HPG.out.mono ?_); rintro e wc ⟨rfl, hbc0⟩; have hbc := below_then HBW.out.drew hbc0; have hbv := (hbc0.block _ (Array.getElem?_eq_some_iff.1 HEV.out).1).trans HEV.out; have z0 := cell_of_blk hbv 0; have z1 := cell_of_blk hbv 1; have z2 := cell_of_blk hbv 2; have y0 := frozen_of_blk hbv 0; have y1 := frozen_of_blk hbv 1; have y2 := frozen_of_blk hbv 2; simp at z0 z1 z2))
  obtain ⟨W9, hW9⟩ : ∃ W9, W9 = ((wc.setCell ⟨w.heap.size, 0, none⟩ (.int .i64 vk)).setCell ⟨w.heap.size, 1, none⟩ (.int .i64 vn)).setCell ⟨w.heap.size, 2, none⟩ (.string vs) := ⟨_, rfl⟩
  obtain ⟨hB9, hb9⟩ := res3 (Nat.le_refl _) hbc hbv _ _ _ hW9
  rw [← hW9]
  go_wp2_with fail
  have r0 := cell_of_blk hb9 0
  have r1 := cell_of_blk hb9 1
  have r2 := cell_of_blk hb9 2
  simp at r0 r1 r2
  refine bodyPost_ret (v := .tuple #[.agg #[.int .i64 vk, .int .i64 vn, .string vs], .bool q]) (by simp [results, Tryz.results134, go_sem, r0, r1, r2]) rfl ⟨rfl, hB9⟩
/-- a function value's door, the boxes and the graph behind it -/
structure VX (w : World) (bb kb ob gb vb eb : Nat) (V : List Vt) (E : List Eg) (k : ByteArray) : Prop where
  gr : GrC w gb vb eb V E
  b : w.cell? ⟨bb, 0, none⟩ = some (.pointer (some ⟨gb, 0, none⟩))
  k : w.cell? ⟨kb, 0, none⟩ = some (.string k)
  o : w.cell? ⟨ob, 0, none⟩ = some (.func (.func 134) #[] #[.pointer (some ⟨bb, 0, none⟩), .pointer (some ⟨kb, 0, none⟩)])
theorem VX.below {w w' : World} {bb kb ob gb vb eb : Nat} {V : List Vt} {E : List Eg} {k : ByteArray} (h : VX w bb kb ob gb vb eb V E k) (hb : Below w.heap.size w w') : VX w' bb kb ob gb vb eb V E k :=
  ⟨h.gr.below hb, below_cell hb 0 (block_lt_of_cell h.b) h.b, below_cell hb 0 (block_lt_of_cell h.k) h.k, below_cell hb 0 (block_lt_of_cell h.o) h.o⟩
/-- a value's cells -/
def VlAt (w : World) (b : Nat) (x : Vl) : Prop := w.cell? ⟨b, 0, none⟩ = some (.int .i64 x.kind) ∧ w.cell? ⟨b, 1, none⟩ = some (.int .i64 x.n) ∧ w.cell? ⟨b, 2, none⟩ = some (.string x.s)
theorem VlAt.below {w w' : World} {b : Nat} {x : Vl} (h : VlAt w b x) (hb : Below w.heap.size w w') : VlAt w' b x :=
  have hl := block_lt_of_cell h.1
  ⟨below_cell hb 0 hl h.1, below_cell hb 1 hl h.2.1, below_cell hb 2 hl h.2.2⟩
/-- what the closure of DeleteFunc says -/
def outS (x : Vl) (q : Bool) (low high : Vl) : Bool := !q || decide (x.cmp low < 0) || decide (0 < x.cmp high)
set_option maxRecDepth 100000 in
set_option maxHeartbeats 2000000 in
theorem valued2_any (bb kb ob lb hb gb vb eb : Nat) (V : List Vt) (E : List Eg) (y : Vt) (k : ByteArray) (low high : Vl) (w : World) (h : VX w bb kb ob gb vb eb V E k) (hy : y ∈ V) (hl : VlAt w lb low) (hh : VlAt w hb high) :
    Calls Tryz.prog 137 #[.int .i64 y.id, .pointer (some ⟨ob, 0, none⟩), .pointer (some ⟨lb, 0, none⟩), .pointer (some ⟨hb, 0, none⟩)] w fun e w' => e = .returned (.bool (outS (vo y k) (vq y k) low high)) ∧ Below w.heap.size w w' := by
  have h0 := h.o
  have hv1 := valued1_any bb kb gb vb eb V E y k w h.gr hy h.b h.k
  obtain ⟨x, hx⟩ : ∃ x, vo y k = x := ⟨_, rfl⟩
  obtain ⟨q, hq⟩ : ∃ q, vq y k = q := ⟨_, rfl⟩
  rw [hx, hq] at hv1 ⊢
  obtain ⟨q1, hq1⟩ : ∃ q1, decide (x.cmp low < 0) = q1 := ⟨_, rfl⟩
  obtain ⟨q2, hq2⟩ : ∃ q2, decide (0 < x.cmp high) = q2 := ⟨_, rfl⟩
  have HC : ∀ u, Hid (Calls Tryz.prog 138 #[.agg #[.int .i64 x.kind, .int .i64 x.n, .string x.s], .agg #[.int .i64 low.kind, .int .i64 low.n, .string low.s]] u fun e w' => e = .returned (.int .i64 (x.cmp low)) ∧ Below u.heap.size u w') := fun u => Lib.hid (vcompare_any x low u)
  have HC2 : ∀ u, Hid (Calls Tryz.prog 138 #[.agg #[.int .i64 x.kind, .int .i64 x.n, .string x.s], .agg #[.int .i64 high.kind, .int .i64 high.n, .string high.s]] u fun e w' => e = .returned (.int .i64 (x.cmp high)) ∧ Below u.heap.size u w') := fun u => Lib.hid (vcompare_any x high u)
  obtain ⟨c1, hc1⟩ : ∃ c, x.cmp low = c := ⟨_, rfl⟩
  obtain ⟨c2, hc2⟩ : ∃ c, x.cmp high = c := ⟨_, rfl⟩
  unfold outS
  rw [hq1, hq2]
  rw [hc1] at hq1
  rw [hc2] at hq2
  simp only [hc1] at HC
  simp only [hc2] at HC2
  have HV1 := Lib.hid hv1
  have HL := Lib.hid hl
  have HH := Lib.hid hh
  obtain ⟨vk, vn, vs⟩ := x
  obtain ⟨lk, ln, ls⟩ := low
  obtain ⟨jk, jn, js⟩ := high
  clear h hy hl hh hv1 hx hq hc1 hc2
  go_enter Tryz.func137, Tryz.ntmps137
  go_upto_region 2 with (go_at_call 134; (with_reducible refine HV1.out.mono ?_); rintro e w1 ⟨rfl, hb1⟩)
  obtain ⟨W2, hW2⟩ : ∃ W2, W2 = w1.alloc (.cells #[.int .i64 vk, .int .i64 vn, .string vs] 98) := ⟨_, rfl⟩
  have e2 : W2.heap[w1.heap.size]? = some (.cells #[.int .i64 vk, .int .i64 vn, .string vs] 98) := by rw [hW2]; exact heap_new w1 _
  have hB2 : Below w.heap.size w W2 := by rw [hW2]; exact below_then hb1 (below_box w1 _)
  obtain ⟨xb, hxb⟩ : ∃ xb, xb = w1.heap.size := ⟨_, rfl⟩
  have hkz : ∀ u, Below W2.heap.size W2 u → (u.cell? ⟨xb, 0, none⟩ = some (.int .i64 vk) ∧ u.cell? ⟨xb, 1, none⟩ = some (.int .i64 vn) ∧ u.cell? ⟨xb, 2, none⟩ = some (.string vs)) ∧ (u.cell? ⟨lb, 0, none⟩ = some (.int .i64 lk) ∧ u.cell? ⟨lb, 1, none⟩ = some (.int .i64 ln) ∧ u.cell? ⟨lb, 2, none⟩ = some (.string ls)) ∧ (u.cell? ⟨hb, 0, none⟩ = some (.int .i64 jk) ∧ u.cell? ⟨hb, 1, none⟩ = some (.int .i64 jn) ∧ u.cell? ⟨hb, 2, none⟩ = some (.string js)) := fun u hu => by
    have e := (hu.block _ (Array.getElem?_eq_some_iff.1 e2).1).trans e2
    rw [← hxb] at e
    exact ⟨⟨by rw [cell_of_blk e]; rfl, by rw [cell_of_blk e]; rfl, by rw [cell_of_blk e]; rfl⟩, (HL.out.below hB2).below hu, (HH.out.below hB2).below hu⟩
  rw [← hW2, ← hxb]
  have KZ := Lib.hid hkz
  obtain ⟨⟨x0, x1, x2⟩, ⟨l0, l1, l2⟩, ⟨j0, j1, j2⟩⟩ := hkz W2 (Below.refl _ _)
  have HB2 := Lib.hid hB2
  clear hkz hW2 e2 hB2 hb1 hxb
  cases q
  · go_wp2_with fail
    go_ret
    exact ⟨rfl, HB2.out⟩
  · cases q1
    · cases q2
      all_goals
        go_wp2_with (go_at_call 138; first | ((with_reducible refine (HC _).out.mono ?_); rintro e w3 ⟨rfl, hb3⟩; obtain ⟨⟨x0, x1, x2⟩, ⟨l0, l1, l2⟩, ⟨j0, j1, j2⟩⟩ := KZ.out _ hb3; have HB3 := Lib.hid (below_then HB2.out hb3); clear hb3) | ((with_reducible refine (HC2 _).out.mono ?_); rintro e w4 ⟨rfl, hb4⟩; have HB4 := Lib.hid (below_then HB3.out hb4); clear hb4))
        go_ret
        exact ⟨rfl, HB4.out⟩
    · go_wp2_with (go_at_call 138; first | ((with_reducible refine (HC _).out.mono ?_); rintro e w3 ⟨rfl, hb3⟩; obtain ⟨⟨x0, x1, x2⟩, ⟨l0, l1, l2⟩, ⟨j0, j1, j2⟩⟩ := KZ.out _ hb3; have HB3 := Lib.hid (below_then HB2.out hb3); clear hb3) | ((with_reducible refine (HC2 _).out.mono ?_); rintro e w4 ⟨rfl, hb4⟩; have HB4 := Lib.hid (below_then HB3.out hb4); clear hb4))
      go_ret
      exact ⟨rfl, HB3.out⟩
set_option maxRecDepth 100000 in
set_option maxHeartbeats 2000000 in
theorem valued3_any (bb kb ob gb vb eb : Nat) (V : List Vt) (E : List Eg) (y z : Vt) (k : ByteArray) (w : World) (h : VX w bb kb ob gb vb eb V E k) (hy : y ∈ V) (hz : z ∈ V) :
    Calls Tryz.prog 140 #[.int .i64 y.id, .int .i64 z.id, .pointer (some ⟨ob, 0, none⟩)] w fun e w' => e = .returned (.int .i64 ((vo y k).cmp (vo z k))) ∧ Below w.heap.size w w' := by
  have h0 := h.o
  have HX := Lib.hid h
  have hv1 := valued1_any bb kb gb vb eb V E y k w h.gr hy h.b h.k
  have hv2 := fun (u : World) (hu : Below w.heap.size w u) => valued1_any bb kb gb vb eb V E z k u (h.below hu).gr hz (h.below hu).b (h.below hu).k
  obtain ⟨x, hx⟩ : ∃ x, vo y k = x := ⟨_, rfl⟩
  obtain ⟨q, hq⟩ : ∃ q, vq y k = q := ⟨_, rfl⟩
  obtain ⟨x', hx'⟩ : ∃ x, vo z k = x := ⟨_, rfl⟩
  obtain ⟨q', hq'⟩ : ∃ q, vq z k = q := ⟨_, rfl⟩
  rw [hx, hq] at hv1
  rw [hx', hq'] at hv2
  rw [hx, hx']
  have HC : ∀ u, Hid (Calls Tryz.prog 138 #[.agg #[.int .i64 x.kind, .int .i64 x.n, .string x.s], .agg #[.int .i64 x'.kind, .int .i64 x'.n, .string x'.s]] u fun e w' => e = .returned (.int .i64 (x.cmp x')) ∧ Below u.heap.size u w') := fun u => Lib.hid (vcompare_any x x' u)
  obtain ⟨c1, hc1⟩ : ∃ c, x.cmp x' = c := ⟨_, rfl⟩
  rw [hc1]
  simp only [hc1] at HC
  have HV1 := Lib.hid hv1
  have HV2 := Lib.hid hv2
  obtain ⟨vk, vn, vs⟩ := x
  obtain ⟨uk, un, us⟩ := x'
  clear h hy hz hv1 hv2 hx hq hx' hq' hc1
  go_enter Tryz.func140, Tryz.ntmps140
  go_upto_region 2 with (go_at_call 134; (with_reducible refine HV1.out.mono ?_); rintro e w1 ⟨rfl, hb1⟩)
  obtain ⟨W2, hW2⟩ : ∃ W2, W2 = w1.alloc (.cells #[.int .i64 vk, .int .i64 vn, .string vs] 98) := ⟨_, rfl⟩
  have e2 : W2.heap[w1.heap.size]? = some (.cells #[.int .i64 vk, .int .i64 vn, .string vs] 98) := by rw [hW2]; exact heap_new w1 _
  have hB2 : Below w.heap.size w W2 := by rw [hW2]; exact below_then hb1 (below_box w1 _)
  obtain ⟨xb, hxb⟩ : ∃ xb, xb = w1.heap.size := ⟨_, rfl⟩
  have h02 := (HX.out.below hB2).o
  rw [← hW2, ← hxb]
  rw [← hxb] at e2
  have HB2 := Lib.hid hB2
  have HE2 := Lib.hid e2
  clear hW2 e2 hB2 hb1 hxb h0
  go_upto_region 3 with (go_at_call 134; (with_reducible refine (HV2.out _ HB2.out).mono ?_); rintro e w3 ⟨rfl, hb3⟩)
  obtain ⟨W4, hW4⟩ : ∃ W4, W4 = w3.alloc (.cells #[.int .i64 uk, .int .i64 un, .string us] 98) := ⟨_, rfl⟩
  have e4 : W4.heap[w3.heap.size]? = some (.cells #[.int .i64 uk, .int .i64 un, .string us] 98) := by rw [hW4]; exact heap_new w3 _
  have hB4 : Below W2.heap.size W2 W4 := by rw [hW4]; exact below_then hb3 (below_box w3 _)
  have e2 := (hB4.block _ (Array.getElem?_eq_some_iff.1 HE2.out).1).trans HE2.out
  obtain ⟨xb', hxb'⟩ : ∃ xb, xb = w3.heap.size := ⟨_, rfl⟩
  rw [← hW4, ← hxb']
  rw [← hxb'] at e4
  have x0 := cell_of_blk e2 0
  have x1 := cell_of_blk e2 1
  have x2 := cell_of_blk e2 2
  have y0 := cell_of_blk e4 0
  have y1 := cell_of_blk e4 1
  have y2 := cell_of_blk e4 2
  simp at x0 x1 x2 y0 y1 y2
  have HB4 := Lib.hid (below_then HB2.out hB4)
  clear hW4 e4 e2 hB4 hb3 hxb' h02
  go_wp2_with (go_at_call 138; (with_reducible refine (HC _).out.mono ?_); rintro e w5 ⟨rfl, hb5⟩; have HB5 := Lib.hid (below_then HB4.out hb5); clear hb5)
  go_ret
  exact ⟨rfl, HB5.out⟩
end Go.Proofs.YtonilojjahfboaaGreat
namespace Go.Proofs.YtonilojjahfboaaGreat
open Go.RowKit Go.Maps

theorem insCI_nil (g : Value) (w : World) : Calls Tryz.prog 320 #[.slice none 0 0, .int .i64 0, .int .i64 0, g] w (fun e w' => e = .returned (.tuple #[]) ∧ w = w') := by
  go_enter Tryz.func320, Tryz.ntmps320
  go_wp2_with fail
  go_loopw [8] (fun i wr => i = .int .i64 1 ∧ w = wr) (fun _ _ => 0)
  case atStart => exact ⟨rfl, rfl⟩
  case round =>
    obtain ⟨rfl, rfl⟩ := hrel
    go_wp2_with fail
    go_end0
    exact ⟨rfl, rfl⟩
set_option maxRecDepth 10000 in
theorem staCI_nil (g : Value) (w : World) : Calls Tryz.prog 237 #[.slice none 0 0, .int .i64 0, g] w (fun e w' => e = .returned (.tuple #[]) ∧ w = w') := by
  go_enter Tryz.func237, Tryz.ntmps237
  go_wp2_with fail
  go_loopw [7, 8] (fun i j wr => i = .int .i64 0 ∧ j = .int .i64 20 ∧ w = wr) (fun _ _ _ => 0)
  case atStart => exact ⟨rfl, rfl, rfl⟩
  case round =>
    obtain ⟨rfl, rfl, rfl⟩ := hrel
    go_wp2_with fail
    refine (insCI_nil g _).mono ?_
    rintro e w1 ⟨rfl, rfl⟩
    go_wp2_with fail
    go_loopw [6, 7, 8, 9] (fun i _ _ _ wr => i = .int .i64 20 ∧ w = wr) (fun _ _ _ _ _ => 0)
    case atStart => exact ⟨rfl, rfl⟩
    case round =>
      obtain ⟨rfl, rfl⟩ := hrel
      go_wp2_with fail
      go_end0
      exact ⟨rfl, rfl⟩
theorem stabI_nil (g : Value) (w : World) : Calls Tryz.prog 139 #[.slice none 0 0, g] w (fun e w' => e = .returned (.tuple #[]) ∧ w = w') := by
  go_enter Tryz.func139, Tryz.ntmps139
  go_wp2_with fail
  refine (staCI_nil g _).mono ?_
  rintro e w1 ⟨rfl, rfl⟩
  go_wp2_with fail
  go_end0
  exact ⟨rfl, rfl⟩
theorem sortK_perm {α : Type} (key : α → Nat) (l : List α) : (Srt.sortK key l).Perm l := by
  have : ∀ (l m : List α), (l.foldl (Srt.putK key) m).Perm (m ++ l) := by
    intro l
    induction l with
    | nil => intro m; simp
    | cons x l ih =>
      intro m
      rw [List.foldl_cons]
      refine (ih _).trans ?_
      refine ((Srt.putK_perm key m x).append_right l).trans ?_
      exact List.perm_middle.symm
  exact this l []
/-- a list of numbers owned, as a row in an order -/
theorem IAt.of_own {w : World} {B b n cap : Nat} {l : List Int} (h : kI.Own w B (.slice (some ⟨b, 0, none⟩) n cap) l) : IAt w b 0 l.length l (fun i => i) := by
  obtain ⟨cur, hg, _⟩ := h.blk
  refine ⟨fun i hi => hi, cur, hg, fun i hi => ?_⟩
  have := ownI_cell h (List.getElem?_eq_getElem hi)
  rw [cell_of_blk hg] at this
  rw [Nat.zero_add, this, getElem!_pos l i hi]
theorem IAt.toV {w : World} {b : Nat} {L l : List Int} {t : Nat → Nat} (h : IAt w b 0 L.length L t) (hl : l = (List.range L.length).map (fun i => L[t i]!)) : kI.V w (some ⟨b, 0, none⟩) l := fun _ => by
  obtain ⟨_, cs, h1, h2⟩ := h
  refine ⟨b, 0, rfl, ⟨fun i x hx j u hu => ?_, (Array.getElem?_eq_some_iff.1 h1).1⟩⟩
  have hj : j = 0 ∧ u = .int .i64 x := by
    cases j with
    | zero => exact ⟨rfl, by simpa [kI] using hu.symm⟩
    | succ j => simp [kI] at hu
  obtain ⟨rfl, rfl⟩ := hj
  have hi : i < L.length := by have := (List.getElem?_eq_some_iff.1 hx).1; rw [hl] at this; simpa using this
  have e : x = L[t i]! := by
    rw [hl] at hx
    rw [List.getElem?_map, List.getElem?_range hi] at hx
    exact (Option.some.inj hx).symm
  rw [cell_of_blk h1]
  have := h2 i hi
  show cs[0 + i * 1 + 0]? = _
  rw [Nat.mul_one, Nat.add_zero, this, e]
/-- the vertices with a value from low to high, in the order of their values -/
def spanL (V : List Vt) (lab k : ByteArray) (low high : Vl) : List Int := (labL V lab).filter (fun id => !outS (vo (getV V id) k) (vq (getV V id) k) low high)
def keyV (V : List Vt) (L : List Int) (k : ByteArray) (id : Int) : Nat := rankV (L.map fun z => vo (getV V z) k) (vo (getV V id) k)
def valL (V : List Vt) (lab k : ByteArray) (low high : Vl) : List Int := Srt.sortK (keyV V (spanL V lab k low high) k) (spanL V lab k low high)
theorem labL_mem {V : List Vt} {lab : ByteArray} {id : Int} (h : id ∈ labL V lab) : ∃ y ∈ V, y.id = id := by
  obtain ⟨y, hy, rfl⟩ := List.mem_map.1 h
  exact ⟨y, (List.mem_filter.1 hy).1, rfl⟩
theorem labL_len (V : List Vt) (lab : ByteArray) : (labL V lab).length ≤ V.length := by
  unfold labL; rw [List.length_map]; exact List.length_filter_le _ _
def VdPost (w : World) (l : List Int) (e : Ending) (w' : World) : Prop := ∃ a cap, e = .returned (.slice a l.length cap) ∧ kI.V w' a l ∧ Below w.heap.size w w'
/-- .. and its block is one's own -/
def FreshI (B : Nat) (w : World) (a : Option Addr) (l : List Int) : Prop := (a = none ∧ l = []) ∨ ∃ (g : Nat) (cur : Array Value), a = some ⟨g, 0, none⟩ ∧ B ≤ g ∧ w.heap[g]? = some (.cells cur 3 (0, 0)) ∧ ∀ (i : Nat) (x : Int), l[i]? = some x → cur[i]? = some (Value.int .i64 x)
theorem FreshI.toV {B : Nat} {w : World} {a : Option Addr} {l : List Int} (h : FreshI B w a l) : kI.V w a l := fun hn => by
  rcases h with ⟨_, e⟩ | ⟨g, cur, rfl, _, h1, h2⟩
  · exact absurd e hn
  · refine ⟨g, 0, rfl, ⟨fun i x hx j u hu => ?_, (Array.getElem?_eq_some_iff.1 h1).1⟩⟩
    have hj : j = 0 ∧ u = .int .i64 x := by
      cases j with
      | zero => exact ⟨rfl, by simpa [kI] using hu.symm⟩
      | succ j => simp [kI] at hu
    obtain ⟨rfl, rfl⟩ := hj
    rw [cell_of_blk h1]
    show cur[0 + i * 1 + 0]? = _
    rw [Nat.mul_one, Nat.add_zero, Nat.zero_add]
    exact h2 i x hx
theorem FreshI.of_at {B b : Nat} {w : World} {L l : List Int} {t : Nat → Nat} (hB : B ≤ b) (h : IAt w b 0 L.length L t) (hl : l = (List.range L.length).map (fun i => L[t i]!)) : FreshI B w (some ⟨b, 0, none⟩) l := by
  obtain ⟨_, cs, h1, h2⟩ := h
  refine .inr ⟨b, cs, rfl, hB, h1, fun i x hx => ?_⟩
  have hi : i < L.length := by have := (List.getElem?_eq_some_iff.1 hx).1; rw [hl] at this; simpa using this
  have e : x = L[t i]! := by
    rw [hl] at hx
    rw [List.getElem?_map, List.getElem?_range hi] at hx
    exact (Option.some.inj hx).symm
  have := h2 i hi
  rw [Nat.zero_add] at this
  rw [this, e]
def VdPost2 (w : World) (l : List Int) (e : Ending) (w' : World) : Prop := ∃ a cap, e = .returned (.slice a l.length cap) ∧ FreshI w.heap.size w' a l ∧ Below w.heap.size w w'
theorem eg_val2 : ∀ args w, (callFunc 137 args).run Tryz.prog w = .ok (.enter 137 args) w := enters_of Tryz.func137 (by kernel_rfl) rfl
theorem eg_val3 : ∀ args w, (callFunc 140 args).run Tryz.prog w = .ok (.enter 140 args) w := enters_of Tryz.func140 (by kernel_rfl) rfl
set_option maxRecDepth 100000 in
set_option maxHeartbeats 2000000 in
theorem gvalued2_any (gb vb eb : Nat) (V : List Vt) (E : List Eg) (lab k : ByteArray) (low high : Vl) (w : World) (h : GrC w gb vb eb V E) (hV : V.length ≤ 1000000) :
    Calls Tryz.prog 58 #[.pointer (some ⟨gb, 0, none⟩), .string lab, .string k, .agg #[.int .i64 low.kind, .int .i64 low.n, .string low.s], .agg #[.int .i64 high.kind, .int .i64 high.n, .string high.s]] w (VdPost2 w (valL V lab k low high)) := by
  obtain ⟨W, hW⟩ : ∃ W, W = (((w.alloc (.cells #[.pointer (some ⟨gb, 0, none⟩)] 24)).alloc (.cells #[.string k] 9)).alloc (.cells #[.int .i64 low.kind, .int .i64 low.n, .string low.s] 98)).alloc (.cells #[.int .i64 high.kind, .int .i64 high.n, .string high.s] 98) := ⟨_, rfl⟩
  obtain ⟨bb, hbb⟩ : ∃ b, b = w.heap.size := ⟨_, rfl⟩
  have hsz : W.heap.size = bb + 4 := by rw [hW, hbb]; simp
  have hBW : Below w.heap.size w W := by rw [hW]; exact (((below_box w _).alloc (by simp) _).alloc (by simp; omega) _).alloc (by simp; omega) _
  have w0 : W.heap[bb]? = some (.cells #[.pointer (some ⟨gb, 0, none⟩)] 24 (0, 0)) := by rw [hW, hbb]; exact (Below.heap_alloc _ _ _ (by simp; omega)).trans ((Below.heap_alloc _ _ _ (by simp; omega)).trans ((Below.heap_alloc _ _ _ (by simp)).trans (heap_new w _)))
  have w1 : W.heap[bb + 1]? = some (.cells #[.string k] 9 (0, 0)) := by rw [hW, hbb]; exact (Below.heap_alloc _ _ _ (by simp)).trans ((Below.heap_alloc _ _ _ (by simp)).trans (heap_new2 w _ _))
  have w2 : W.heap[bb + 2]? = some (.cells #[.int .i64 low.kind, .int .i64 low.n, .string low.s] 98 (0, 0)) := by rw [hW, hbb]; refine (Below.heap_alloc _ _ _ (by simp)).trans ?_; have := heap_new2 (w.alloc (.cells #[.pointer (some ⟨gb, 0, none⟩)] 24)) (.cells #[.string k] 9) (.cells #[.int .i64 low.kind, .int .i64 low.n, .string low.s] 98); simpa using this
  have w3 : W.heap[bb + 3]? = some (.cells #[.int .i64 high.kind, .int .i64 high.n, .string high.s] 98 (0, 0)) := by rw [hW, hbb]; have := heap_new (((w.alloc (.cells #[.pointer (some ⟨gb, 0, none⟩)] 24)).alloc (.cells #[.string k] 9)).alloc (.cells #[.int .i64 low.kind, .int .i64 low.n, .string low.s] 98)) (.cells #[.int .i64 high.kind, .int .i64 high.n, .string high.s] 98); simpa using this
  have HW := Lib.hid hW
  have HBB := Lib.hid hbb
  have HSZ := Lib.hid hsz
  have HBW := Lib.hid hBW
  have HWS := Lib.hid (And.intro w0 (And.intro w1 (And.intro w2 w3)))
  clear hW hbb hsz hBW w0 w1 w2 w3
  go_enter Tryz.func58, Tryz.ntmps58
  go_upto_region 1 with fail
  rw [← HW.out, ← HBB.out]
  go_upto_region 2 with fail
  obtain ⟨U, hU⟩ : ∃ U, U = W.alloc (.cells #[.func (.func 134) #[] #[.pointer (some ⟨bb, 0, none⟩), .pointer (some ⟨bb + 1, 0, none⟩)]] 228) := ⟨_, rfl⟩
  obtain ⟨ob, hob⟩ : ∃ o, o = W.heap.size := ⟨_, rfl⟩
  have hWU : Below W.heap.size W U := by rw [hU]; exact below_box W _
  have eo : U.heap[ob]? = some (.cells #[.func (.func 134) #[] #[.pointer (some ⟨bb, 0, none⟩), .pointer (some ⟨bb + 1, 0, none⟩)]] 228 (0, 0)) := by rw [hU, hob]; exact heap_new W _
  have hBU : Below w.heap.size w U := below_then HBW.out hWU
  have hlt : ∀ i, i < 4 → bb + i < W.heap.size := fun i hi => by have := HSZ.out; omega
  obtain ⟨w0, w1, w2, w3⟩ := HWS.out
  have u0 := (hWU.block bb (hlt 0 (by omega))).trans w0
  have u1 := (hWU.block _ (hlt 1 (by omega))).trans w1
  have u2 := (hWU.block _ (hlt 2 (by omega))).trans w2
  have u3 := (hWU.block _ (hlt 3 (by omega))).trans w3
  have hVX : VX U bb (bb + 1) ob gb vb eb V E k := ⟨h.below hBU, by rw [cell_of_blk u0]; rfl, by rw [cell_of_blk u1]; rfl, by rw [cell_of_blk eo]; rfl⟩
  have hLo : VlAt U (bb + 1 + 1) low := ⟨by rw [cell_of_blk u2]; rfl, by rw [cell_of_blk u2]; rfl, by rw [cell_of_blk u2]; rfl⟩
  have hHi : VlAt U (bb + 1 + 1 + 1) high := ⟨by rw [cell_of_blk u3]; rfl, by rw [cell_of_blk u3]; rfl, by rw [cell_of_blk u3]; rfl⟩
  have hlb := glabeled_any gb vb eb V E lab U hVX.gr hV
  have b0 := hVX.b
  have HLB := Lib.hid hlb
  have HVX := Lib.hid hVX
  have HLH := Lib.hid (And.intro hLo hHi)
  have HBU := Lib.hid hBU
  rw [← hU, ← hob]
  clear w0 w1 w2 w3 u0 u1 u2 u3 hVX hLo hHi hlb hBU hU hob hWU eo hlt h HW HBB HSZ HBW HWS
  obtain ⟨LL, hLL⟩ : ∃ l, l = labL V lab := ⟨_, rfl⟩
  have hLn : LL.length ≤ 1000000 := by rw [hLL]; exact Nat.le_trans (labL_len V lab) hV
  have HLL := Lib.hid hLL
  obtain ⟨L9, hL9⟩ : ∃ l, l = spanL V lab k low high := ⟨_, rfl⟩
  have HL9 := Lib.hid hL9
  have HLM : Hid (∀ x ∈ LL, ∃ y ∈ V, y.id = x) := Lib.hid (by rw [hLL]; exact fun x hx => labL_mem hx)
  rw [← hLL] at HLB
  clear hLL hL9
  go_upto_region 3 with first | (go_at_call 62; (with_reducible refine HLB.out.mono ?_); rintro e wa ⟨va, rfl, oa, ba⟩; have HBa := Lib.hid ba; have HOA := Lib.hid oa; clear oa ba) | fail
  have HSZ : Hid (U.heap.size ≤ wa.heap.size) := Lib.hid HBa.out.size
  have HWS : Hid (w.heap.size ≤ U.heap.size) := Lib.hid HBU.out.size
  obtain ⟨_, hva⟩ := HOA.out
  rcases hva with ⟨hv, hn⟩ | ⟨g, cap, cur, hv, hg, _⟩
  · subst hv
    have HN : Hid (valL V lab k low high = []) := Lib.hid (by
      have e := List.eq_nil_of_length_eq_zero hn
      unfold valL spanL
      rw [← HLL.out, e]; rfl)
    clear hn HOA
    refine (delI_nil 137 #[.pointer (some ⟨ob, 0, none⟩), .pointer (some ⟨bb + 1 + 1, 0, none⟩), .pointer (some ⟨bb + 1 + 1 + 1, 0, none⟩)] wa eg_val2).mono ?_
    rintro e wb ⟨rfl, hb2⟩
    have HB2 : Hid (Below w.heap.size w wb) := Lib.hid (below_then (below_then HBU.out HBa.out) hb2)
    clear hb2
    go_upto_region 4 with (go_at_call 139; refine (stabI_nil _ _).mono ?_; rintro e wc ⟨rfl, rfl⟩)
    go_wp2_with fail
    go_ret
    rw [HN.out]
    exact ⟨none, 0, rfl, .inl ⟨rfl, rfl⟩, HB2.out⟩
  · subst hv
    have HGB := Lib.hid hg
    have hd := delI_by 137 #[.pointer (some ⟨ob, 0, none⟩), .pointer (some ⟨bb + 1 + 1, 0, none⟩), .pointer (some ⟨bb + 1 + 1 + 1, 0, none⟩)] (fun id => outS (vo (getV V id) k) (vq (getV V id) k) low high) g cap LL wa U.heap.size eg_val2 HOA.out hLn (fun W' id hid hc => by
      obtain ⟨y, hy, rfl⟩ := HLM.out id hid
      have hb' : Below U.heap.size U W' := HBa.out.trans (hc.below HBa.out.size (fun j e => by subst e; exact HGB.out))
      rw [getV_mem HVX.out.gr.ok.sv hy]
      exact valued2_any bb (bb + 1) ob (bb + 1 + 1) (bb + 1 + 1 + 1) gb vb eb V E y k low high W' (HVX.out.below hb') hy (HLH.out.1.below hb') (HLH.out.2.below hb'))
    have HD := Lib.hid hd
    clear hd hg
    refine HD.out.mono ?_
    intro e wb hh
    unfold DlPost at hh
    have e9 : LL.filter (fun x => !outS (vo (getV V x) k) (vq (getV V x) k) low high) = L9 := by rw [HL9.out, HLL.out]; rfl
    rw [e9] at hh
    have HOB := Lib.hid hh.2.1
    have HCB := Lib.hid hh.2.2
    obtain rfl := hh.1
    clear hh e9 HD
    have hbb : Below U.heap.size U wb := HBa.out.trans (HCB.out.below HBa.out.size (fun j e => by subst e; exact HGB.out))
    have hcm : CmpOk 140 #[.pointer (some ⟨ob, 0, none⟩)] g L9.length L9 (fun i => keyV V L9 k L9[i]!) wb := fun u hu i j hi hj => by
      have hbu : Below U.heap.size U u := hbb.trans (hu.below hbb.size (fun j e => by subst e; exact HGB.out))
      have hm : ∀ i, i < L9.length → L9[i]! ∈ L9 := fun i hi => by rw [getElem!_pos L9 i hi]; exact List.getElem_mem hi
      have hm2 : ∀ x ∈ L9, ∃ y ∈ V, y.id = x := fun x hx => HLM.out x (by rw [HL9.out] at hx; rw [HLL.out]; exact (List.mem_filter.1 hx).1)
      obtain ⟨y, hy, ey⟩ := hm2 _ (hm i hi)
      obtain ⟨z, hz, ez⟩ := hm2 _ (hm j hj)
      have hr := rankV_lt (l := L9.map fun z => vo (getV V z) k) (x := vo (getV V L9[i]!) k) (y := vo (getV V L9[j]!) k) (List.mem_map.2 ⟨_, hm i hi, rfl⟩)
      have e1 : getV V L9[i]! = y := by rw [← ey]; exact getV_mem HVX.out.gr.ok.sv hy
      have e2 : getV V L9[j]! = z := by rw [← ez]; exact getV_mem HVX.out.gr.ok.sv hz
      rw [← ey, ← ez]
      refine (valued3_any bb (bb + 1) ob gb vb eb V E y z k u (HVX.out.below hbu) hy hz).mono ?_
      rintro e w' ⟨rfl, hb⟩
      refine ⟨_, rfl, ?_, hb⟩
      rw [e1, e2] at hr
      show decide _ = decide (rankV _ (vo (getV V L9[i]!) k) < rankV _ (vo (getV V L9[j]!) k))
      rw [e1, e2]
      exact decide_eq_decide.2 hr.symm
    have hst := stabI_any 140 #[.pointer (some ⟨ob, 0, none⟩)] (fun i => keyV V L9 k L9[i]!) eg_val3 g 0 cap L9.length L9 wb (IAt.of_own HOB.out) hcm (by rw [HL9.out]; exact Nat.le_trans (List.length_filter_le _ _) (by rw [← HLL.out]; exact hLn))
    have HST := Lib.hid hst
    have HBB := Lib.hid hbb
    clear hst hcm hbb
    go_upto_region 4 with (go_at_call 139; (with_reducible refine HST.out.mono ?_); rintro e wc ⟨rfl, t, q1, q2, q3, q4⟩)
    have HF : Hid (VdPost2 w (valL V lab k low high) (.returned (.slice (some ⟨g, 0, none⟩) L9.length cap)) wc) := Lib.hid (by
      have e := Srt.srt_sortK (keyV V L9 k) L9 q4 q3
      have e2 : valL V lab k low high = Srt.sortK (keyV V L9 k) L9 := by unfold valL; rw [← HL9.out]
      have e3 : (valL V lab k low high).length = L9.length := by rw [e2]; exact (sortK_perm _ _).length_eq
      have hbc : Below U.heap.size U wc := HBB.out.trans (q2.below HBB.out.size (fun j e => by subst e; exact HGB.out))
      exact ⟨_, _, by rw [e3], by rw [e2]; exact FreshI.of_at (Nat.le_trans HWS.out (by obtain ⟨_, _, _, _, _, hB9, _⟩ := ownI_blk HOB.out; exact hB9)) q1 e.symm, HBU.out.trans (hbc.mono HWS.out)⟩)
    clear q1 q2 q3 q4
    go_wp2_with fail
    go_ret
    exact HF.out
theorem gvalued_any (gb vb eb : Nat) (V : List Vt) (E : List Eg) (lab k : ByteArray) (low high : Vl) (w : World) (h : GrC w gb vb eb V E) (hV : V.length ≤ 1000000) :
    Calls Tryz.prog 58 #[.pointer (some ⟨gb, 0, none⟩), .string lab, .string k, .agg #[.int .i64 low.kind, .int .i64 low.n, .string low.s], .agg #[.int .i64 high.kind, .int .i64 high.n, .string high.s]] w (VdPost w (valL V lab k low high)) := by
  refine (gvalued2_any gb vb eb V E lab k low high w h hV).mono ?_
  rintro e w' ⟨a, cap, rfl, hf, hb⟩
  exact ⟨a, cap, rfl, hf.toV, hb⟩
end Go.Proofs.YtonilojjahfboaaGreat
namespace Go.Proofs.YtonilojjahfboaaGreat
open Go.RowKit Go.Maps

theorem labL_iff {V : List Vt} (hs : SortB Vt.id V) {y : Vt} (hy : y ∈ V) (lab : ByteArray) : y.id ∈ labL V lab ↔ y.label = lab := by
  constructor
  · intro h
    obtain ⟨z, hz, e⟩ := List.mem_map.1 h
    obtain ⟨h1, h2⟩ := List.mem_filter.1 hz
    have e1 := getV_mem hs hy
    have e2 := getV_mem hs h1
    rw [e, e1] at e2
    rw [e2]; exact of_decide_eq_true h2
  · intro h
    exact List.mem_map.2 ⟨y, List.mem_filter.2 ⟨hy, decide_eq_true h⟩, rfl⟩
theorem valL_iff {V : List Vt} (hs : SortB Vt.id V) {y : Vt} (hy : y ∈ V) (lab k : ByteArray) (low high : Vl) : y.id ∈ valL V lab k low high ↔ y.label = lab ∧ outS (vo y k) (vq y k) low high = false := by
  unfold valL
  rw [(sortK_perm _ _).mem_iff]
  unfold spanL
  rw [List.mem_filter, labL_iff hs hy, getV_mem hs hy]
  simp
theorem valL_len (V : List Vt) (lab k : ByteArray) (low high : Vl) : (valL V lab k low high).length ≤ V.length := by
  unfold valL
  rw [(sortK_perm _ _).length_eq]
  exact Nat.le_trans (List.length_filter_le _ _) (labL_len V lab)
/-- what the law reckons -/
theorem valL_in {V : List Vt} (hs : SortB Vt.id V) {y : Vt} (hy : y ∈ V) (lab k : ByteArray) (low high : Vl) : decide (y.id ∈ valL V lab k low high) = (vq y k && (decide (y.label = lab) && (decide (0 ≤ (vo y k).cmp low) && decide ((vo y k).cmp high ≤ 0)))) := by
  have h := valL_iff hs hy lab k low high
  have h1 : decide (0 ≤ (vo y k).cmp low) = !decide ((vo y k).cmp low < 0) := by
    by_cases e : (vo y k).cmp low < 0
    · rw [decide_eq_true e, decide_eq_false (by omega)]; rfl
    · rw [decide_eq_false e, decide_eq_true (by omega)]; rfl
  have h2 : decide ((vo y k).cmp high ≤ 0) = !decide (0 < (vo y k).cmp high) := by
    by_cases e : 0 < (vo y k).cmp high
    · rw [decide_eq_true e, decide_eq_false (by omega)]; rfl
    · rw [decide_eq_false e, decide_eq_true (by omega)]; rfl
  rw [h1, h2]
  by_cases e : y.label = lab
  · rw [decide_eq_true e]
    unfold outS at h
    cases hq : vq y k <;> cases hc1 : decide ((vo y k).cmp low < 0) <;> cases hc2 : decide (0 < (vo y k).cmp high) <;> rw [hq, hc1, hc2] at h <;> simp [h, e]
  · rw [decide_eq_false e, decide_eq_false (fun hm => e (h.1 hm).1)]
    simp
/-- each vertex is found by its own -/
theorem valL_own {V : List Vt} (hs : SortB Vt.id V) {y : Vt} (hy : y ∈ V) (hc : rightPs y.ps = true) {p : Pr} (hp : p ∈ y.ps) : decide (y.id ∈ valL V y.label p.key p.v p.v) = true := by
  refine decide_eq_true ((valL_iff hs hy _ _ _ _).2 ⟨rfl, ?_⟩)
  have hg := (rightPs_iff.1 hc).1.get hp
  have e1 : vo y p.key = p.v := by unfold vo; rw [hg]
  have e2 : vq y p.key = true := by unfold vq; rw [hg]; rfl
  have e3 := Vl.cmpN p.v p.v
  unfold outS
  rw [e1, e2, decide_eq_false (by omega), decide_eq_false (by omega)]
  rfl
theorem vo_ok {y : Vt} (h : ∀ p ∈ y.ps, p.Ok) (k : ByteArray) : (vo y k).Ok := by
  unfold vo getP
  cases hf : y.ps.find? (fun p => decide (p.key = k)) with
  | none => exact ⟨show I64 0 by unfold I64; omega, show I64 0 by unfold I64; omega, Nat.zero_le _⟩
  | some p => exact (h p (List.mem_of_find?_eq_some hf)).v
end Go.Proofs.YtonilojjahfboaaGreat
