/- A graph's elements taken out, plainly and in the maps. Conditions: each lemma's own premises. graph.Drop. Conditions: the contract's own premises. -/
import Derived.Test.YtonilojjahfboaaGreatGiA
import Derived.Deep.CutBlock
namespace Go.Proofs.YtonilojjahfboaaGreat
open Go.RowKit Go.Maps

section
variable {α : Type} {key : α → Int}
/-- one less, by its key -/
def offB (key : α → Int) (l : List α) (n : Int) : List α := l.filter (fun y => key y != n)
theorem mem_offB {l : List α} {n : Int} {y : α} : y ∈ offB key l n ↔ y ∈ l ∧ key y ≠ n := by
  unfold offB
  rw [List.mem_filter]
  simp
theorem sort_offB {l : List α} {n : Int} (h : SortB key l) : SortB key (offB key l n) := h.filter _
theorem find_offB {l : List α} {n m : Int} : findB key (offB key l n) m = if m = n then none else findB key l m := by
  by_cases e : m = n
  · rw [if_pos e]
    exact findB_none.2 (fun y hy h => (mem_offB.1 hy).2 (h.trans e))
  · rw [if_neg e]
    induction l with
    | nil => rfl
    | cons y t ih =>
      unfold offB findB at *
      by_cases h : key y = n
      · rw [List.filter_cons_of_neg (by simp [h]), List.find?_cons_of_neg (by simp [h, Ne.symm e]), ih]
      · rw [List.filter_cons_of_pos (by simp [h]), List.find?_cons, List.find?_cons, ih]
theorem len_offB {l : List α} {n : Int} (hs : SortB key l) : (offB key l n).length + (if (findB key l n).isSome then 1 else 0) = l.length := by
  induction l with
  | nil => rfl
  | cons y t ih =>
    obtain ⟨h1, h2⟩ := List.pairwise_cons.1 hs
    have := ih h2
    unfold offB findB at *
    by_cases h : key y = n
    · have hn : t.find? (fun z => key z == n) = none := List.find?_eq_none.2 (fun z hz => by have := h1 z hz; simp; omega)
      rw [hn] at this
      rw [List.filter_cons_of_neg (by simp [h]), List.find?_cons_of_pos (by simp [h])]
      simp at this ⊢
      omega
    · rw [List.filter_cons_of_pos (by simp [h]), List.find?_cons_of_neg (by simp [h])]
      simp only [List.length_cons]
      omega
theorem off_none {l : List α} {n : Int} (h : findB key l n = none) : offB key l n = l := by
  unfold offB
  rw [List.filter_eq_self]
  intro y hy
  simpa using findB_none.1 h y hy
end
/-- edges of which the ids are not these -/
def remE (E : List Eg) (ks : List Int) : List Eg := ks.foldl (offB Eg.id) E
theorem remE_snoc (E : List Eg) (ks : List Int) (k : Int) : remE E (ks ++ [k]) = offB Eg.id (remE E ks) k := by unfold remE; rw [List.foldl_append]; rfl
theorem remE_eq : ∀ (ks : List Int) (E : List Eg), remE E ks = E.filter (fun e => decide (e.id ∉ ks))
  | [], E => by
    show E = E.filter _
    rw [List.filter_eq_self.2]
    intro e _
    simp
  | k :: ks, E => by
    show remE (offB Eg.id E k) ks = _
    rw [remE_eq ks]
    unfold offB
    rw [List.filter_filter]
    congr 1
    funext e
    by_cases h : e.id = k <;> simp [h]
/-- is a vertex an edge's end? -/
def touchP (n : Int) (e : Eg) : Bool := outP n e || inP n e
theorem gone_eq {E : List Eg} (hs : SortB Eg.id E) (n : Int) : setI (idsE E (outP n) ++ idsE E (inP n)) = idsE E (touchP n) := by
  obtain ⟨h1, h2⟩ := setI_spec (idsE E (outP n) ++ idsE E (inP n))
  refine incI_uniq h1 (idsE_inc hs _) (fun k => ?_)
  rw [h2, List.mem_append]
  unfold idsE touchP
  simp only [List.mem_map, List.mem_filter, Bool.or_eq_true]
  constructor
  · rintro (⟨x, ⟨g1, g2⟩, g3⟩ | ⟨x, ⟨g1, g2⟩, g3⟩)
    · exact ⟨x, ⟨g1, .inl g2⟩, g3⟩
    · exact ⟨x, ⟨g1, .inr g2⟩, g3⟩
  · rintro ⟨x, ⟨g1, g2 | g2⟩, g3⟩
    · exact .inl ⟨x, ⟨g1, g2⟩, g3⟩
    · exact .inr ⟨x, ⟨g1, g2⟩, g3⟩
theorem rem_touch {E : List Eg} (hs : SortB Eg.id E) (n : Int) : remE E (idsE E (touchP n)) = E.filter (fun e => !touchP n e) := by
  rw [remE_eq]
  refine List.filter_congr (fun e he => ?_)
  have : e.id ∈ idsE E (touchP n) ↔ touchP n e = true := by
    unfold idsE
    simp only [List.mem_map, List.mem_filter]
    constructor
    · rintro ⟨x, ⟨g1, g2⟩, g3⟩
      rw [← sortB_inj hs g1 he g3]
      exact g2
    · intro g
      exact ⟨e, ⟨he, g⟩, rfl⟩
  by_cases h : touchP n e = true
  · simp [this.2 h, h]
  · have h2 : e.id ∉ idsE E (touchP n) := fun g => h (this.1 g)
    simp [h2, h]
theorem PGo.offE {V : List Vt} {E : List Eg} (h : PGo V E) (p : Eg → Bool) : PGo V (E.filter p) :=
  ⟨h.sv, h.se.filter p, h.v, fun e he => h.e e (List.mem_filter.1 he).1, fun e he => h.ends e (List.mem_filter.1 he).1⟩
theorem PGo.offV {V : List Vt} {E : List Eg} (h : PGo V E) (n : Int) : PGo (offB Vt.id V n) (E.filter (fun e => !touchP n e)) := by
  refine ⟨sort_offB h.sv, h.se.filter _, fun v hv => h.v v (mem_offB.1 hv).1, fun e he => h.e e (List.mem_filter.1 he).1, fun e he => ?_⟩
  obtain ⟨h1, h2⟩ := List.mem_filter.1 he
  obtain ⟨⟨a, ha, ea⟩, b, hb, eb⟩ := h.ends e h1
  simp [touchP, outP, inP] at h2
  exact ⟨⟨a, mem_offB.2 ⟨ha, by rw [ea]; exact h2.1⟩, ea⟩, b, mem_offB.2 ⟨hb, by rw [eb]; exact h2.2⟩, eb⟩
/-- what Drop answers, and leaves -/
noncomputable def dropG (V : List Vt) (E : List Eg) (edge : Bool) (n : Int) : Int × List Int × List Vt × List Eg :=
  if edge then (if (findB Eg.id E n).isSome then (0, [n], V, offB Eg.id E n) else (101, [], V, E))
  else if (findB Vt.id V n).isSome then (0, idsE E (touchP n), offB Vt.id V n, E.filter (fun e => !touchP n e)) else (101, [], V, E)
open Classical in
theorem VmOk.off {w : World} {f : Lit → Option Value} {V : List Vt} (h : VmOk w f V) (n : Int) : VmOk w (upd f (.int .i64 n) none) (offB Vt.id V n) := by
  refine ⟨fun m hm hf => ?_, fun y hy => ?_⟩
  · rw [find_offB] at hf
    unfold upd
    by_cases e : m = n
    · rw [e, if_pos rfl]
    · rw [if_neg e] at hf
      rw [if_neg (fun e2 => e (lit_int.1 e2))]
      exact h.no m hm hf
  · obtain ⟨h1, h2⟩ := mem_offB.1 hy
    obtain ⟨a, c, h3, h4⟩ := h.yes y h1
    refine ⟨a, c, ?_, h4⟩
    unfold upd
    rw [if_neg (fun e2 => h2 (lit_int.1 e2))]
    exact h3
open Classical in
theorem EmOk.off {w : World} {f : Lit → Option Value} {E : List Eg} (h : EmOk w f E) (n : Int) : EmOk w (upd f (.int .i64 n) none) (offB Eg.id E n) := by
  refine ⟨fun m hm hf => ?_, fun y hy => ?_⟩
  · rw [find_offB] at hf
    unfold upd
    by_cases e : m = n
    · rw [e, if_pos rfl]
    · rw [if_neg e] at hf
      rw [if_neg (fun e2 => e (lit_int.1 e2))]
      exact h.no m hm hf
  · obtain ⟨h1, h2⟩ := mem_offB.1 hy
    obtain ⟨a, c, h3, h4⟩ := h.yes y h1
    refine ⟨a, c, ?_, h4⟩
    unfold upd
    rw [if_neg (fun e2 => h2 (lit_int.1 e2))]
    exact h3
/-- a graph's maps in memory, of which edges may dangle -/
structure GrM (w : World) (gb vb eb : Nat) (V : List Vt) (E : List Eg) : Prop where
  blk : w.heap[gb]? = some (.cells #[.map (some vb), .map (some eb)] 166 (0, 0))
  vm : ∃ f, mapR w Tryz.prog 3 vb V.length f ∧ VmOk w f V
  em : ∃ f, mapR w Tryz.prog 3 eb E.length f ∧ EmOk w f E
  sv : SortB Vt.id V
  se : SortB Eg.id E
  ne : vb ≠ eb ∧ gb ≠ vb ∧ gb ≠ eb
section
variable {w w' : World} {gb vb eb : Nat} {V : List Vt} {E : List Eg}
theorem GrC.m (h : GrC w gb vb eb V E) : GrM w gb vb eb V E := ⟨h.blk, h.vm, h.em, h.ok.sv, h.ok.se, h.ne, h.neG⟩
theorem GrM.c (h : GrM w gb vb eb V E) (ok : PGo V E) : GrC w gb vb eb V E := ⟨h.blk, h.vm, h.em, ok, h.ne.1⟩
theorem GrM.lt (h : GrM w gb vb eb V E) : gb < w.heap.size := (Array.getElem?_eq_some_iff.1 h.blk).1
theorem GrM.below (h : GrM w gb vb eb V E) (hb : Below w.heap.size w w') : GrM w' gb vb eb V E := by
  obtain ⟨f, m, hf⟩ := h.vm
  obtain ⟨g, n, hg⟩ := h.em
  exact ⟨(hb.block _ h.lt).trans h.blk, ⟨f, m.of_block (hb.block _ m.lt), hf.below hb⟩, ⟨g, n.of_block (hb.block _ n.lt), hg.below hb⟩, h.sv, h.se, h.ne⟩
theorem GrM.dropV (h : GrM w gb vb eb V E) {n : Int} (hi : I64 n) {f : Lit → Option Value} (hf : VmOk w f V) {n' : Nat} (e1 : n' + (if (f (.int .i64 n)).isSome then 1 else 0) = V.length) (m2 : mapR w' Tryz.prog 3 vb n' (upd f (.int .i64 n) none)) (t2 : w.mapTurned w' vb) :
    GrM w' gb vb eb (offB Vt.id V n) E := by
  have hz := turned_size t2
  have hcl := turned_cell t2
  obtain ⟨g, k, hg⟩ := h.em
  have hl := len_offB (n := n) h.sv
  rw [hf.some hi] at e1
  have en : n' = (offB Vt.id V n).length := by omega
  rw [en] at m2
  exact ⟨(turned_block t2 h.ne.2.1).trans h.blk, ⟨_, m2, (hf.stay hcl (Nat.le_of_eq hz.symm)).off n⟩, ⟨g, k.of_block (turned_block t2 h.ne.1.symm), hg.stay hcl (Nat.le_of_eq hz.symm)⟩, sort_offB h.sv, h.se, h.ne⟩
theorem GrM.dropE (h : GrM w gb vb eb V E) {n : Int} (hi : I64 n) {f : Lit → Option Value} (hf : EmOk w f E) {n' : Nat} (e1 : n' + (if (f (.int .i64 n)).isSome then 1 else 0) = E.length) (m2 : mapR w' Tryz.prog 3 eb n' (upd f (.int .i64 n) none)) (t2 : w.mapTurned w' eb) :
    GrM w' gb vb eb V (offB Eg.id E n) := by
  have hz := turned_size t2
  have hcl := turned_cell t2
  obtain ⟨g, k, hg⟩ := h.vm
  have hl := len_offB (n := n) h.se
  rw [hf.some hi] at e1
  have en : n' = (offB Eg.id E n).length := by omega
  rw [en] at m2
  exact ⟨(turned_block t2 h.ne.2.2).trans h.blk, ⟨g, k.of_block (turned_block t2 h.ne.1), hg.stay hcl (Nat.le_of_eq hz.symm)⟩, ⟨_, m2, (hf.stay hcl (Nat.le_of_eq hz.symm)).off n⟩, h.sv, sort_offB h.se, h.ne⟩
end
end Go.Proofs.YtonilojjahfboaaGreat
namespace Go.Proofs.YtonilojjahfboaaGreat
open Go.RowKit Go.Maps

def DpPost (w : World) (gb vb eb : Nat) (V : List Vt) (E : List Eg) (edge : Bool) (n : Int) (e : Ending) (w' : World) : Prop :=
  ∃ v, e = .returned (.tuple #[v, .int .i64 (dropG V E edge n).1]) ∧ kI.Own w' w.heap.size v (dropG V E edge n).2.1 ∧ GrC w' gb vb eb (dropG V E edge n).2.2.1 (dropG V E edge n).2.2.2 ∧ Chg w w' (fun i => i = vb ∨ i = eb)
theorem own_none_cap {w : World} {B n cap : Nat} {l : List Int} (h : kI.Own w B (.slice none n cap) l) : cap = 0 := by
  rcases h.2 with ⟨h1, _⟩ | ⟨g, cp, cur, h1, _⟩
  · injection h1
  · injection h1 with e1; cases e1
theorem below_grownI {w w' : World} {B : Nat} {v : Value} {l : List Int} (h : kI.Own w B v l) (hg : w.grownBy w' v.ownBlock) (hB : B ≤ w.heap.size) : Below B w w' :=
  ⟨hg.os, hg.tape, hg.output, hg.size, fun k hk => hg.block k (by omega) (fun e => by have := (h.lt k e.symm).1; omega)⟩
set_option maxRecDepth 100000 in
set_option maxHeartbeats 8000000 in
theorem gdrop_any (gb vb eb : Nat) (V : List Vt) (E : List Eg) (edge : Bool) (n : Int) (w : World) (h : GrC w gb vb eb V E) (hn : I64 n) (hE : E.length ≤ 500000) :
    Calls Tryz.prog 81 #[.pointer (some ⟨gb, 0, none⟩), .bool edge, .int .i64 n] w (DpPost w gb vb eb V E edge n) := by
  obtain ⟨a1, p1, hlv, _, _⟩ := look_v h hn
  obtain ⟨y, hy⟩ : ∃ y, y = getV V n := ⟨_, rfl⟩
  obtain ⟨k1, hk1⟩ : ∃ k, k = (findB Vt.id V n).isSome := ⟨_, rfl⟩
  rw [← hy, ← hk1] at hlv
  have h1 := h.below (below_box w (.cells #[.int .i64 y.id, .string y.label, .slice a1 y.ps.length p1] 28))
  obtain ⟨a2, p2, hle, _, _⟩ := look_e h1 hn
  obtain ⟨z, hz⟩ : ∃ z, z = getE E n := ⟨_, rfl⟩
  obtain ⟨k2, hk2⟩ : ∃ k, k = (findB Eg.id E n).isSome := ⟨_, rfl⟩
  rw [← hz, ← hk2] at hle
  obtain ⟨W1, hW1⟩ : ∃ W1, W1 = w.alloc (.cells #[.int .i64 y.id, .string y.label, .slice a1 y.ps.length p1] 28) := ⟨_, rfl⟩
  obtain ⟨W2, hW2⟩ : ∃ W2, W2 = W1.alloc (.cells #[.int .i64 z.id, .string z.label, .int .i64 z.fr, .int .i64 z.to, .slice a2 z.ps.length p2] 30) := ⟨_, rfl⟩
  rw [← hW1] at hle h1
  have HB1 : Hid (Below w.heap.size w W1) := Lib.hid (by rw [hW1]; exact below_box w _)
  have HB2 : Hid (Below w.heap.size w W2) := Lib.hid (by rw [hW2]; exact HB1.out.alloc HB1.out.size _)
  have HG2 : Hid (GrC W2 gb vb eb V E) := Lib.hid (h.below HB2.out)
  have c0 : w.cell? ⟨gb, 0, none⟩ = some (.map (some vb)) := by rw [cell_of_blk h.blk]; rfl
  have c1 : W1.cell? ⟨gb, 1, none⟩ = some (.map (some eb)) := by rw [cell_of_blk h1.blk]; rfl
  have zg := h.lt
  have zg1 := h1.lt
  have HGC := Lib.hid h
  have HN := Lib.hid hn
  have HE := Lib.hid hE
  have HK1 := Lib.hid hk1
  have HK2 := Lib.hid hk2
  have HW1 := Lib.hid hW1.symm
  have HW2 := Lib.hid hW2.symm
  clear h h1 hn hE hy hz hk1 hk2 hW1 hW2
  unfold Vt.val at hlv
  unfold Eg.val at hle
  go_enter Tryz.func81, Tryz.ntmps81
  go_upto_region 2 with fail
  rw [HW1.out]
  go_upto_region 3 with fail
  rw [HW2.out]
  clear hlv hle c0 c1 zg zg1
  cases edge
  case true =>
    cases k2
    case false =>
      have HDG : Hid (dropG V E true n = (101, [], V, E)) := Lib.hid (by unfold dropG; rw [if_pos rfl, ← HK2.out]; rfl)
      go_wp2_with fail
      go_ret2
      unfold DpPost
      rw [HDG.out]
      exact ⟨_, rfl, RowK.Own.nil kI _ _, HG2.out, Chg.of_below HB2.out _⟩
    case true =>
      have HDG : Hid (dropG V E true n = (0, [n], V, offB Eg.id E n)) := Lib.hid (by unfold dropG; rw [if_pos rfl, ← HK2.out]; rfl)
      obtain ⟨W3, hW3⟩ : ∃ W3, W3 = W2.alloc (.cells #[.int .i64 n] 3) := ⟨_, rfl⟩
      obtain ⟨ga, hga⟩ : ∃ ga : Option Addr, ga = some ⟨W2.heap.size, 0, none⟩ := ⟨_, rfl⟩
      obtain ⟨nl, hnl⟩ : ∃ nl, nl = 1 := ⟨_, rfl⟩
      obtain ⟨gc, hgc⟩ : ∃ gc, gc = 1 := ⟨_, rfl⟩
      have HO : Hid (kI.Own W3 w.heap.size (.slice ga nl gc) [n]) := Lib.hid (by rw [hW3, hga, hnl, hgc]; exact RowK.Own.new (k := kI) (l := [n]) (heap_new W2 _) HB2.out.size rfl (by show 1 ≤ maxLen; decide))
      have HM : Hid (GrM W3 gb vb eb V E) := Lib.hid (by rw [hW3]; exact (HG2.out.below (below_box W2 _)).m)
      have HC : Hid (Chg w W3 (fun i => i = vb ∨ i = eb)) := Lib.hid (by rw [hW3]; exact Chg.of_below (HB2.out.alloc HB2.out.size _) _)
      have HNL : Hid (nl = [n].length) := Lib.hid (by rw [hnl]; rfl)
      have HNL9 : Hid (nl ≤ 1000000) := Lib.hid (by omega)
      have HLI : Hid (∀ x ∈ [n], I64 x) := Lib.hid (fun x hx => (show x = n by simpa using hx) ▸ HN.out)
      have HW3 := Lib.hid hW3.symm
      have HSV : Hid (Value.slice (some ⟨W2.heap.size, 0, none⟩) 1 1 = .slice ga nl gc) := Lib.hid (by simp [hga, hnl, hgc])
      clear hW3 hga hnl hgc
      go_upto_region 10 with fail
      rw [HW3.out, HSV.out]
      go_wp2_with fail
      go_loopw [63] (fun iv wr => ∃ i : Nat, iv = .int .i64 (i : Int) ∧ i ≤ nl ∧ Hid (GrM wr gb vb eb V (remE E (([n]).take i))) ∧ Hid (kI.Own wr w.heap.size (.slice ga nl gc) ([n])) ∧ Hid (Chg w wr (fun i => i = vb ∨ i = eb))) (fun iv _ => nl - (intOf iv).toNat)
      case atStart => exact ⟨0, rfl, Nat.zero_le _, HM, HO, HC⟩
      case round =>
        obtain ⟨i, rfl, hi, HM, HO, HC⟩ := hrel
        have hnl9 := HNL9.out
        by_cases hlt : i < nl
        · obtain ⟨x, hx⟩ : ∃ x, ([n])[i]? = some x := ⟨_, List.getElem?_eq_getElem (by have := HNL.out; omega)⟩
          have hxi : I64 x := HLI.out x (List.mem_of_getElem? hx)
          obtain ⟨lb, lcap, hsl, hlb, _, hat⟩ := HO.out.at' (fun e => by rw [e] at hx; simp at hx)
          injection hsl with e1 e2 e3
          subst e1
          have x0 := hat.cells i x hx 0 _ rfl
          simp [kI] at x0
          have zl := hat.lt
          have c1 : wr.cell? ⟨gb, 1, none⟩ = some (.map (some eb)) := by rw [cell_of_blk HM.out.blk]; rfl
          have zg := HM.out.lt
          obtain ⟨f, m, hf⟩ := HM.out.em
          have HFF := Lib.hid hf
          have HX := Lib.hid hx
          have HXI := Lib.hid hxi
          clear hx hxi hat e2 e3 hf hlb
          go_wp2_with (at_delete; refine wpList_drop _ rfl _ _ 164 3 rfl 30 lawI Tryz.underlying164 eb _ f rfl m _ _ rfl (keyI HXI.out) ?_; intro w2 n' hn' m2 t2 d2 f2 z2)
          have hM2 := HM.out.dropE HXI.out HFF.out hn' m2 t2
          rw [← remE_snoc] at hM2
          have hT : ([n]).take (i + 1) = ([n]).take i ++ [x] := by rw [List.take_add_one, HX.out]; rfl
          refine ⟨⟨i + 1, by simp, hlt, Lib.hid (by rw [hT]; exact hM2), Lib.hid (ownsRow_of_block HO.out (fun j hj => turned_block t2 (fun e => by have h1 := (HO.out.lt j hj).1; have h2 := HGC.out.ltE; omega))), Lib.hid (HC.out.turned t2 (fun _ => .inr rfl))⟩, by simp [intOf]; omega⟩
        · have hin : i = nl := by omega
          have ti : decide ((i : Int) < (nl : Int)) = false := decide_eq_false (by omega)
          go_wp2_with fail
          go_ret2
          have hT : ([n]).take i = [n] := List.take_of_length_le (by have := HNL.out; omega)
          have hM := HM.out
          rw [hT] at hM
          unfold DpPost
          rw [HDG.out]
          refine ⟨_, rfl, HO.out, ?_, HC.out⟩
          exact hM.c (HGC.out.ok.offE _)

  case false =>
    cases k1
    case false =>
      have HDG : Hid (dropG V E false n = (101, [], V, E)) := Lib.hid (by unfold dropG; rw [if_neg (by decide), ← HK1.out]; rfl)
      go_wp2_with fail
      go_ret2
      unfold DpPost
      rw [HDG.out]
      exact ⟨_, rfl, RowK.Own.nil kI _ _, HG2.out, Chg.of_below HB2.out _⟩
    case true =>
      have HDG : Hid (dropG V E false n = (0, idsE E (touchP n), offB Vt.id V n, E.filter (fun e => !touchP n e))) := Lib.hid (by unfold dropG; rw [if_neg (by decide), ← HK1.out]; rfl)
      go_wp2_with fail
      refine (gout_any gb vb eb V E n W2 HG2.out (by have := HE.out; omega)).mono ?_
      rintro e w3 ⟨v1, rfl, o1, b1⟩
      have HO1 := Lib.hid o1
      have HG3 := Lib.hid (HG2.out.below b1)
      have HX3 := Lib.hid b1
      clear o1 b1
      go_wp2_with fail
      refine (gin_any gb vb eb V E n w3 HG3.out (by have := HE.out; omega)).mono ?_
      rintro e w4 ⟨v2, rfl, o2, b2⟩
      have hl1 := idsE_len E (outP n)
      have hl2 := idsE_len E (inP n)
      obtain ⟨l1, hd1⟩ : ∃ l, l = idsE E (outP n) := ⟨_, rfl⟩
      obtain ⟨l2, hd2⟩ : ∃ l, l = idsE E (inP n) := ⟨_, rfl⟩
      rw [← hd2] at o2 hl2
      rw [← hd1] at HO1 hl1
      have HD12 : Hid (setI (l1 ++ l2) = idsE E (touchP n)) := Lib.hid (by rw [hd1, hd2]; exact gone_eq HGC.out.ok.se n)
      have HLL : Hid ((l1 ++ l2).length ≤ 1000000) := Lib.hid (by rw [List.length_append]; have := HE.out; omega)
      obtain ⟨L, hL⟩ : ∃ L, L = l1 ++ l2 := ⟨_, rfl⟩
      have HLE := Lib.hid hL.symm
      obtain ⟨a4, c4, rfl⟩ := o2.shape
      have HNC : Hid (a4 = none → c4 = 0) := Lib.hid (fun e => by subst e; exact own_none_cap o2)
      have HV2 := Lib.hid o2.toV
      have HO4 := Lib.hid (HO1.out.below b2)
      have HX4 : Hid (Below W2.heap.size W2 w4) := Lib.hid (below_then HX3.out b2)
      clear o2 b2 hl1 hl2 hd1 hd2
      rw [← hL] at HD12
      have HLL2 : Hid (l1.length + l2.length ≤ 1000000) := Lib.hid (by have := HLL.out; rw [List.length_append] at this; exact this)
      rw [← hL] at HLL
      clear hL
      go_wp2_with (first | (at_builtin; refine RowK.wpList_app (k := kI) (B := W2.heap.size) (v := v1) (l := l1) rfl (.tmp 48) (.tmp 51) rfl rfl HO4.out a4 l2.length l2 c4 rfl rfl HV2.out HNC.out (by have := HLL2.out; omega) HX4.out.size ?_; intro v5 w5 hA; rw [HLE.out] at hA; obtain ⟨a5, c5, hv5⟩ := hA.1.shape; subst hv5; have HA5 := Lib.hid hA; clear hA) | fail)
      have HX5 : Hid (Below W2.heap.size W2 w5) := Lib.hid (HX4.out.trans (below_grownI HO4.out HA5.out.2.1 HX4.out.size))
      have HO5 : Hid (kI.V w5 a5 L) := Lib.hid HA5.out.1.toV
      refine (ivals_any a5 L.length c5 w5).mono ?_
      rintro e w6 ⟨rfl, hw6⟩
      have HX6 : Hid (Below W2.heap.size W2 w6) := Lib.hid (by rw [hw6]; exact HX5.out.alloc HX5.out.size _)
      have HSR : Hid (Calls Tryz.prog 89 #[.func (.func 266) #[] #[.pointer (some ⟨w5.heap.size, 0, none⟩)]] w6 fun e W' => ∃ v, e = .returned v ∧ kI.Own W' w6.heap.size v (sortI L) ∧ Below w6.heap.size w6 W') := Lib.hid (isortedB_any w5.heap.size a5 c5 L HLL.out w6 (by rw [hw6]; simp) (by rw [hw6]; exact cell_of_blk (heap_new w5 _) 0) (HO5.out.below (by rw [hw6]; exact below_box w5 _)))
      clear hw6
      go_wp2_with fail
      refine HSR.out.mono ?_
      rintro e w7 ⟨v7, rfl, o7, b7⟩
      have HO7 := Lib.hid o7
      have HX7 : Hid (Below W2.heap.size W2 w7) := Lib.hid (below_then HX6.out b7)
      have HZ67 : Hid (W2.heap.size ≤ w6.heap.size ∧ w6.heap.size ≤ w7.heap.size) := Lib.hid ⟨HX6.out.size, b7.size⟩
      clear o7 b7
      go_wp2_with fail
      refine (compactI_any HO7.out (by rw [(sortI_perm L).length_eq]; exact HLL.out)).mono ?_
      rintro e w8 ⟨v8, rfl, o8, b8⟩
      have o9 : kI.Own w8 w6.heap.size v8 (idsE E (touchP n)) := by rw [← HD12.out]; exact o8
      obtain ⟨T, hT⟩ : ∃ T, T = idsE E (touchP n) := ⟨_, rfl⟩
      rw [← hT] at o9
      have HTT := Lib.hid hT
      obtain ⟨nl, hnl⟩ : ∃ nl, nl = T.length := ⟨_, rfl⟩
      obtain ⟨ga, gc, rfl⟩ := o9.shape
      rw [← hnl] at o9 ⊢
      have HNL := Lib.hid hnl
      have HNL9 : Hid (nl ≤ 1000000) := Lib.hid (by rw [hnl, hT]; have := idsE_len E (touchP n); have := HE.out; omega)
      have HX8 : Hid (Below W2.heap.size W2 w8) := Lib.hid (HX7.out.trans (b8.mono HZ67.out.1))
      have HO8 : Hid (kI.Own w8 W2.heap.size (.slice ga nl gc) T) := Lib.hid (o9.mono HZ67.out.1)
      have HG8 := Lib.hid (HG2.out.below HX8.out)
      have c0 : w8.cell? ⟨gb, 0, none⟩ = some (.map (some vb)) := by rw [cell_of_blk HG8.out.blk]; rfl
      have zg := HG8.out.lt
      obtain ⟨f, m, hf⟩ := HG8.out.vm
      have HFF := Lib.hid hf
      have HLI : Hid (∀ x ∈ T, I64 x) := Lib.hid (fun x hx => by
        rw [hT] at hx
        unfold idsE at hx
        obtain ⟨q, hq, rfl⟩ := List.mem_map.1 hx
        exact checkR_ids (HGC.out.ok.e q (List.mem_filter.1 hq).1) (by simp))
      rw [← hT] at HDG
      clear o8 o9 b8 hnl hT hf
      go_upto_region 10 with (first | (at_delete; refine wpList_drop _ rfl _ _ 163 3 rfl 28 lawI Tryz.underlying163 vb _ f rfl m _ _ rfl (keyI HN.out) ?_; intro w9 n' hn' m2 t2 d2 f2 z2) | fail)
      have HM : Hid (GrM w9 gb vb eb (offB Vt.id V n) E) := Lib.hid (HG8.out.m.dropV HN.out HFF.out hn' m2 t2)
      have ho9 : kI.Own w9 W2.heap.size (.slice ga nl gc) T := ownsRow_of_block HO8.out (fun j hj => turned_block t2 (fun e => by have h1 := (HO8.out.lt j hj).1; have h2 := HG2.out.ltV; omega))
      have HO : Hid (kI.Own w9 w.heap.size (.slice ga nl gc) T) := Lib.hid (ho9.mono HB2.out.size)
      have HC : Hid (Chg w w9 (fun i => i = vb ∨ i = eb)) := Lib.hid ((Chg.of_below (HB2.out.trans (HX8.out.mono HB2.out.size)) _).turned t2 (fun _ => .inl rfl))
      clear hn' m2 t2 d2 f2 z2 m c0 zg f HFF HO8 HG8 ho9
      go_wp2_with fail
      go_loopw [63] (fun iv wr => ∃ i : Nat, iv = .int .i64 (i : Int) ∧ i ≤ nl ∧ Hid (GrM wr gb vb eb (offB Vt.id V n) (remE E ((T).take i))) ∧ Hid (kI.Own wr w.heap.size (.slice ga nl gc) (T)) ∧ Hid (Chg w wr (fun i => i = vb ∨ i = eb))) (fun iv _ => nl - (intOf iv).toNat)
      case atStart => exact ⟨0, rfl, Nat.zero_le _, HM, HO, HC⟩
      case round =>
        obtain ⟨i, rfl, hi, HM, HO, HC⟩ := hrel
        have hnl9 := HNL9.out
        by_cases hlt : i < nl
        · obtain ⟨x, hx⟩ : ∃ x, (T)[i]? = some x := ⟨_, List.getElem?_eq_getElem (by have := HNL.out; omega)⟩
          have hxi : I64 x := HLI.out x (List.mem_of_getElem? hx)
          obtain ⟨lb, lcap, hsl, hlb, _, hat⟩ := HO.out.at' (fun e => by rw [e] at hx; simp at hx)
          injection hsl with e1 e2 e3
          subst e1
          have x0 := hat.cells i x hx 0 _ rfl
          simp [kI] at x0
          have zl := hat.lt
          have c1 : wr.cell? ⟨gb, 1, none⟩ = some (.map (some eb)) := by rw [cell_of_blk HM.out.blk]; rfl
          have zg := HM.out.lt
          obtain ⟨f, m, hf⟩ := HM.out.em
          have HFF := Lib.hid hf
          have HX := Lib.hid hx
          have HXI := Lib.hid hxi
          clear hx hxi hat e2 e3 hf hlb
          go_wp2_with (at_delete; refine wpList_drop _ rfl _ _ 164 3 rfl 30 lawI Tryz.underlying164 eb _ f rfl m _ _ rfl (keyI HXI.out) ?_; intro w2 n' hn' m2 t2 d2 f2 z2)
          have hM2 := HM.out.dropE HXI.out HFF.out hn' m2 t2
          rw [← remE_snoc] at hM2
          have hT : (T).take (i + 1) = (T).take i ++ [x] := by rw [List.take_add_one, HX.out]; rfl
          refine ⟨⟨i + 1, by simp, hlt, Lib.hid (by rw [hT]; exact hM2), Lib.hid (ownsRow_of_block HO.out (fun j hj => turned_block t2 (fun e => by have h1 := (HO.out.lt j hj).1; have h2 := HGC.out.ltE; omega))), Lib.hid (HC.out.turned t2 (fun _ => .inr rfl))⟩, by simp [intOf]; omega⟩
        · have hin : i = nl := by omega
          have ti : decide ((i : Int) < (nl : Int)) = false := decide_eq_false (by omega)
          go_wp2_with fail
          go_ret2
          have hT : (T).take i = T := List.take_of_length_le (by have := HNL.out; omega)
          have hM := HM.out
          rw [hT] at hM
          unfold DpPost
          rw [HDG.out]
          refine ⟨_, rfl, HO.out, ?_, HC.out⟩
          rw [HTT.out, rem_touch HGC.out.ok.se] at hM
          exact hM.c (HGC.out.ok.offV n)

end Go.Proofs.YtonilojjahfboaaGreat
