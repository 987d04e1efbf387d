/- A graph in memory: New; what a laying changes. Conditions: each contract's own premises. graph.AddVertex, AddEdge. Conditions: each contract's own premises. graph.AddEdge. Conditions: each contract's own premises. graph.Edge, graph.Vertex. Conditions: each contract's own premises. Rows of ints that a call lays for itself; what the library's sort leaves of them. Conditions: each lemma's own premises. -/
import Derived.Test.YtonilojjahfboaaGreatGr1
import Derived.DeepKeys4
import Derived.MapViews
import Derived.OpenShut
import Derived.Deep.Cut
import Derived.Test.YtonilojjahfboaaGreatRowL
import Derived.Sort.Row
import Derived.Sort.Grow
namespace Go.Proofs.YtonilojjahfboaaGreat
open Go.RowKit Go.Maps

theorem lawI : Keyed Tryz.prog 3 := int_keyed Tryz.underlying3
theorem keyI {x : Int} (h : I64 x) : keyOf Tryz.prog 3 (.int .i64 x) = some (.int .i64 x) := keyOf_int_mk Tryz.underlying3 h.wf
theorem zeroV (w : World) : (zeroValue 28).run Tryz.prog w = .ok (.agg #[.int .i64 0, .string ⟨#[]⟩, .slice none 0 0]) w := by kernel_rfl
theorem zeroE (w : World) : (zeroValue 30).run Tryz.prog w = .ok (.agg #[.int .i64 0, .string ⟨#[]⟩, .int .i64 0, .int .i64 0, .slice none 0 0]) w := by kernel_rfl
/-- a graph that may be -/
structure PGo (V : List Vt) (E : List Eg) : Prop where
  sv : SortB Vt.id V
  se : SortB Eg.id E
  v : ∀ v ∈ V, checkR v.label v.ps [v.id] = 0
  e : ∀ e ∈ E, checkR e.label e.ps [e.id, e.fr, e.to] = 0
  ends : ∀ e ∈ E, (∃ a ∈ V, a.id = e.fr) ∧ ∃ b ∈ V, b.id = e.to
theorem checkR_zero {label : ByteArray} {ps : List Pr} {ids : List Int} (h : checkR label ps ids = 0) : ids.any idB = false ∧ badS label = false ∧ rightPs ps = true := by
  unfold checkR at h
  split at h
  · cases h
  · rename_i h1
    split at h
    · cases h
    · rename_i h2
      split at h
      · rename_i h3
        exact ⟨by simpa using h1, by simpa using h2, h3⟩
      · cases h
theorem idB_i64 {n : Int} (h : idB n = false) : I64 n := by
  unfold idB at h
  simp only [decide_eq_false_iff_not] at h
  unfold I64
  omega
theorem checkR_ids {label : ByteArray} {ps : List Pr} {ids : List Int} (h : checkR label ps ids = 0) {n : Int} (hn : n ∈ ids) : I64 n := by
  have h1 := (checkR_zero h).1
  rw [List.any_eq_false] at h1
  exact idB_i64 (by simpa using h1 n hn)
open Classical in
theorem checkR_ps {label : ByteArray} {ps : List Pr} {ids : List Int} (h : checkR label ps ids = 0) : ps.length ≤ 16 := by
  have h1 := (checkR_zero h).2.2
  unfold rightPs at h1
  exact (of_decide_eq_true h1).2
theorem PGo.nil : PGo [] [] := ⟨List.Pairwise.nil, List.Pairwise.nil, (fun v hv => by cases hv), (fun v hv => by cases hv), (fun v hv => by cases hv)⟩
theorem PGo.addV {V : List Vt} {E : List Eg} (h : PGo V E) (v : Vt) : PGo (addV V v).2 E := by
  unfold Go.Proofs.YtonilojjahfboaaGreat.addV
  split
  · rename_i hc
    split
    · exact h
    · rename_i hf
      have hn : ∀ y ∈ V, y.id ≠ v.id := findB_none.1 (by simpa using hf)
      exact ⟨sort_insB h.sv hn, h.se, fun y hy => by
        rcases mem_insB.1 hy with rfl | hy
        · exact hc
        · exact h.v y hy, h.e, fun e he => by
        obtain ⟨⟨a, ha, ea⟩, b, hb, eb⟩ := h.ends e he
        exact ⟨⟨a, mem_insB.2 (.inr ha), ea⟩, b, mem_insB.2 (.inr hb), eb⟩⟩
  · exact h
theorem PGo.addE {V : List Vt} {E : List Eg} (h : PGo V E) (e : Eg) : PGo V (addE V E e).2 := by
  unfold Go.Proofs.YtonilojjahfboaaGreat.addE
  split
  · rename_i hc
    split
    · exact h
    · rename_i hf
      have hn : ∀ y ∈ E, y.id ≠ e.id := findB_none.1 (by simpa using hf)
      split
      · exact h
      · rename_i hv
        simp only [Bool.or_eq_true, not_or, Option.isNone_iff_eq_none] at hv
        refine ⟨h.sv, sort_insB h.se hn, h.v, fun y hy => ?_, fun y hy => ?_⟩
        · rcases mem_insB.1 hy with rfl | hy
          · exact hc
          · exact h.e y hy
        · rcases mem_insB.1 hy with rfl | hy
          · obtain ⟨a, ha⟩ := Option.ne_none_iff_exists'.1 hv.1
            obtain ⟨b, hb⟩ := Option.ne_none_iff_exists'.1 hv.2
            exact ⟨⟨a, findB_some ha⟩, b, findB_some hb⟩
          · exact h.ends y hy
  · exact h
/-- a map's plain form: of vertices, of edges -/
structure VmOk (w : World) (f : Lit → Option Value) (V : List Vt) : Prop where
  no : ∀ n, I64 n → findB Vt.id V n = none → f (.int .i64 n) = none
  yes : ∀ v ∈ V, ∃ a c, f (.int .i64 v.id) = some (v.val a c) ∧ PsA w a c v.ps
structure EmOk (w : World) (f : Lit → Option Value) (E : List Eg) : Prop where
  no : ∀ n, I64 n → findB Eg.id E n = none → f (.int .i64 n) = none
  yes : ∀ v ∈ E, ∃ a c, f (.int .i64 v.id) = some (v.val a c) ∧ PsA w a c v.ps
/-- cells stay: whatever is a block of cells -/
def CellsStay (w w' : World) : Prop := ∀ (b : Nat) (c : Array Value) (t : TypeId) (z : Nat × Nat), w.heap[b]? = some (.cells c t z) → w'.heap[b]? = w.heap[b]?
theorem PsA.stay {w w' : World} {a : Option Addr} {c : Nat} {ps : List Pr} (h : PsA w a c ps) (hc : ∀ p : Addr, w'.cell? p = w.cell? p) (hz : w.heap.size ≤ w'.heap.size) : PsA w' a c ps :=
  ⟨fun hp => by
    obtain ⟨b, off, e, hat⟩ := h.v hp
    exact ⟨b, off, e, ⟨hat.ok, fun i p hp => by simp only [hc]; exact hat.cells i p hp, Nat.lt_of_lt_of_le hat.lt hz⟩⟩, h.nil⟩
theorem VmOk.below {w w' : World} {f : Lit → Option Value} {V : List Vt} (h : VmOk w f V) (hb : Below w.heap.size w w') : VmOk w' f V :=
  ⟨h.no, fun v hv => by obtain ⟨a, c, h1, h2⟩ := h.yes v hv; exact ⟨a, c, h1, h2.below hb⟩⟩
theorem EmOk.below {w w' : World} {f : Lit → Option Value} {E : List Eg} (h : EmOk w f E) (hb : Below w.heap.size w w') : EmOk w' f E :=
  ⟨h.no, fun v hv => by obtain ⟨a, c, h1, h2⟩ := h.yes v hv; exact ⟨a, c, h1, h2.below hb⟩⟩
theorem VmOk.stay {w w' : World} {f : Lit → Option Value} {V : List Vt} (h : VmOk w f V) (hc : ∀ p : Addr, w'.cell? p = w.cell? p) (hz : w.heap.size ≤ w'.heap.size) : VmOk w' f V :=
  ⟨h.no, fun v hv => by obtain ⟨a, c, h1, h2⟩ := h.yes v hv; exact ⟨a, c, h1, h2.stay hc hz⟩⟩
theorem EmOk.stay {w w' : World} {f : Lit → Option Value} {E : List Eg} (h : EmOk w f E) (hc : ∀ p : Addr, w'.cell? p = w.cell? p) (hz : w.heap.size ≤ w'.heap.size) : EmOk w' f E :=
  ⟨h.no, fun v hv => by obtain ⟨a, c, h1, h2⟩ := h.yes v hv; exact ⟨a, c, h1, h2.stay hc hz⟩⟩
theorem lit_int {a b : Int} : Lit.int .i64 a = Lit.int .i64 b ↔ a = b := by
  constructor
  · intro h; injection h
  · intro h; rw [h]
open Classical in
theorem VmOk.add {w : World} {f : Lit → Option Value} {V : List Vt} (h : VmOk w f V) {v : Vt} {a : Option Addr} {c : Nat} (hp : PsA w a c v.ps) (hn : findB Vt.id V v.id = none) : VmOk w (upd f (.int .i64 v.id) (some (v.val a c))) (insB Vt.id v V) := by
  have hn' := findB_none.1 hn
  refine ⟨fun n hi hf => ?_, fun y hy => ?_⟩
  · rw [find_insB hn'] at hf
    split at hf
    · cases hf
    · rename_i e
      unfold upd
      rw [if_neg (fun e2 => e (lit_int.1 e2).symm)]
      exact h.no n hi hf
  · rcases mem_insB.1 hy with rfl | hy
    · exact ⟨a, c, by simp [upd], hp⟩
    · obtain ⟨a', c', h1, h2⟩ := h.yes y hy
      refine ⟨a', c', ?_, h2⟩
      unfold upd
      rw [if_neg (fun e2 => hn' y hy (lit_int.1 e2))]
      exact h1
open Classical in
theorem EmOk.add {w : World} {f : Lit → Option Value} {E : List Eg} (h : EmOk w f E) {v : Eg} {a : Option Addr} {c : Nat} (hp : PsA w a c v.ps) (hn : findB Eg.id E v.id = none) : EmOk w (upd f (.int .i64 v.id) (some (v.val a c))) (insB Eg.id v E) := by
  have hn' := findB_none.1 hn
  refine ⟨fun n hi hf => ?_, fun y hy => ?_⟩
  · rw [find_insB hn'] at hf
    split at hf
    · cases hf
    · rename_i e
      unfold upd
      rw [if_neg (fun e2 => e (lit_int.1 e2).symm)]
      exact h.no n hi hf
  · rcases mem_insB.1 hy with rfl | hy
    · exact ⟨a, c, by simp [upd], hp⟩
    · obtain ⟨a', c', h1, h2⟩ := h.yes y hy
      refine ⟨a', c', ?_, h2⟩
      unfold upd
      rw [if_neg (fun e2 => hn' y hy (lit_int.1 e2))]
      exact h1
/-- a graph in memory -/
structure GrC (w : World) (gb vb eb : Nat) (V : List Vt) (E : List Eg) : Prop where
  blk : w.heap[gb]? = some (.cells #[.map (some vb), .map (some eb)] 166 (0, 0))
  vm : ∃ f, mapR w Tryz.prog 3 vb V.length f ∧ VmOk w f V
  em : ∃ f, mapR w Tryz.prog 3 eb E.length f ∧ EmOk w f E
  ok : PGo V E
  ne : vb ≠ eb
section
variable {w w' : World} {gb vb eb : Nat} {V : List Vt} {E : List Eg}
theorem GrC.lt (h : GrC w gb vb eb V E) : gb < w.heap.size := (Array.getElem?_eq_some_iff.1 h.blk).1
theorem GrC.ltV (h : GrC w gb vb eb V E) : vb < w.heap.size := by obtain ⟨_, m, _⟩ := h.vm; exact m.lt
theorem GrC.ltE (h : GrC w gb vb eb V E) : eb < w.heap.size := by obtain ⟨_, m, _⟩ := h.em; exact m.lt
theorem GrC.below (h : GrC w gb vb eb V E) (hb : Below w.heap.size w w') : GrC w' gb vb eb V E := by
  obtain ⟨f, m, hf⟩ := h.vm
  obtain ⟨g, n, hg⟩ := h.em
  exact ⟨(hb.block _ h.lt).trans h.blk, ⟨f, m.of_block (hb.block _ m.lt), hf.below hb⟩, ⟨g, n.of_block (hb.block _ n.lt), hg.below hb⟩, h.ok, h.ne⟩
theorem GrC.neG (h : GrC w gb vb eb V E) : gb ≠ vb ∧ gb ≠ eb := by
  obtain ⟨f, ⟨_, ⟨_, _, hm, _⟩, _⟩, _⟩ := h.vm
  obtain ⟨g, ⟨_, ⟨_, _, hn, _⟩, _⟩, _⟩ := h.em
  have hb := h.blk
  refine ⟨fun e => ?_, fun e => ?_⟩
  · rw [e, hm] at hb; cases hb
  · rw [e, hn] at hb; cases hb
end
/-- a vertex laid in its map -/
theorem GrC.putV {w w2 : World} {gb vb eb : Nat} {V : List Vt} {E : List Eg} (h : GrC w gb vb eb V E) {v : Vt} {a : Option Addr} {c : Nat} (hp : PsA w a c v.ps) (hc : checkR v.label v.ps [v.id] = 0) (hn : findB Vt.id V v.id = none)
    {f : Lit → Option Value} (hf : VmOk w f V) (m2 : mapR w2 Tryz.prog 3 vb (if (f (.int .i64 v.id)).isSome then V.length else V.length + 1) (upd f (.int .i64 v.id) (some (v.val a c)))) (t2 : w.mapTurned w2 vb) :
    GrC w2 gb vb eb (insB Vt.id v V) E := by
  have hz := turned_size t2
  have hcl := turned_cell t2
  have hid : I64 v.id := checkR_ids hc (by simp)
  obtain ⟨g, n, hg⟩ := h.em
  rw [hf.no v.id hid hn] at m2
  refine ⟨(turned_block t2 h.neG.1).trans h.blk, ⟨_, by rw [len_insB]; exact m2, (hf.stay hcl (Nat.le_of_eq hz.symm)).add (hp.stay hcl (Nat.le_of_eq hz.symm)) hn⟩, ⟨g, n.of_block (turned_block t2 h.ne.symm), hg.stay hcl (Nat.le_of_eq hz.symm)⟩, ?_, h.ne⟩
  have := h.ok.addV v
  unfold addV at this
  rw [if_pos hc, hn] at this
  exact this
theorem GrC.putE {w w2 : World} {gb vb eb : Nat} {V : List Vt} {E : List Eg} (h : GrC w gb vb eb V E) {v : Eg} {a : Option Addr} {c : Nat} (hp : PsA w a c v.ps) (hc : checkR v.label v.ps [v.id, v.fr, v.to] = 0) (hn : findB Eg.id E v.id = none)
    (h1 : (findB Vt.id V v.fr).isSome = true) (h2 : (findB Vt.id V v.to).isSome = true)
    {f : Lit → Option Value} (hf : EmOk w f E) (m2 : mapR w2 Tryz.prog 3 eb (if (f (.int .i64 v.id)).isSome then E.length else E.length + 1) (upd f (.int .i64 v.id) (some (v.val a c)))) (t2 : w.mapTurned w2 eb) :
    GrC w2 gb vb eb V (insB Eg.id v E) := by
  have hz := turned_size t2
  have hcl := turned_cell t2
  have hid : I64 v.id := checkR_ids hc (by simp)
  obtain ⟨g, n, hg⟩ := h.vm
  rw [hf.no v.id hid hn] at m2
  refine ⟨(turned_block t2 h.neG.2).trans h.blk, ⟨g, n.of_block (turned_block t2 h.ne), hg.stay hcl (Nat.le_of_eq hz.symm)⟩, ⟨_, by rw [len_insB]; exact m2, (hf.stay hcl (Nat.le_of_eq hz.symm)).add (hp.stay hcl (Nat.le_of_eq hz.symm)) hn⟩, ?_, h.ne⟩
  have := h.ok.addE v
  unfold addE at this
  rw [if_pos hc, hn] at this
  simp only [Option.isSome_none, Bool.false_eq_true, if_false] at this
  rw [if_neg (by simp only [Bool.or_eq_true, not_or, Option.isNone_iff_eq_none]; exact ⟨(fun e => by rw [e] at h1; cases h1), (fun e => by rw [e] at h2; cases h2)⟩)] at this
  exact this
/-- what New leaves -/
def GnPost (w : World) (e : Ending) (w' : World) : Prop := e = .returned (.pointer (some ⟨w.heap.size + 2, 0, none⟩)) ∧ GrC w' (w.heap.size + 2) w.heap.size (w.heap.size + 1) [] [] ∧ Below w.heap.size w w'
set_option maxRecDepth 100000 in
theorem gnew_any (w : World) : Calls Tryz.prog 15 #[] w (GnPost w) := by
  have hmm := @run_makeMap Tryz.prog
  have HB := Lib.hid ((((Below.refl w.heap.size w).alloc (Nat.le_refl _) (.map #[] 0)).alloc (by simp) (.map #[] 0)).alloc (by simp; omega) (.cells #[.map (some w.heap.size), .map (some (w.heap.size + 1))] 166))
  have HG : Hid (GrC (((w.alloc (.map #[] 0)).alloc (.map #[] 0)).alloc (.cells #[.map (some w.heap.size), .map (some (w.heap.size + 1))] 166)) (w.heap.size + 2) w.heap.size (w.heap.size + 1) [] []) := Lib.hid (by
    refine ⟨?_, ⟨fun _ => none, ?_, ⟨fun _ _ _ => rfl, fun v hv => by cases hv⟩⟩, ⟨fun _ => none, ?_, ⟨fun _ _ _ => rfl, fun v hv => by cases hv⟩⟩, PGo.nil, by omega⟩
    · have := heap_new ((w.alloc (.map #[] 0)).alloc (.map #[] 0)) (.cells #[.map (some w.heap.size), .map (some (w.heap.size + 1))] 166)
      simpa using this
    · exact (mapR_made w Tryz.prog 3).of_block ((Below.heap_alloc _ _ _ (by simp; omega)).trans (Below.heap_alloc _ _ _ (by simp)))
    · have := mapR_made (w.alloc (.map #[] 0)) Tryz.prog 3
      rw [size_alloc] at this
      exact this.of_block (Below.heap_alloc _ _ _ (by simp)))
  go_enter Tryz.func15, Tryz.ntmps15
  go_wp2
  go_ret
  exact ⟨rfl, HG.out, HB.out⟩
end Go.Proofs.YtonilojjahfboaaGreat
namespace Go.Proofs.YtonilojjahfboaaGreat
open Go.RowKit Go.Maps

theorem ids_at {u : World} {n : Nat} {l : List Int} (hb : u.heap[n]? = some (.cells (l.map (Value.int .i64)).toArray 3 (0, 0))) (hi : ∀ x ∈ l, I64 x) : IsV u (some ⟨n, 0, none⟩) l :=
  fun _ => ⟨n, 0, rfl, ⟨hi, fun i x hx => by
    rw [cell_of_blk hb]
    simp [hx], (Array.getElem?_eq_some_iff.1 hb).1⟩⟩
def AvPost (w : World) (gb vb eb : Nat) (V : List Vt) (E : List Eg) (v : Vt) (e : Ending) (w' : World) : Prop := e = .returned (.int .i64 (addV V v).1) ∧ GrC w' gb vb eb (addV V v).2 E ∧ Chg w w' (fun i => i = vb)
def AePost (w : World) (gb vb eb : Nat) (V : List Vt) (E : List Eg) (v : Eg) (e : Ending) (w' : World) : Prop := e = .returned (.int .i64 (addE V E v).1) ∧ GrC w' gb vb eb V (addE V E v).2 ∧ Chg w w' (fun i => i = eb)
theorem addv_cells {u w' : World} {gb vb eb kb : Nat} {V : List Vt} {E : List Eg} {v : Vt} {a : Option Addr} {c : Nat} (hg : GrC u gb vb eb V E) (hb : u.heap[kb]? = some (.cells #[.int .i64 v.id, .string v.label, .slice a v.ps.length c] 28)) (h : Below u.heap.size u w') :
    w'.cell? ⟨gb, 0, none⟩ = some (.map (some vb)) ∧ w'.cell? ⟨kb, 0, none⟩ = some (.int .i64 v.id) ∧ w'.cell? ⟨kb, 1, none⟩ = some (.string v.label) ∧ w'.cell? ⟨kb, 2, none⟩ = some (.slice a v.ps.length c) := by
  have e1 := (h.block _ hg.lt).trans hg.blk
  have e2 := (h.block _ (Array.getElem?_eq_some_iff.1 hb).1).trans hb
  exact ⟨by rw [cell_of_blk e1]; rfl, by rw [cell_of_blk e2]; rfl, by rw [cell_of_blk e2]; rfl, by rw [cell_of_blk e2]; rfl⟩
theorem lookV {w : World} {gb vb eb : Nat} {V : List Vt} {E : List Eg} (h : GrC w gb vb eb V E) {n : Int} (hn : I64 n) :
    (findB Vt.id V n = none → (Instr.lookup 163 (.map (some vb)) (.int .i64 n) true).run Tryz.prog w = .ok (.tuple #[.agg #[.int .i64 0, .string ⟨#[]⟩, .slice none 0 0], .bool false]) w) ∧
    ∀ y, findB Vt.id V n = some y → ∃ a c, (Instr.lookup 163 (.map (some vb)) (.int .i64 n) true).run Tryz.prog w = .ok (.tuple #[.agg #[.int .i64 y.id, .string y.label, .slice a y.ps.length c], .bool true]) w ∧ PsA w a c y.ps := by
  obtain ⟨f, m, hf⟩ := h.vm
  have e := m.look_ok lawI Tryz.underlying163 (zeroV w) (keyI hn)
  refine ⟨fun hno => ?_, fun y hy => ?_⟩
  · rw [hf.no n hn hno] at e
    exact e
  · obtain ⟨h1, h2⟩ := findB_some hy
    obtain ⟨a, c, h3, h4⟩ := hf.yes y h1
    rw [h2] at h3
    rw [h3] at e
    exact ⟨a, c, e, h4⟩
theorem lookE {w : World} {gb vb eb : Nat} {V : List Vt} {E : List Eg} (h : GrC w gb vb eb V E) {n : Int} (hn : I64 n) :
    (findB Eg.id E n = none → (Instr.lookup 164 (.map (some eb)) (.int .i64 n) true).run Tryz.prog w = .ok (.tuple #[.agg #[.int .i64 0, .string ⟨#[]⟩, .int .i64 0, .int .i64 0, .slice none 0 0], .bool false]) w) ∧
    ∀ y, findB Eg.id E n = some y → ∃ a c, (Instr.lookup 164 (.map (some eb)) (.int .i64 n) true).run Tryz.prog w = .ok (.tuple #[.agg #[.int .i64 y.id, .string y.label, .int .i64 y.fr, .int .i64 y.to, .slice a y.ps.length c], .bool true]) w ∧ PsA w a c y.ps := by
  obtain ⟨f, m, hf⟩ := h.em
  have e := m.look_ok lawI Tryz.underlying164 (zeroE w) (keyI hn)
  refine ⟨fun hno => ?_, fun y hy => ?_⟩
  · rw [hf.no n hn hno] at e
    exact e
  · obtain ⟨h1, h2⟩ := findB_some hy
    obtain ⟨a, c, h3, h4⟩ := hf.yes y h1
    rw [h2] at h3
    rw [h3] at e
    exact ⟨a, c, e, h4⟩
/-- a look-up stays, for the map's block stays -/
theorem look_stay {w u : World} {b : Nat} {t k e : TypeId} {n : Nat} {f : Lit → Option Value} {z r : Value} {key : Value} {kl : Lit} (m : mapR w Tryz.prog k b n f) (K : Keyed Tryz.prog k) (ht : Tryz.prog.underlying t = some (.map k e)) (hz : ∀ w, (zeroValue e).run Tryz.prog w = .ok z w) (hk : keyOf Tryz.prog k key = some kl)
    (h : (Instr.lookup t (.map (some b)) key true).run Tryz.prog w = .ok r w) (hb : u.heap[b]? = w.heap[b]?) : (Instr.lookup t (.map (some b)) key true).run Tryz.prog u = .ok r u := by
  have e1 := m.look_ok K ht (hz w) hk
  rw [h] at e1
  have e2 := (m.of_block hb).look_ok K ht (hz u) hk
  rw [e2]
  have e3 : ∀ (x y : Value), (Result.ok x w : Result Value) = .ok y w → x = y := fun x y h => by injection h
  rw [e3 _ _ e1]
set_option maxRecDepth 100000 in
set_option maxHeartbeats 4000000 in
theorem gaddV_any (gb vb eb : Nat) (V : List Vt) (E : List Eg) (v : Vt) (a : Option Addr) (c : Nat) (w : World) (h : GrC w gb vb eb V E) (hp : PsA w a c v.ps) (hl : v.ps.length ≤ 100000) (hid : I64 v.id) (hlab : v.label.size ≤ maxLen) (hvl : V.length < maxLen) :
    Calls Tryz.prog 79 #[.pointer (some ⟨gb, 0, none⟩), v.val a c] w (AvPost w gb vb eb V E v) := by
  have HX0 := Lib.hid (heap_new w (.cells #[.int .i64 v.id, .string v.label, .slice a v.ps.length c] 28))
  have HW0 := Lib.hid ((below_box w (.cells #[.int .i64 v.id, .string v.label, .slice a v.ps.length c] 28)).alloc (by simp) (.cells #[.int .i64 v.id] 3))
  have HIDS : Hid (IsV ((w.alloc (.cells #[.int .i64 v.id, .string v.label, .slice a v.ps.length c] 28)).alloc (.cells #[.int .i64 v.id] 3)) (some ⟨w.heap.size + 1, 0, none⟩) [v.id]) := Lib.hid (ids_at (heap_new2 w _ _) (by simp [hid]))
  have HG := Lib.hid h
  have HPA := Lib.hid hp
  have HPL := Lib.hid hl
  have HID := Lib.hid hid
  have HVL := Lib.hid hvl
  have HLB := Lib.hid hlab
  clear h hp hl hid hvl hlab
  unfold Vt.val
  go_enter Tryz.func79, Tryz.ntmps79
  go_wp2_with fail
  refine (check_any v.label a _ c 1 v.ps [v.id] _ HLB.out (HPA.out.v.below HW0.out) HIDS.out HPL.out (by simp)).mono ?_
  rintro e w1 ⟨rfl, b1⟩
  have HB1 : Hid (w1.heap[w.heap.size]? = some (.cells #[.int .i64 v.id, .string v.label, .slice a v.ps.length c] 28)) := Lib.hid ((b1.block _ (by simp; omega)).trans ((Below.heap_alloc _ _ _ (by simp)).trans HX0.out))
  have HBW : Hid (Below w.heap.size w w1) := Lib.hid (HW0.out.trans (b1.mono (by simp; omega)))
  replace HPA : Hid (PsA w1 a c v.ps) := Lib.hid (HPA.out.below HBW.out)
  have HG1 : Hid (GrC w1 gb vb eb V E) := Lib.hid (HG.out.below HBW.out)
  clear b1 HG HIDS
  by_cases hck : checkR v.label v.ps [v.id] = 0
  · rw [hck]
    have HCK := Lib.hid hck
    clear hck
    cases hf : findB Vt.id V v.id with
    | none =>
      have HF := Lib.hid hf
      have HS : Hid (∀ w' : World, Below w1.heap.size w1 w' → w'.cell? ⟨gb, 0, none⟩ = some (.map (some vb)) ∧ w'.cell? ⟨w.heap.size, 0, none⟩ = some (.int .i64 v.id) ∧ w'.cell? ⟨w.heap.size, 1, none⟩ = some (.string v.label) ∧ w'.cell? ⟨w.heap.size, 2, none⟩ = some (.slice a v.ps.length c) ∧ (Instr.lookup 163 (.map (some vb)) (.int .i64 v.id) true).run Tryz.prog w' = .ok (.tuple #[.agg #[.int .i64 0, .string ⟨#[]⟩, .slice none 0 0], .bool false]) w') := Lib.hid (fun w' hb => by
        obtain ⟨x1, x2, x3, x4⟩ := addv_cells HG1.out HB1.out hb
        exact ⟨x1, x2, x3, x4, (lookV (HG1.out.below hb) HID.out).1 HF.out⟩)
      clear hf
      go_upto_region 4 with fail
      refine wp_region_held_drew (S := (fun w' : World => w'.cell? ⟨gb, 0, none⟩ = some (.map (some vb)) ∧ w'.cell? ⟨w.heap.size, 0, none⟩ = some (.int .i64 v.id) ∧ w'.cell? ⟨w.heap.size, 1, none⟩ = some (.string v.label) ∧ w'.cell? ⟨w.heap.size, 2, none⟩ = some (.slice a v.ps.length c) ∧ (Instr.lookup 163 (.map (some vb)) (.int .i64 v.id) true).run Tryz.prog w' = .ok (.tuple #[.agg #[.int .i64 0, .string ⟨#[]⟩, .slice none 0 0], .bool false]) w')) (by kernel_rfl) (HS.out _ (below_drewN (Below.refl _ _) 1)) (fun hHeld => ?_)
      obtain ⟨Xa, hGen⟩ : ∃ u, u = World.drew w1 := ⟨_, rfl⟩
      rw [← hGen] at hHeld ⊢
      have HXa : Hid (Below w1.heap.size w1 Xa) := Lib.hid (by rw [hGen]; exact below_drewN (Below.refl _ _) 1)
      clear hGen
      refine wpAnyH_take (i := 0) (oi := ⟨some 20, _, _, _, _, _⟩) (v := ?vvqa1) rfl (by kernel_rfl) (by kernel_rfl) (by kernel_rfl) (fun _ _ _ h => h) (Or.inl ⟨by rfl, ?yyqa1⟩) hHeld ?rrqa1
      case yyqa1 => (intro wq hSw; (try dsimp only at hSw); go_simp; first | done | with_reducible rfl)
      simp only [Act.put, List.setIfInBounds_toArray, List.set_cons_zero, List.set_cons_succ]
      refine wpAnyH_take (i := 1) (oi := ⟨some 21, _, _, _, _, _⟩) (v := ?vvqa2) rfl (by kernel_rfl) (by kernel_rfl) (by kernel_rfl) (fun _ _ _ h => h) (Or.inl ⟨by rfl, ?yyqa2⟩) hHeld ?rrqa2
      case yyqa2 => (intro wq hSw; (try dsimp only at hSw); go_simp; first | done | with_reducible rfl)
      simp only [Act.put, List.setIfInBounds_toArray, List.set_cons_zero, List.set_cons_succ]
      refine wpAnyH_take (i := 2) (oi := ⟨some 22, _, _, _, _, _⟩) (v := ?vvqa3) rfl (by kernel_rfl) (by kernel_rfl) (by kernel_rfl) (fun _ _ _ h => h) (Or.inl ⟨by rfl, ?yyqa3⟩) hHeld ?rrqa3
      case yyqa3 => (intro wq hSw; (try dsimp only at hSw); go_simp; first | done | with_reducible rfl)
      simp only [Act.put, List.setIfInBounds_toArray, List.set_cons_zero, List.set_cons_succ]
      refine wpAnyH_take (i := 3) (oi := ⟨some 23, _, _, _, _, _⟩) (v := ?vvqa4) rfl (by kernel_rfl) (by kernel_rfl) (by kernel_rfl) (fun _ _ _ h => h) (Or.inl ⟨by rfl, ?yyqa4⟩) hHeld ?rrqa4
      case yyqa4 => (intro wq hSw; (try dsimp only at hSw); go_simp; first | done | with_reducible rfl)
      simp only [Act.put, List.setIfInBounds_toArray, List.set_cons_zero, List.set_cons_succ]
      refine wpAnyH_take (i := 4) (oi := ⟨some 24, _, _, _, _, _⟩) (v := ?vvqa5) rfl (by kernel_rfl) (by kernel_rfl) (by kernel_rfl) (fun _ _ _ h => h) (Or.inl ⟨by rfl, ?yyqa5⟩) hHeld ?rrqa5
      case yyqa5 => (intro wq hSw; (try dsimp only at hSw); go_simp; first | done | with_reducible rfl)
      simp only [Act.put, List.setIfInBounds_toArray, List.set_cons_zero, List.set_cons_succ]
      refine wpAnyH_take (i := 5) (oi := ⟨some 25, _, _, _, _, _⟩) (v := ?vvqa6) rfl (by kernel_rfl) (by kernel_rfl) (by kernel_rfl) (fun _ _ _ h => h) (Or.inl ⟨by rfl, ?yyqa6⟩) hHeld ?rrqa6
      case yyqa6 => (intro wq hSw; (try dsimp only at hSw); go_simp; first | done | with_reducible rfl)
      simp only [Act.put, List.setIfInBounds_toArray, List.set_cons_zero, List.set_cons_succ]
      refine wpAnyH_take (i := 6) (oi := ⟨some 26, _, _, _, _, _⟩) (v := ?vvqa7) rfl (by kernel_rfl) (by kernel_rfl) (by kernel_rfl) (fun _ _ _ h => h) (Or.inl ⟨by rfl, ?yyqa7⟩) hHeld ?rrqa7
      case yyqa7 => (intro wq hSw; (try dsimp only at hSw); go_simp; first | done | with_reducible rfl)
      simp only [Act.put, List.setIfInBounds_toArray, List.set_cons_zero, List.set_cons_succ]
      refine wpAnyH_take (i := 7) (oi := ⟨some 19, _, _, _, _, _⟩) (v := ?vvqa8) rfl (by kernel_rfl) (by kernel_rfl) (by kernel_rfl) (fun _ _ _ h => h) (Or.inl ⟨by rfl, ?yyqa8⟩) hHeld ?rrqa8
      case yyqa8 => (intro wq hSw; (try dsimp only at hSw); go_simp; first | done | with_reducible rfl)
      simp only [Act.put, List.setIfInBounds_toArray, List.set_cons_zero, List.set_cons_succ]
      refine wpAnyH_take (i := 8) (oi := ⟨some 27, _, _, _, _, _⟩) (v := ?vvqa9) rfl (by kernel_rfl) (by kernel_rfl) (by kernel_rfl) (fun _ _ _ h => h) (Or.inl ⟨by rfl, ?yyqa9⟩) hHeld ?rrqa9
      case yyqa9 => (intro wq hSw; (try dsimp only at hSw); go_simp; first | done | with_reducible rfl)
      simp only [Act.put, List.setIfInBounds_toArray, List.set_cons_zero, List.set_cons_succ]
      refine wpAnyH_take (i := 9) (oi := ⟨some 28, _, _, _, _, _⟩) (v := ?vvqa10) rfl (by kernel_rfl) (by kernel_rfl) (by kernel_rfl) (fun _ _ _ h => h) (Or.inl ⟨by rfl, ?yyqa10⟩) hHeld ?rrqa10
      case yyqa10 => (intro wq hSw; (try dsimp only at hSw); go_simp; first | done | with_reducible rfl)
      simp only [Act.put, List.setIfInBounds_toArray, List.set_cons_zero, List.set_cons_succ]
      refine wpAnyH_ready (rs := [10]) (by kernel_rfl) (by simp) ?_
      refine AllReadyH.cons (o := ⟨some 6, _, _, _, _, _⟩) rfl (fun K hK => ?_) AllReadyH.nil
      go_simp
      obtain ⟨na, hn⟩ : ∃ u, u = Xa.alloc (.cells #[.int .i64 0, .string ⟨#[]⟩, .slice none 0 0] 28) := ⟨_, rfl⟩
      obtain ⟨ga, hg⟩ : ∃ g, g = Xa.heap.size := ⟨_, rfl⟩
      rw [← hn, ← hg]
      have HAa : Hid (Below w1.heap.size w1 na) := Lib.hid (by rw [hn]; exact below_then HXa.out (below_box _ _))
      have Ea : Hid (na.heap[ga]? = some (.cells #[.int .i64 0, .string ⟨#[]⟩, .slice none 0 0] 28)) := Lib.hid (by rw [hn, hg]; exact heap_new _ _)
      have La : Hid (w1.heap.size ≤ ga) := Lib.hid (by rw [hg]; exact HXa.out.size)
      clear hn hg
      try dsimp only
      refine hK.out _ _ ?ssqa11 (fun hHeld => ?_)
      case ssqa11 => (exact HS.out _ HAa.out)
      clear hK K
      try simp only [Act.put, List.setIfInBounds_toArray, List.set_cons_zero, List.set_cons_succ]
      refine wpAnyH_ready (rs := [11]) (by kernel_rfl) (by simp) ?_
      refine AllReadyH.cons (o := ⟨none, _, _, _, _, _⟩) rfl (fun K hK => ?_) AllReadyH.nil
      have z0 := cell_of_blk Ea.out 0
      have z1 := cell_of_blk Ea.out 1
      have z2 := cell_of_blk Ea.out 2
      have y0 := frozen_of_blk Ea.out 0
      have y1 := frozen_of_blk Ea.out 1
      have y2 := frozen_of_blk Ea.out 2
      simp at z0 z1 z2
      go_simp
      obtain ⟨ua, hU⟩ : ∃ u, u = (((na.setCell ⟨ga, 0, none⟩ (.int .i64 0)).setCell ⟨ga, 1, none⟩ (.string ⟨#[]⟩)).setCell ⟨ga, 2, none⟩ (.slice none 0 0)) := ⟨_, rfl⟩
      rw [← hU]
      have HCa : Hid (Below w1.heap.size w1 ua) := Lib.hid (by rw [hU]; exact (((HAa.out.setCell (p := ⟨ga, 0, none⟩) La.out _).setCell (p := ⟨ga, 1, none⟩) La.out _).setCell (p := ⟨ga, 2, none⟩) La.out _))
      clear hU z0 y0 z1 y1 z2 y2
      try dsimp only
      refine hK.out _ _ ?ssqa12 (fun hHeld => ?_)
      case ssqa12 => (exact HS.out _ HCa.out)
      clear hK K
      try simp only [Act.put, List.setIfInBounds_toArray, List.set_cons_zero, List.set_cons_succ]
      refine wpAnyH_take (i := 12) (oi := ⟨some 7, _, _, _, _, _⟩) (v := ?vvqa13) rfl (by kernel_rfl) (by kernel_rfl) (by kernel_rfl) (fun _ _ _ h => h) (Or.inl ⟨by rfl, ?yyqa13⟩) hHeld ?rrqa13
      case yyqa13 => (intro wq hSw; (try dsimp only at hSw); go_simp; first | done | with_reducible rfl)
      simp only [Act.put, List.setIfInBounds_toArray, List.set_cons_zero, List.set_cons_succ]
      refine wpAnyH_done (by kernel_rfl) ?_ _
      clear hHeld
      obtain ⟨u2, hu2⟩ : ∃ u, u = ua := ⟨_, rfl⟩
      rw [← hu2] at HCa ⊢
      clear hu2
      go_upto_region 7 with fail
      replace HG1 : Hid (GrC u2 gb vb eb V E) := Lib.hid (HG1.out.below HCa.out)
      replace HBW : Hid (Below w.heap.size w u2) := Lib.hid (HBW.out.trans (HCa.out.mono HBW.out.size))
      replace HPA : Hid (PsA u2 a c v.ps) := Lib.hid (HPA.out.below HCa.out)
      have HB2 : Hid (u2.heap[w.heap.size]? = some (.cells #[.int .i64 v.id, .string v.label, .slice a v.ps.length c] 28)) := Lib.hid ((HCa.out.block _ (Array.getElem?_eq_some_iff.1 HB1.out).1).trans HB1.out)
      have HV : Hid (∀ w' : World, Below u2.heap.size u2 w' → w'.cell? ⟨gb, 0, none⟩ = some (.map (some vb)) ∧ w'.cell? ⟨w.heap.size, 0, none⟩ = some (.int .i64 v.id) ∧ w'.cell? ⟨w.heap.size, 1, none⟩ = some (.string v.label) ∧ w'.cell? ⟨w.heap.size, 2, none⟩ = some (.slice a v.ps.length c)) := Lib.hid (fun w' hb => addv_cells HG1.out HB2.out hb)
      refine wp_region_held_drew (S := (fun w' : World => w'.cell? ⟨gb, 0, none⟩ = some (.map (some vb)) ∧ w'.cell? ⟨w.heap.size, 0, none⟩ = some (.int .i64 v.id) ∧ w'.cell? ⟨w.heap.size, 1, none⟩ = some (.string v.label) ∧ w'.cell? ⟨w.heap.size, 2, none⟩ = some (.slice a v.ps.length c))) (by kernel_rfl) (HV.out _ (below_drewN (Below.refl _ _) 1)) (fun hHeld => ?_)
      obtain ⟨Xb, hGen⟩ : ∃ u, u = World.drew u2 := ⟨_, rfl⟩
      rw [← hGen] at hHeld ⊢
      have HXb : Hid (Below u2.heap.size u2 Xb) := Lib.hid (by rw [hGen]; exact below_drewN (Below.refl _ _) 1)
      clear hGen
      refine wpAnyH_take (i := 0) (oi := ⟨some 30, _, _, _, _, _⟩) (v := ?vvpb1) rfl (by kernel_rfl) (by kernel_rfl) (by kernel_rfl) (fun _ _ _ h => h) (Or.inl ⟨by rfl, ?yypb1⟩) hHeld ?rrpb1
      case yypb1 => (intro wq hSw; (try dsimp only at hSw); go_simp; first | done | with_reducible rfl)
      simp only [Act.put, List.setIfInBounds_toArray, List.set_cons_zero, List.set_cons_succ]
      refine wpAnyH_take (i := 1) (oi := ⟨some 31, _, _, _, _, _⟩) (v := ?vvpb2) rfl (by kernel_rfl) (by kernel_rfl) (by kernel_rfl) (fun _ _ _ h => h) (Or.inl ⟨by rfl, ?yypb2⟩) hHeld ?rrpb2
      case yypb2 => (intro wq hSw; (try dsimp only at hSw); go_simp; first | done | with_reducible rfl)
      simp only [Act.put, List.setIfInBounds_toArray, List.set_cons_zero, List.set_cons_succ]
      refine wpAnyH_take (i := 2) (oi := ⟨some 32, _, _, _, _, _⟩) (v := ?vvpb3) rfl (by kernel_rfl) (by kernel_rfl) (by kernel_rfl) (fun _ _ _ h => h) (Or.inl ⟨by rfl, ?yypb3⟩) hHeld ?rrpb3
      case yypb3 => (intro wq hSw; (try dsimp only at hSw); go_simp; first | done | with_reducible rfl)
      simp only [Act.put, List.setIfInBounds_toArray, List.set_cons_zero, List.set_cons_succ]
      refine wpAnyH_take (i := 3) (oi := ⟨some 33, _, _, _, _, _⟩) (v := ?vvpb4) rfl (by kernel_rfl) (by kernel_rfl) (by kernel_rfl) (fun _ _ _ h => h) (Or.inl ⟨by rfl, ?yypb4⟩) hHeld ?rrpb4
      case yypb4 => (intro wq hSw; (try dsimp only at hSw); go_simp; first | done | with_reducible rfl)
      simp only [Act.put, List.setIfInBounds_toArray, List.set_cons_zero, List.set_cons_succ]
      refine wpAnyH_take (i := 4) (oi := ⟨some 34, _, _, _, _, _⟩) (v := ?vvpb5) rfl (by kernel_rfl) (by kernel_rfl) (by kernel_rfl) (fun _ _ _ h => h) (Or.inl ⟨by rfl, ?yypb5⟩) hHeld ?rrpb5
      case yypb5 => (intro wq hSw; (try dsimp only at hSw); go_simp; first | done | with_reducible rfl)
      simp only [Act.put, List.setIfInBounds_toArray, List.set_cons_zero, List.set_cons_succ]
      refine wpAnyH_take (i := 5) (oi := ⟨some 35, _, _, _, _, _⟩) (v := ?vvpb6) rfl (by kernel_rfl) (by kernel_rfl) (by kernel_rfl) (fun _ _ _ h => h) (Or.inl ⟨by rfl, ?yypb6⟩) hHeld ?rrpb6
      case yypb6 => (intro wq hSw; (try dsimp only at hSw); go_simp; first | done | with_reducible rfl)
      simp only [Act.put, List.setIfInBounds_toArray, List.set_cons_zero, List.set_cons_succ]
      refine wpAnyH_take (i := 6) (oi := ⟨some 36, _, _, _, _, _⟩) (v := ?vvpb7) rfl (by kernel_rfl) (by kernel_rfl) (by kernel_rfl) (fun _ _ _ h => h) (Or.inl ⟨by rfl, ?yypb7⟩) hHeld ?rrpb7
      case yypb7 => (intro wq hSw; (try dsimp only at hSw); go_simp; first | done | with_reducible rfl)
      simp only [Act.put, List.setIfInBounds_toArray, List.set_cons_zero, List.set_cons_succ]
      refine wpAnyH_ready (rs := [7]) (by kernel_rfl) (by simp) ?_
      refine AllReadyH.cons (o := ⟨some 37, _, _, _, _, _⟩) rfl (fun K hK => ?_) AllReadyH.nil
      go_simp
      refine (ownV_any v a c _ (HPA.out.below HXb.out) HPL.out).mono ?_
      rintro e ob ⟨a9, c9, rfl, ⟨p9, _⟩, b9⟩
      have HOb : Hid (Below u2.heap.size u2 ob) := Lib.hid (below_then HXb.out b9)
      have HPb := Lib.hid p9
      clear p9 b9
      try dsimp only
      refine hK.out _ _ ?sspb8 (fun hHeld => ?_)
      case sspb8 => (exact HV.out _ HOb.out)
      clear hK K
      try simp only [Act.put, List.setIfInBounds_toArray, List.set_cons_zero, List.set_cons_succ]
      refine wpAnyH_ready (rs := [8]) (by kernel_rfl) (by simp) ?_
      refine AllReadyH.cons (o := ⟨none, _, _, _, _, _⟩) rfl (fun K hK => ?_) AllReadyH.nil
      have HVT : Hid (∀ w' : World, ob.mapTurned w' vb → w'.cell? ⟨gb, 0, none⟩ = some (.map (some vb)) ∧ w'.cell? ⟨w.heap.size, 0, none⟩ = some (.int .i64 v.id) ∧ w'.cell? ⟨w.heap.size, 1, none⟩ = some (.string v.label) ∧ w'.cell? ⟨w.heap.size, 2, none⟩ = some (.slice a v.ps.length c)) := Lib.hid (fun w' t => by simp only [turned_cell t]; exact HV.out _ HOb.out)
      obtain ⟨f9, m9, h9⟩ := (HG1.out.below HOb.out).vm
      have hf9 : f9 (.int .i64 v.id) = none := h9.no v.id HID.out HF.out
      obtain ⟨t1, hrun, m2, t9⟩ := m9.store (val := v.val a9 c9) lawI Tryz.underlying163 HVL.out (keyI HID.out)
      have HGF := Lib.hid ((HG1.out.below HOb.out).putV HPb.out HCK.out HF.out h9 m2 t9)
      have HT9 := Lib.hid t9
      unfold Vt.val at hrun
      unfold Vt.val
      clear m9 h9 hf9 m2
      go_simp
      try dsimp only
      refine hK.out _ _ ?sspb9 (fun hHeld => ?_)
      case sspb9 => (exact HVT.out _ t9)
      clear hK K
      try simp only [Act.put, List.setIfInBounds_toArray, List.set_cons_zero, List.set_cons_succ]
      refine wpAnyH_done (by kernel_rfl) ?_ _
      clear hHeld
      go_wp2_with fail
      go_ret
      refine ⟨ret_int ?_, ?_, ?_⟩
      · unfold addV; rw [if_pos HCK.out, HF.out]; rfl
      · unfold addV; rw [if_pos HCK.out, HF.out]; exact HGF.out
      · exact (Chg.of_below (HBW.out.trans (HOb.out.mono HBW.out.size)) _).turned HT9.out (fun _ => rfl)
    | some y =>
      have HF := Lib.hid hf
      obtain ⟨ya, yc, hlk, _⟩ := (lookV HG1.out HID.out).2 y hf
      obtain ⟨fm, mm, _⟩ := HG1.out.vm
      have HS : Hid (∀ w' : World, Below w1.heap.size w1 w' → w'.cell? ⟨gb, 0, none⟩ = some (.map (some vb)) ∧ w'.cell? ⟨w.heap.size, 0, none⟩ = some (.int .i64 v.id) ∧ w'.cell? ⟨w.heap.size, 1, none⟩ = some (.string v.label) ∧ w'.cell? ⟨w.heap.size, 2, none⟩ = some (.slice a v.ps.length c) ∧ (Instr.lookup 163 (.map (some vb)) (.int .i64 v.id) true).run Tryz.prog w' = .ok (.tuple #[.agg #[.int .i64 y.id, .string y.label, .slice ya y.ps.length yc], .bool true]) w') := Lib.hid (fun w' hb => by
        obtain ⟨x1, x2, x3, x4⟩ := addv_cells HG1.out HB1.out hb
        exact ⟨x1, x2, x3, x4, look_stay mm lawI Tryz.underlying163 zeroV (keyI HID.out) hlk (hb.block _ mm.lt)⟩)
      clear hf hlk mm
      go_upto_region 4 with fail
      refine wp_region_held_drew (S := (fun w' : World => w'.cell? ⟨gb, 0, none⟩ = some (.map (some vb)) ∧ w'.cell? ⟨w.heap.size, 0, none⟩ = some (.int .i64 v.id) ∧ w'.cell? ⟨w.heap.size, 1, none⟩ = some (.string v.label) ∧ w'.cell? ⟨w.heap.size, 2, none⟩ = some (.slice a v.ps.length c) ∧ (Instr.lookup 163 (.map (some vb)) (.int .i64 v.id) true).run Tryz.prog w' = .ok (.tuple #[.agg #[.int .i64 y.id, .string y.label, .slice ya y.ps.length yc], .bool true]) w')) (by kernel_rfl) (HS.out _ (below_drewN (Below.refl _ _) 1)) (fun hHeld => ?_)
      obtain ⟨Xc, hGen⟩ : ∃ u, u = World.drew w1 := ⟨_, rfl⟩
      rw [← hGen] at hHeld ⊢
      have HXc : Hid (Below w1.heap.size w1 Xc) := Lib.hid (by rw [hGen]; exact below_drewN (Below.refl _ _) 1)
      clear hGen
      refine wpAnyH_take (i := 0) (oi := ⟨some 20, _, _, _, _, _⟩) (v := ?vvqc1) rfl (by kernel_rfl) (by kernel_rfl) (by kernel_rfl) (fun _ _ _ h => h) (Or.inl ⟨by rfl, ?yyqc1⟩) hHeld ?rrqc1
      case yyqc1 => (intro wq hSw; (try dsimp only at hSw); go_simp; first | done | with_reducible rfl)
      simp only [Act.put, List.setIfInBounds_toArray, List.set_cons_zero, List.set_cons_succ]
      refine wpAnyH_take (i := 1) (oi := ⟨some 21, _, _, _, _, _⟩) (v := ?vvqc2) rfl (by kernel_rfl) (by kernel_rfl) (by kernel_rfl) (fun _ _ _ h => h) (Or.inl ⟨by rfl, ?yyqc2⟩) hHeld ?rrqc2
      case yyqc2 => (intro wq hSw; (try dsimp only at hSw); go_simp; first | done | with_reducible rfl)
      simp only [Act.put, List.setIfInBounds_toArray, List.set_cons_zero, List.set_cons_succ]
      refine wpAnyH_take (i := 2) (oi := ⟨some 22, _, _, _, _, _⟩) (v := ?vvqc3) rfl (by kernel_rfl) (by kernel_rfl) (by kernel_rfl) (fun _ _ _ h => h) (Or.inl ⟨by rfl, ?yyqc3⟩) hHeld ?rrqc3
      case yyqc3 => (intro wq hSw; (try dsimp only at hSw); go_simp; first | done | with_reducible rfl)
      simp only [Act.put, List.setIfInBounds_toArray, List.set_cons_zero, List.set_cons_succ]
      refine wpAnyH_take (i := 3) (oi := ⟨some 23, _, _, _, _, _⟩) (v := ?vvqc4) rfl (by kernel_rfl) (by kernel_rfl) (by kernel_rfl) (fun _ _ _ h => h) (Or.inl ⟨by rfl, ?yyqc4⟩) hHeld ?rrqc4
      case yyqc4 => (intro wq hSw; (try dsimp only at hSw); go_simp; first | done | with_reducible rfl)
      simp only [Act.put, List.setIfInBounds_toArray, List.set_cons_zero, List.set_cons_succ]
      refine wpAnyH_take (i := 4) (oi := ⟨some 24, _, _, _, _, _⟩) (v := ?vvqc5) rfl (by kernel_rfl) (by kernel_rfl) (by kernel_rfl) (fun _ _ _ h => h) (Or.inl ⟨by rfl, ?yyqc5⟩) hHeld ?rrqc5
      case yyqc5 => (intro wq hSw; (try dsimp only at hSw); go_simp; first | done | with_reducible rfl)
      simp only [Act.put, List.setIfInBounds_toArray, List.set_cons_zero, List.set_cons_succ]
      refine wpAnyH_take (i := 5) (oi := ⟨some 25, _, _, _, _, _⟩) (v := ?vvqc6) rfl (by kernel_rfl) (by kernel_rfl) (by kernel_rfl) (fun _ _ _ h => h) (Or.inl ⟨by rfl, ?yyqc6⟩) hHeld ?rrqc6
      case yyqc6 => (intro wq hSw; (try dsimp only at hSw); go_simp; first | done | with_reducible rfl)
      simp only [Act.put, List.setIfInBounds_toArray, List.set_cons_zero, List.set_cons_succ]
      refine wpAnyH_take (i := 6) (oi := ⟨some 26, _, _, _, _, _⟩) (v := ?vvqc7) rfl (by kernel_rfl) (by kernel_rfl) (by kernel_rfl) (fun _ _ _ h => h) (Or.inl ⟨by rfl, ?yyqc7⟩) hHeld ?rrqc7
      case yyqc7 => (intro wq hSw; (try dsimp only at hSw); go_simp; first | done | with_reducible rfl)
      simp only [Act.put, List.setIfInBounds_toArray, List.set_cons_zero, List.set_cons_succ]
      refine wpAnyH_take (i := 7) (oi := ⟨some 19, _, _, _, _, _⟩) (v := ?vvqc8) rfl (by kernel_rfl) (by kernel_rfl) (by kernel_rfl) (fun _ _ _ h => h) (Or.inl ⟨by rfl, ?yyqc8⟩) hHeld ?rrqc8
      case yyqc8 => (intro wq hSw; (try dsimp only at hSw); go_simp; first | done | with_reducible rfl)
      simp only [Act.put, List.setIfInBounds_toArray, List.set_cons_zero, List.set_cons_succ]
      refine wpAnyH_take (i := 8) (oi := ⟨some 27, _, _, _, _, _⟩) (v := ?vvqc9) rfl (by kernel_rfl) (by kernel_rfl) (by kernel_rfl) (fun _ _ _ h => h) (Or.inl ⟨by rfl, ?yyqc9⟩) hHeld ?rrqc9
      case yyqc9 => (intro wq hSw; (try dsimp only at hSw); go_simp; first | done | with_reducible rfl)
      simp only [Act.put, List.setIfInBounds_toArray, List.set_cons_zero, List.set_cons_succ]
      refine wpAnyH_take (i := 9) (oi := ⟨some 28, _, _, _, _, _⟩) (v := ?vvqc10) rfl (by kernel_rfl) (by kernel_rfl) (by kernel_rfl) (fun _ _ _ h => h) (Or.inl ⟨by rfl, ?yyqc10⟩) hHeld ?rrqc10
      case yyqc10 => (intro wq hSw; (try dsimp only at hSw); go_simp; first | done | with_reducible rfl)
      simp only [Act.put, List.setIfInBounds_toArray, List.set_cons_zero, List.set_cons_succ]
      refine wpAnyH_ready (rs := [10]) (by kernel_rfl) (by simp) ?_
      refine AllReadyH.cons (o := ⟨some 6, _, _, _, _, _⟩) rfl (fun K hK => ?_) AllReadyH.nil
      go_simp
      obtain ⟨nc, hn⟩ : ∃ u, u = Xc.alloc (.cells #[.int .i64 0, .string ⟨#[]⟩, .slice none 0 0] 28) := ⟨_, rfl⟩
      obtain ⟨gc, hg⟩ : ∃ g, g = Xc.heap.size := ⟨_, rfl⟩
      rw [← hn, ← hg]
      have HAc : Hid (Below w1.heap.size w1 nc) := Lib.hid (by rw [hn]; exact below_then HXc.out (below_box _ _))
      have Ec : Hid (nc.heap[gc]? = some (.cells #[.int .i64 0, .string ⟨#[]⟩, .slice none 0 0] 28)) := Lib.hid (by rw [hn, hg]; exact heap_new _ _)
      have Lc : Hid (w1.heap.size ≤ gc) := Lib.hid (by rw [hg]; exact HXc.out.size)
      clear hn hg
      try dsimp only
      refine hK.out _ _ ?ssqc11 (fun hHeld => ?_)
      case ssqc11 => (exact HS.out _ HAc.out)
      clear hK K
      try simp only [Act.put, List.setIfInBounds_toArray, List.set_cons_zero, List.set_cons_succ]
      refine wpAnyH_ready (rs := [11]) (by kernel_rfl) (by simp) ?_
      refine AllReadyH.cons (o := ⟨none, _, _, _, _, _⟩) rfl (fun K hK => ?_) AllReadyH.nil
      have z0 := cell_of_blk Ec.out 0
      have z1 := cell_of_blk Ec.out 1
      have z2 := cell_of_blk Ec.out 2
      have y0 := frozen_of_blk Ec.out 0
      have y1 := frozen_of_blk Ec.out 1
      have y2 := frozen_of_blk Ec.out 2
      simp at z0 z1 z2
      go_simp
      obtain ⟨uc, hU⟩ : ∃ u, u = (((nc.setCell ⟨gc, 0, none⟩ (.int .i64 y.id)).setCell ⟨gc, 1, none⟩ (.string y.label)).setCell ⟨gc, 2, none⟩ (.slice ya y.ps.length yc)) := ⟨_, rfl⟩
      rw [← hU]
      have HCc : Hid (Below w1.heap.size w1 uc) := Lib.hid (by rw [hU]; exact (((HAc.out.setCell (p := ⟨gc, 0, none⟩) Lc.out _).setCell (p := ⟨gc, 1, none⟩) Lc.out _).setCell (p := ⟨gc, 2, none⟩) Lc.out _))
      clear hU z0 y0 z1 y1 z2 y2
      try dsimp only
      refine hK.out _ _ ?ssqc12 (fun hHeld => ?_)
      case ssqc12 => (exact HS.out _ HCc.out)
      clear hK K
      try simp only [Act.put, List.setIfInBounds_toArray, List.set_cons_zero, List.set_cons_succ]
      refine wpAnyH_take (i := 12) (oi := ⟨some 7, _, _, _, _, _⟩) (v := ?vvqc13) rfl (by kernel_rfl) (by kernel_rfl) (by kernel_rfl) (fun _ _ _ h => h) (Or.inl ⟨by rfl, ?yyqc13⟩) hHeld ?rrqc13
      case yyqc13 => (intro wq hSw; (try dsimp only at hSw); go_simp; first | done | with_reducible rfl)
      simp only [Act.put, List.setIfInBounds_toArray, List.set_cons_zero, List.set_cons_succ]
      refine wpAnyH_done (by kernel_rfl) ?_ _
      clear hHeld
      go_wp2_with fail
      go_ret
      refine ⟨ret_int ?_, ?_, ?_⟩
      · unfold addV; rw [if_pos HCK.out, HF.out]; rfl
      · unfold addV; rw [if_pos HCK.out, HF.out]; exact HG1.out.below HCc.out
      · exact Chg.of_below (HBW.out.trans (HCc.out.mono HBW.out.size)) _
  · obtain ⟨cr, hcr⟩ : ∃ cr, cr = checkR v.label v.ps [v.id] := ⟨_, rfl⟩
    rw [← hcr] at hck ⊢
    have h1 : (cr == 0) = false := by simpa using hck
    have h2 : (cr != 0) = true := by simpa using hck
    have HCR := Lib.hid hcr
    have HCK := Lib.hid hck
    clear hcr hck
    go_wp2_with fail
    go_ret
    have e9 : addV V v = (cr, V) := by unfold addV; rw [← HCR.out, if_neg HCK.out]
    exact ⟨by rw [e9]; rfl, by rw [e9]; exact HG1.out, Chg.of_below HBW.out _⟩
end Go.Proofs.YtonilojjahfboaaGreat
namespace Go.Proofs.YtonilojjahfboaaGreat
open Go.RowKit Go.Maps

theorem adde_cells {u w' : World} {gb vb eb kb : Nat} {V : List Vt} {E : List Eg} {v : Eg} {a : Option Addr} {c : Nat} (hg : GrC u gb vb eb V E) (hb : u.heap[kb]? = some (.cells #[.int .i64 v.id, .string v.label, .int .i64 v.fr, .int .i64 v.to, .slice a v.ps.length c] 30)) (h : Below u.heap.size u w') :
    w'.cell? ⟨gb, 0, none⟩ = some (.map (some vb)) ∧ w'.cell? ⟨gb, 1, none⟩ = some (.map (some eb)) ∧ w'.cell? ⟨kb, 0, none⟩ = some (.int .i64 v.id) ∧ w'.cell? ⟨kb, 1, none⟩ = some (.string v.label) ∧ w'.cell? ⟨kb, 2, none⟩ = some (.int .i64 v.fr) ∧ w'.cell? ⟨kb, 3, none⟩ = some (.int .i64 v.to) ∧ w'.cell? ⟨kb, 4, none⟩ = some (.slice a v.ps.length c) := by
  have e1 := (h.block _ hg.lt).trans hg.blk
  have e2 := (h.block _ (Array.getElem?_eq_some_iff.1 hb).1).trans hb
  exact ⟨by rw [cell_of_blk e1]; rfl, by rw [cell_of_blk e1]; rfl, by rw [cell_of_blk e2]; rfl, by rw [cell_of_blk e2]; rfl, by rw [cell_of_blk e2]; rfl, by rw [cell_of_blk e2]; rfl, by rw [cell_of_blk e2]; rfl⟩
theorem lookV' {w : World} {gb vb eb : Nat} {V : List Vt} {E : List Eg} (h : GrC w gb vb eb V E) {n : Int} (hn : I64 n) :
    ∃ (i : Int) (s : ByteArray) (a : Option Addr) (m c : Nat) (k : Bool), (Instr.lookup 163 (.map (some vb)) (.int .i64 n) true).run Tryz.prog w = .ok (.tuple #[.agg #[.int .i64 i, .string s, .slice a m c], .bool k]) w ∧ k = (findB Vt.id V n).isSome := by
  cases hf : findB Vt.id V n with
  | none => exact ⟨_, _, _, _, _, _, (lookV h hn).1 hf, rfl⟩
  | some y =>
    obtain ⟨a, c, h1, _⟩ := (lookV h hn).2 y hf
    exact ⟨_, _, _, _, _, _, h1, rfl⟩
theorem lookE' {w : World} {gb vb eb : Nat} {V : List Vt} {E : List Eg} (h : GrC w gb vb eb V E) {n : Int} (hn : I64 n) :
    ∃ (i : Int) (s : ByteArray) (f t : Int) (a : Option Addr) (m c : Nat) (k : Bool), (Instr.lookup 164 (.map (some eb)) (.int .i64 n) true).run Tryz.prog w = .ok (.tuple #[.agg #[.int .i64 i, .string s, .int .i64 f, .int .i64 t, .slice a m c], .bool k]) w ∧ k = (findB Eg.id E n).isSome := by
  cases hf : findB Eg.id E n with
  | none => exact ⟨_, _, _, _, _, _, _, _, (lookE h hn).1 hf, rfl⟩
  | some y =>
    obtain ⟨a, c, h1, _⟩ := (lookE h hn).2 y hf
    exact ⟨_, _, _, _, _, _, _, _, h1, rfl⟩
section
variable {V : List Vt} {E : List Eg} {v : Eg}
theorem adde_twice (hc : checkR v.label v.ps [v.id, v.fr, v.to] = 0) (h1 : true = (findB Eg.id E v.id).isSome) : addE V E v = (31, E) := by
  unfold addE; rw [if_pos hc, if_pos h1.symm]
theorem adde_none (hc : checkR v.label v.ps [v.id, v.fr, v.to] = 0) (h1 : false = (findB Eg.id E v.id).isSome) (h2 : false = (findB Vt.id V v.fr).isSome ∨ false = (findB Vt.id V v.to).isSome) : addE V E v = (101, E) := by
  unfold addE; rw [if_pos hc, if_neg (by rw [← h1]; simp), if_pos]
  rcases h2 with h2 | h2
  · have : findB Vt.id V v.fr = none := by simpa using h2.symm
    simp [this]
  · have : findB Vt.id V v.to = none := by simpa using h2.symm
    simp [this]
theorem adde_ok (hc : checkR v.label v.ps [v.id, v.fr, v.to] = 0) (h1 : false = (findB Eg.id E v.id).isSome) (h2 : true = (findB Vt.id V v.fr).isSome) (h3 : true = (findB Vt.id V v.to).isSome) : addE V E v = (0, insB Eg.id v E) := by
  unfold addE; rw [if_pos hc, if_neg (by rw [← h1]; simp), if_neg]
  simp only [Bool.or_eq_true, not_or, Option.isNone_iff_eq_none]
  exact ⟨(fun e => by rw [e] at h2; cases h2), (fun e => by rw [e] at h3; cases h3)⟩
end
set_option maxRecDepth 100000 in
set_option maxHeartbeats 4000000 in
theorem gaddE_any (gb vb eb : Nat) (V : List Vt) (E : List Eg) (v : Eg) (a : Option Addr) (c : Nat) (w : World) (h : GrC w gb vb eb V E) (hp : PsA w a c v.ps) (hl : v.ps.length ≤ 100000) (hid : I64 v.id ∧ I64 v.fr ∧ I64 v.to) (hlab : v.label.size ≤ maxLen) (hvl : E.length < maxLen) :
    Calls Tryz.prog 80 #[.pointer (some ⟨gb, 0, none⟩), v.val a c] w (AePost w gb vb eb V E v) := by
  have HX0 := Lib.hid (heap_new w (.cells #[.int .i64 v.id, .string v.label, .int .i64 v.fr, .int .i64 v.to, .slice a v.ps.length c] 30))
  have HW0 := Lib.hid ((below_box w (.cells #[.int .i64 v.id, .string v.label, .int .i64 v.fr, .int .i64 v.to, .slice a v.ps.length c] 30)).alloc (by simp) (.cells #[.int .i64 v.id, .int .i64 v.fr, .int .i64 v.to] 3))
  have HIDS : Hid (IsV ((w.alloc (.cells #[.int .i64 v.id, .string v.label, .int .i64 v.fr, .int .i64 v.to, .slice a v.ps.length c] 30)).alloc (.cells #[.int .i64 v.id, .int .i64 v.fr, .int .i64 v.to] 3)) (some ⟨w.heap.size + 1, 0, none⟩) [v.id, v.fr, v.to]) := Lib.hid (ids_at (heap_new2 w _ _) (by simp [hid.1, hid.2.1, hid.2.2]))
  have HG := Lib.hid h
  have HPA := Lib.hid hp
  have HPL := Lib.hid hl
  have HID := Lib.hid hid
  have HVL := Lib.hid hvl
  have HLB := Lib.hid hlab
  clear h hp hl hid hvl hlab
  unfold Eg.val
  go_enter Tryz.func80, Tryz.ntmps80
  go_wp2_with fail
  refine (check_any v.label a _ c 3 v.ps [v.id, v.fr, v.to] _ HLB.out (HPA.out.v.below HW0.out) HIDS.out HPL.out (by simp)).mono ?_
  rintro e w1 ⟨rfl, b1⟩
  have HB1 : Hid (w1.heap[w.heap.size]? = some (.cells #[.int .i64 v.id, .string v.label, .int .i64 v.fr, .int .i64 v.to, .slice a v.ps.length c] 30)) := Lib.hid ((b1.block _ (by simp; omega)).trans ((Below.heap_alloc _ _ _ (by simp)).trans HX0.out))
  have HBW : Hid (Below w.heap.size w w1) := Lib.hid (HW0.out.trans (b1.mono (by simp; omega)))
  replace HPA : Hid (PsA w1 a c v.ps) := Lib.hid (HPA.out.below HBW.out)
  have HG1 : Hid (GrC w1 gb vb eb V E) := Lib.hid (HG.out.below HBW.out)
  clear b1 HG HIDS
  by_cases hck : checkR v.label v.ps [v.id, v.fr, v.to] = 0
  · rw [hck]
    have HCK := Lib.hid hck
    clear hck
    obtain ⟨i1, s1, f1, t1, a1, n1, c1, k1, hlk, hqHSe⟩ := lookE' HG1.out (HID.out.1)
    have HQHSe := Lib.hid hqHSe
    obtain ⟨fm, mm, _⟩ := HG1.out.em
    have HSe : Hid (∀ w' : World, Below w1.heap.size w1 w' → w'.cell? ⟨gb, 0, none⟩ = some (.map (some vb)) ∧ w'.cell? ⟨gb, 1, none⟩ = some (.map (some eb)) ∧ w'.cell? ⟨w.heap.size, 0, none⟩ = some (.int .i64 v.id) ∧ w'.cell? ⟨w.heap.size, 1, none⟩ = some (.string v.label) ∧ w'.cell? ⟨w.heap.size, 2, none⟩ = some (.int .i64 v.fr) ∧ w'.cell? ⟨w.heap.size, 3, none⟩ = some (.int .i64 v.to) ∧ w'.cell? ⟨w.heap.size, 4, none⟩ = some (.slice a v.ps.length c) ∧ (Instr.lookup 164 (.map (some eb)) (.int .i64 v.id) true).run Tryz.prog w' = .ok (.tuple #[.agg #[.int .i64 i1, .string s1, .int .i64 f1, .int .i64 t1, .slice a1 n1 c1], .bool k1]) w') := Lib.hid (fun w' hb => by
        obtain ⟨x1, x2, x3, x4, x5, x6, x7⟩ := adde_cells HG1.out HB1.out hb
        exact ⟨x1, x2, x3, x4, x5, x6, x7, look_stay mm lawI Tryz.underlying164 zeroE (keyI (HID.out.1)) hlk (hb.block _ mm.lt)⟩)
    clear hlk mm hqHSe
    go_upto_region 4 with fail
    refine wp_region_held_drew (S := (fun w' : World => w'.cell? ⟨gb, 0, none⟩ = some (.map (some vb)) ∧ w'.cell? ⟨gb, 1, none⟩ = some (.map (some eb)) ∧ w'.cell? ⟨w.heap.size, 0, none⟩ = some (.int .i64 v.id) ∧ w'.cell? ⟨w.heap.size, 1, none⟩ = some (.string v.label) ∧ w'.cell? ⟨w.heap.size, 2, none⟩ = some (.int .i64 v.fr) ∧ w'.cell? ⟨w.heap.size, 3, none⟩ = some (.int .i64 v.to) ∧ w'.cell? ⟨w.heap.size, 4, none⟩ = some (.slice a v.ps.length c) ∧ (Instr.lookup 164 (.map (some eb)) (.int .i64 v.id) true).run Tryz.prog w' = .ok (.tuple #[.agg #[.int .i64 i1, .string s1, .int .i64 f1, .int .i64 t1, .slice a1 n1 c1], .bool k1]) w')) (by kernel_rfl) (HSe.out _ (below_drewN (Below.refl _ _) 1)) (fun hHeld => ?_)
    obtain ⟨Xe, hGen⟩ : ∃ u, u = World.drew w1 := ⟨_, rfl⟩
    rw [← hGen] at hHeld ⊢
    have HXe : Hid (Below w1.heap.size w1 Xe) := Lib.hid (by rw [hGen]; exact below_drewN (Below.refl _ _) 1)
    clear hGen
    refine wpAnyH_take (i := 0) (oi := ⟨some 28, _, _, _, _, _⟩) (v := ?vvqe1) rfl (by kernel_rfl) (by kernel_rfl) (by kernel_rfl) (fun _ _ _ h => h) (Or.inl ⟨by rfl, ?yyqe1⟩) hHeld ?rrqe1
    case yyqe1 => (intro wq hSw; (try dsimp only at hSw); go_simp; first | done | with_reducible rfl)
    simp only [Act.put, List.setIfInBounds_toArray, List.set_cons_zero, List.set_cons_succ]
    refine wpAnyH_take (i := 1) (oi := ⟨some 29, _, _, _, _, _⟩) (v := ?vvqe2) rfl (by kernel_rfl) (by kernel_rfl) (by kernel_rfl) (fun _ _ _ h => h) (Or.inl ⟨by rfl, ?yyqe2⟩) hHeld ?rrqe2
    case yyqe2 => (intro wq hSw; (try dsimp only at hSw); go_simp; first | done | with_reducible rfl)
    simp only [Act.put, List.setIfInBounds_toArray, List.set_cons_zero, List.set_cons_succ]
    refine wpAnyH_take (i := 2) (oi := ⟨some 30, _, _, _, _, _⟩) (v := ?vvqe3) rfl (by kernel_rfl) (by kernel_rfl) (by kernel_rfl) (fun _ _ _ h => h) (Or.inl ⟨by rfl, ?yyqe3⟩) hHeld ?rrqe3
    case yyqe3 => (intro wq hSw; (try dsimp only at hSw); go_simp; first | done | with_reducible rfl)
    simp only [Act.put, List.setIfInBounds_toArray, List.set_cons_zero, List.set_cons_succ]
    refine wpAnyH_take (i := 3) (oi := ⟨some 31, _, _, _, _, _⟩) (v := ?vvqe4) rfl (by kernel_rfl) (by kernel_rfl) (by kernel_rfl) (fun _ _ _ h => h) (Or.inl ⟨by rfl, ?yyqe4⟩) hHeld ?rrqe4
    case yyqe4 => (intro wq hSw; (try dsimp only at hSw); go_simp; first | done | with_reducible rfl)
    simp only [Act.put, List.setIfInBounds_toArray, List.set_cons_zero, List.set_cons_succ]
    refine wpAnyH_take (i := 4) (oi := ⟨some 32, _, _, _, _, _⟩) (v := ?vvqe5) rfl (by kernel_rfl) (by kernel_rfl) (by kernel_rfl) (fun _ _ _ h => h) (Or.inl ⟨by rfl, ?yyqe5⟩) hHeld ?rrqe5
    case yyqe5 => (intro wq hSw; (try dsimp only at hSw); go_simp; first | done | with_reducible rfl)
    simp only [Act.put, List.setIfInBounds_toArray, List.set_cons_zero, List.set_cons_succ]
    refine wpAnyH_take (i := 5) (oi := ⟨some 33, _, _, _, _, _⟩) (v := ?vvqe6) rfl (by kernel_rfl) (by kernel_rfl) (by kernel_rfl) (fun _ _ _ h => h) (Or.inl ⟨by rfl, ?yyqe6⟩) hHeld ?rrqe6
    case yyqe6 => (intro wq hSw; (try dsimp only at hSw); go_simp; first | done | with_reducible rfl)
    simp only [Act.put, List.setIfInBounds_toArray, List.set_cons_zero, List.set_cons_succ]
    refine wpAnyH_take (i := 6) (oi := ⟨some 34, _, _, _, _, _⟩) (v := ?vvqe7) rfl (by kernel_rfl) (by kernel_rfl) (by kernel_rfl) (fun _ _ _ h => h) (Or.inl ⟨by rfl, ?yyqe7⟩) hHeld ?rrqe7
    case yyqe7 => (intro wq hSw; (try dsimp only at hSw); go_simp; first | done | with_reducible rfl)
    simp only [Act.put, List.setIfInBounds_toArray, List.set_cons_zero, List.set_cons_succ]
    refine wpAnyH_take (i := 7) (oi := ⟨some 27, _, _, _, _, _⟩) (v := ?vvqe8) rfl (by kernel_rfl) (by kernel_rfl) (by kernel_rfl) (fun _ _ _ h => h) (Or.inl ⟨by rfl, ?yyqe8⟩) hHeld ?rrqe8
    case yyqe8 => (intro wq hSw; (try dsimp only at hSw); go_simp; first | done | with_reducible rfl)
    simp only [Act.put, List.setIfInBounds_toArray, List.set_cons_zero, List.set_cons_succ]
    refine wpAnyH_take (i := 8) (oi := ⟨some 35, _, _, _, _, _⟩) (v := ?vvqe9) rfl (by kernel_rfl) (by kernel_rfl) (by kernel_rfl) (fun _ _ _ h => h) (Or.inl ⟨by rfl, ?yyqe9⟩) hHeld ?rrqe9
    case yyqe9 => (intro wq hSw; (try dsimp only at hSw); go_simp; first | done | with_reducible rfl)
    simp only [Act.put, List.setIfInBounds_toArray, List.set_cons_zero, List.set_cons_succ]
    refine wpAnyH_take (i := 9) (oi := ⟨some 36, _, _, _, _, _⟩) (v := ?vvqe10) rfl (by kernel_rfl) (by kernel_rfl) (by kernel_rfl) (fun _ _ _ h => h) (Or.inl ⟨by rfl, ?yyqe10⟩) hHeld ?rrqe10
    case yyqe10 => (intro wq hSw; (try dsimp only at hSw); go_simp; first | done | with_reducible rfl)
    simp only [Act.put, List.setIfInBounds_toArray, List.set_cons_zero, List.set_cons_succ]
    refine wpAnyH_ready (rs := [10]) (by kernel_rfl) (by simp) ?_
    refine AllReadyH.cons (o := ⟨some 6, _, _, _, _, _⟩) rfl (fun K hK => ?_) AllReadyH.nil
    go_simp
    obtain ⟨ne, hn⟩ : ∃ u, u = Xe.alloc (.cells #[.int .i64 0, .string ⟨#[]⟩, .int .i64 0, .int .i64 0, .slice none 0 0] 30) := ⟨_, rfl⟩
    obtain ⟨ge, hg⟩ : ∃ g, g = Xe.heap.size := ⟨_, rfl⟩
    rw [← hn, ← hg]
    have HAe : Hid (Below w1.heap.size w1 ne) := Lib.hid (by rw [hn]; exact below_then HXe.out (below_box _ _))
    have Ee : Hid (ne.heap[ge]? = some (.cells #[.int .i64 0, .string ⟨#[]⟩, .int .i64 0, .int .i64 0, .slice none 0 0] 30)) := Lib.hid (by rw [hn, hg]; exact heap_new _ _)
    have Le : Hid (w1.heap.size ≤ ge) := Lib.hid (by rw [hg]; exact HXe.out.size)
    clear hn hg
    try dsimp only
    refine hK.out _ _ ?ssqe11 (fun hHeld => ?_)
    case ssqe11 => (exact HSe.out _ HAe.out)
    clear hK K
    try simp only [Act.put, List.setIfInBounds_toArray, List.set_cons_zero, List.set_cons_succ]
    refine wpAnyH_ready (rs := [11]) (by kernel_rfl) (by simp) ?_
    refine AllReadyH.cons (o := ⟨none, _, _, _, _, _⟩) rfl (fun K hK => ?_) AllReadyH.nil
    have z0 := cell_of_blk Ee.out 0
    have z1 := cell_of_blk Ee.out 1
    have z2 := cell_of_blk Ee.out 2
    have z3 := cell_of_blk Ee.out 3
    have z4 := cell_of_blk Ee.out 4
    have y0 := frozen_of_blk Ee.out 0
    have y1 := frozen_of_blk Ee.out 1
    have y2 := frozen_of_blk Ee.out 2
    have y3 := frozen_of_blk Ee.out 3
    have y4 := frozen_of_blk Ee.out 4
    simp at z0 z1 z2 z3 z4
    go_simp
    obtain ⟨ue, hU⟩ : ∃ u, u = (((((ne.setCell ⟨ge, 0, none⟩ (.int .i64 i1)).setCell ⟨ge, 1, none⟩ (.string s1)).setCell ⟨ge, 2, none⟩ (.int .i64 f1)).setCell ⟨ge, 3, none⟩ (.int .i64 t1)).setCell ⟨ge, 4, none⟩ (.slice a1 n1 c1)) := ⟨_, rfl⟩
    rw [← hU]
    have HCe : Hid (Below w1.heap.size w1 ue) := Lib.hid (by rw [hU]; exact (((((HAe.out.setCell (p := ⟨ge, 0, none⟩) Le.out _).setCell (p := ⟨ge, 1, none⟩) Le.out _).setCell (p := ⟨ge, 2, none⟩) Le.out _).setCell (p := ⟨ge, 3, none⟩) Le.out _).setCell (p := ⟨ge, 4, none⟩) Le.out _))
    clear hU z0 y0 z1 y1 z2 y2 z3 y3 z4 y4
    try dsimp only
    refine hK.out _ _ ?ssqe12 (fun hHeld => ?_)
    case ssqe12 => (exact HSe.out _ HCe.out)
    clear hK K
    try simp only [Act.put, List.setIfInBounds_toArray, List.set_cons_zero, List.set_cons_succ]
    refine wpAnyH_take (i := 12) (oi := ⟨some 7, _, _, _, _, _⟩) (v := ?vvqe13) rfl (by kernel_rfl) (by kernel_rfl) (by kernel_rfl) (fun _ _ _ h => h) (Or.inl ⟨by rfl, ?yyqe13⟩) hHeld ?rrqe13
    case yyqe13 => (intro wq hSw; (try dsimp only at hSw); go_simp; first | done | with_reducible rfl)
    simp only [Act.put, List.setIfInBounds_toArray, List.set_cons_zero, List.set_cons_succ]
    refine wpAnyH_done (by kernel_rfl) ?_ _
    clear hHeld
    obtain ⟨u2, hu2⟩ : ∃ u, u = ue := ⟨_, rfl⟩
    rw [← hu2] at HCe ⊢
    clear hu2
    replace HG1 : Hid (GrC u2 gb vb eb V E) := Lib.hid (HG1.out.below HCe.out)
    replace HBW : Hid (Below w.heap.size w u2) := Lib.hid (HBW.out.trans (HCe.out.mono HBW.out.size))
    replace HPA : Hid (PsA u2 a c v.ps) := Lib.hid (HPA.out.below HCe.out)
    replace HB1 : Hid (u2.heap[w.heap.size]? = some (.cells #[.int .i64 v.id, .string v.label, .int .i64 v.fr, .int .i64 v.to, .slice a v.ps.length c] 30)) := Lib.hid ((HCe.out.block _ (Array.getElem?_eq_some_iff.1 HB1.out).1).trans HB1.out)
    clear HCe
    obtain ⟨i2, s2, a2, n2, c2, k2, hlk, hqHSf⟩ := lookV' HG1.out (HID.out.2.1)
    have HQHSf := Lib.hid hqHSf
    obtain ⟨fm, mm, _⟩ := HG1.out.vm
    have HSf : Hid (∀ w' : World, Below u2.heap.size u2 w' → w'.cell? ⟨gb, 0, none⟩ = some (.map (some vb)) ∧ w'.cell? ⟨gb, 1, none⟩ = some (.map (some eb)) ∧ w'.cell? ⟨w.heap.size, 0, none⟩ = some (.int .i64 v.id) ∧ w'.cell? ⟨w.heap.size, 1, none⟩ = some (.string v.label) ∧ w'.cell? ⟨w.heap.size, 2, none⟩ = some (.int .i64 v.fr) ∧ w'.cell? ⟨w.heap.size, 3, none⟩ = some (.int .i64 v.to) ∧ w'.cell? ⟨w.heap.size, 4, none⟩ = some (.slice a v.ps.length c) ∧ (Instr.lookup 163 (.map (some vb)) (.int .i64 v.fr) true).run Tryz.prog w' = .ok (.tuple #[.agg #[.int .i64 i2, .string s2, .slice a2 n2 c2], .bool k2]) w') := Lib.hid (fun w' hb => by
        obtain ⟨x1, x2, x3, x4, x5, x6, x7⟩ := adde_cells HG1.out HB1.out hb
        exact ⟨x1, x2, x3, x4, x5, x6, x7, look_stay mm lawI Tryz.underlying163 zeroV (keyI (HID.out.2.1)) hlk (hb.block _ mm.lt)⟩)
    clear hlk mm hqHSf
    go_upto_region 5 with fail
    refine wp_region_held_drew (S := (fun w' : World => w'.cell? ⟨gb, 0, none⟩ = some (.map (some vb)) ∧ w'.cell? ⟨gb, 1, none⟩ = some (.map (some eb)) ∧ w'.cell? ⟨w.heap.size, 0, none⟩ = some (.int .i64 v.id) ∧ w'.cell? ⟨w.heap.size, 1, none⟩ = some (.string v.label) ∧ w'.cell? ⟨w.heap.size, 2, none⟩ = some (.int .i64 v.fr) ∧ w'.cell? ⟨w.heap.size, 3, none⟩ = some (.int .i64 v.to) ∧ w'.cell? ⟨w.heap.size, 4, none⟩ = some (.slice a v.ps.length c) ∧ (Instr.lookup 163 (.map (some vb)) (.int .i64 v.fr) true).run Tryz.prog w' = .ok (.tuple #[.agg #[.int .i64 i2, .string s2, .slice a2 n2 c2], .bool k2]) w')) (by kernel_rfl) (HSf.out _ (below_drewN (Below.refl _ _) 1)) (fun hHeld => ?_)
    obtain ⟨Xf, hGen⟩ : ∃ u, u = World.drew u2 := ⟨_, rfl⟩
    rw [← hGen] at hHeld ⊢
    have HXf : Hid (Below u2.heap.size u2 Xf) := Lib.hid (by rw [hGen]; exact below_drewN (Below.refl _ _) 1)
    clear hGen
    refine wpAnyH_take (i := 0) (oi := ⟨some 38, _, _, _, _, _⟩) (v := ?vvqf1) rfl (by kernel_rfl) (by kernel_rfl) (by kernel_rfl) (fun _ _ _ h => h) (Or.inl ⟨by rfl, ?yyqf1⟩) hHeld ?rrqf1
    case yyqf1 => (intro wq hSw; (try dsimp only at hSw); go_simp; first | done | with_reducible rfl)
    simp only [Act.put, List.setIfInBounds_toArray, List.set_cons_zero, List.set_cons_succ]
    refine wpAnyH_take (i := 1) (oi := ⟨some 39, _, _, _, _, _⟩) (v := ?vvqf2) rfl (by kernel_rfl) (by kernel_rfl) (by kernel_rfl) (fun _ _ _ h => h) (Or.inl ⟨by rfl, ?yyqf2⟩) hHeld ?rrqf2
    case yyqf2 => (intro wq hSw; (try dsimp only at hSw); go_simp; first | done | with_reducible rfl)
    simp only [Act.put, List.setIfInBounds_toArray, List.set_cons_zero, List.set_cons_succ]
    refine wpAnyH_take (i := 2) (oi := ⟨some 40, _, _, _, _, _⟩) (v := ?vvqf3) rfl (by kernel_rfl) (by kernel_rfl) (by kernel_rfl) (fun _ _ _ h => h) (Or.inl ⟨by rfl, ?yyqf3⟩) hHeld ?rrqf3
    case yyqf3 => (intro wq hSw; (try dsimp only at hSw); go_simp; first | done | with_reducible rfl)
    simp only [Act.put, List.setIfInBounds_toArray, List.set_cons_zero, List.set_cons_succ]
    refine wpAnyH_take (i := 3) (oi := ⟨some 41, _, _, _, _, _⟩) (v := ?vvqf4) rfl (by kernel_rfl) (by kernel_rfl) (by kernel_rfl) (fun _ _ _ h => h) (Or.inl ⟨by rfl, ?yyqf4⟩) hHeld ?rrqf4
    case yyqf4 => (intro wq hSw; (try dsimp only at hSw); go_simp; first | done | with_reducible rfl)
    simp only [Act.put, List.setIfInBounds_toArray, List.set_cons_zero, List.set_cons_succ]
    refine wpAnyH_take (i := 4) (oi := ⟨some 42, _, _, _, _, _⟩) (v := ?vvqf5) rfl (by kernel_rfl) (by kernel_rfl) (by kernel_rfl) (fun _ _ _ h => h) (Or.inl ⟨by rfl, ?yyqf5⟩) hHeld ?rrqf5
    case yyqf5 => (intro wq hSw; (try dsimp only at hSw); go_simp; first | done | with_reducible rfl)
    simp only [Act.put, List.setIfInBounds_toArray, List.set_cons_zero, List.set_cons_succ]
    refine wpAnyH_take (i := 5) (oi := ⟨some 43, _, _, _, _, _⟩) (v := ?vvqf6) rfl (by kernel_rfl) (by kernel_rfl) (by kernel_rfl) (fun _ _ _ h => h) (Or.inl ⟨by rfl, ?yyqf6⟩) hHeld ?rrqf6
    case yyqf6 => (intro wq hSw; (try dsimp only at hSw); go_simp; first | done | with_reducible rfl)
    simp only [Act.put, List.setIfInBounds_toArray, List.set_cons_zero, List.set_cons_succ]
    refine wpAnyH_take (i := 6) (oi := ⟨some 44, _, _, _, _, _⟩) (v := ?vvqf7) rfl (by kernel_rfl) (by kernel_rfl) (by kernel_rfl) (fun _ _ _ h => h) (Or.inl ⟨by rfl, ?yyqf7⟩) hHeld ?rrqf7
    case yyqf7 => (intro wq hSw; (try dsimp only at hSw); go_simp; first | done | with_reducible rfl)
    simp only [Act.put, List.setIfInBounds_toArray, List.set_cons_zero, List.set_cons_succ]
    refine wpAnyH_take (i := 7) (oi := ⟨some 37, _, _, _, _, _⟩) (v := ?vvqf8) rfl (by kernel_rfl) (by kernel_rfl) (by kernel_rfl) (fun _ _ _ h => h) (Or.inl ⟨by rfl, ?yyqf8⟩) hHeld ?rrqf8
    case yyqf8 => (intro wq hSw; (try dsimp only at hSw); go_simp; first | done | with_reducible rfl)
    simp only [Act.put, List.setIfInBounds_toArray, List.set_cons_zero, List.set_cons_succ]
    refine wpAnyH_take (i := 8) (oi := ⟨some 45, _, _, _, _, _⟩) (v := ?vvqf9) rfl (by kernel_rfl) (by kernel_rfl) (by kernel_rfl) (fun _ _ _ h => h) (Or.inl ⟨by rfl, ?yyqf9⟩) hHeld ?rrqf9
    case yyqf9 => (intro wq hSw; (try dsimp only at hSw); go_simp; first | done | with_reducible rfl)
    simp only [Act.put, List.setIfInBounds_toArray, List.set_cons_zero, List.set_cons_succ]
    refine wpAnyH_take (i := 9) (oi := ⟨some 46, _, _, _, _, _⟩) (v := ?vvqf10) rfl (by kernel_rfl) (by kernel_rfl) (by kernel_rfl) (fun _ _ _ h => h) (Or.inl ⟨by rfl, ?yyqf10⟩) hHeld ?rrqf10
    case yyqf10 => (intro wq hSw; (try dsimp only at hSw); go_simp; first | done | with_reducible rfl)
    simp only [Act.put, List.setIfInBounds_toArray, List.set_cons_zero, List.set_cons_succ]
    refine wpAnyH_ready (rs := [10]) (by kernel_rfl) (by simp) ?_
    refine AllReadyH.cons (o := ⟨some 8, _, _, _, _, _⟩) rfl (fun K hK => ?_) AllReadyH.nil
    go_simp
    obtain ⟨nf, hn⟩ : ∃ u, u = Xf.alloc (.cells #[.int .i64 0, .string ⟨#[]⟩, .slice none 0 0] 28) := ⟨_, rfl⟩
    obtain ⟨gf, hg⟩ : ∃ g, g = Xf.heap.size := ⟨_, rfl⟩
    rw [← hn, ← hg]
    have HAf : Hid (Below u2.heap.size u2 nf) := Lib.hid (by rw [hn]; exact below_then HXf.out (below_box _ _))
    have Ef : Hid (nf.heap[gf]? = some (.cells #[.int .i64 0, .string ⟨#[]⟩, .slice none 0 0] 28)) := Lib.hid (by rw [hn, hg]; exact heap_new _ _)
    have Lf : Hid (u2.heap.size ≤ gf) := Lib.hid (by rw [hg]; exact HXf.out.size)
    clear hn hg
    try dsimp only
    refine hK.out _ _ ?ssqf11 (fun hHeld => ?_)
    case ssqf11 => (exact HSf.out _ HAf.out)
    clear hK K
    try simp only [Act.put, List.setIfInBounds_toArray, List.set_cons_zero, List.set_cons_succ]
    refine wpAnyH_ready (rs := [11]) (by kernel_rfl) (by simp) ?_
    refine AllReadyH.cons (o := ⟨none, _, _, _, _, _⟩) rfl (fun K hK => ?_) AllReadyH.nil
    have z0 := cell_of_blk Ef.out 0
    have z1 := cell_of_blk Ef.out 1
    have z2 := cell_of_blk Ef.out 2
    have y0 := frozen_of_blk Ef.out 0
    have y1 := frozen_of_blk Ef.out 1
    have y2 := frozen_of_blk Ef.out 2
    simp at z0 z1 z2
    go_simp
    obtain ⟨uf, hU⟩ : ∃ u, u = (((nf.setCell ⟨gf, 0, none⟩ (.int .i64 i2)).setCell ⟨gf, 1, none⟩ (.string s2)).setCell ⟨gf, 2, none⟩ (.slice a2 n2 c2)) := ⟨_, rfl⟩
    rw [← hU]
    have HCf : Hid (Below u2.heap.size u2 uf) := Lib.hid (by rw [hU]; exact (((HAf.out.setCell (p := ⟨gf, 0, none⟩) Lf.out _).setCell (p := ⟨gf, 1, none⟩) Lf.out _).setCell (p := ⟨gf, 2, none⟩) Lf.out _))
    clear hU z0 y0 z1 y1 z2 y2
    try dsimp only
    refine hK.out _ _ ?ssqf12 (fun hHeld => ?_)
    case ssqf12 => (exact HSf.out _ HCf.out)
    clear hK K
    try simp only [Act.put, List.setIfInBounds_toArray, List.set_cons_zero, List.set_cons_succ]
    refine wpAnyH_take (i := 12) (oi := ⟨some 9, _, _, _, _, _⟩) (v := ?vvqf13) rfl (by kernel_rfl) (by kernel_rfl) (by kernel_rfl) (fun _ _ _ h => h) (Or.inl ⟨by rfl, ?yyqf13⟩) hHeld ?rrqf13
    case yyqf13 => (intro wq hSw; (try dsimp only at hSw); go_simp; first | done | with_reducible rfl)
    simp only [Act.put, List.setIfInBounds_toArray, List.set_cons_zero, List.set_cons_succ]
    refine wpAnyH_done (by kernel_rfl) ?_ _
    clear hHeld
    obtain ⟨u3, hu2⟩ : ∃ u, u = uf := ⟨_, rfl⟩
    rw [← hu2] at HCf ⊢
    clear hu2
    replace HG1 : Hid (GrC u3 gb vb eb V E) := Lib.hid (HG1.out.below HCf.out)
    replace HBW : Hid (Below w.heap.size w u3) := Lib.hid (HBW.out.trans (HCf.out.mono HBW.out.size))
    replace HPA : Hid (PsA u3 a c v.ps) := Lib.hid (HPA.out.below HCf.out)
    replace HB1 : Hid (u3.heap[w.heap.size]? = some (.cells #[.int .i64 v.id, .string v.label, .int .i64 v.fr, .int .i64 v.to, .slice a v.ps.length c] 30)) := Lib.hid ((HCf.out.block _ (Array.getElem?_eq_some_iff.1 HB1.out).1).trans HB1.out)
    clear HCf
    obtain ⟨i3, s3, a3, n3, c3, k3, hlk, hqHSt⟩ := lookV' HG1.out (HID.out.2.2)
    have HQHSt := Lib.hid hqHSt
    obtain ⟨fm, mm, _⟩ := HG1.out.vm
    have HSt : Hid (∀ w' : World, Below u3.heap.size u3 w' → w'.cell? ⟨gb, 0, none⟩ = some (.map (some vb)) ∧ w'.cell? ⟨gb, 1, none⟩ = some (.map (some eb)) ∧ w'.cell? ⟨w.heap.size, 0, none⟩ = some (.int .i64 v.id) ∧ w'.cell? ⟨w.heap.size, 1, none⟩ = some (.string v.label) ∧ w'.cell? ⟨w.heap.size, 2, none⟩ = some (.int .i64 v.fr) ∧ w'.cell? ⟨w.heap.size, 3, none⟩ = some (.int .i64 v.to) ∧ w'.cell? ⟨w.heap.size, 4, none⟩ = some (.slice a v.ps.length c) ∧ (Instr.lookup 163 (.map (some vb)) (.int .i64 v.to) true).run Tryz.prog w' = .ok (.tuple #[.agg #[.int .i64 i3, .string s3, .slice a3 n3 c3], .bool k3]) w') := Lib.hid (fun w' hb => by
        obtain ⟨x1, x2, x3, x4, x5, x6, x7⟩ := adde_cells HG1.out HB1.out hb
        exact ⟨x1, x2, x3, x4, x5, x6, x7, look_stay mm lawI Tryz.underlying163 zeroV (keyI (HID.out.2.2)) hlk (hb.block _ mm.lt)⟩)
    clear hlk mm hqHSt
    go_upto_region 6 with fail
    refine wp_region_held_drew (S := (fun w' : World => w'.cell? ⟨gb, 0, none⟩ = some (.map (some vb)) ∧ w'.cell? ⟨gb, 1, none⟩ = some (.map (some eb)) ∧ w'.cell? ⟨w.heap.size, 0, none⟩ = some (.int .i64 v.id) ∧ w'.cell? ⟨w.heap.size, 1, none⟩ = some (.string v.label) ∧ w'.cell? ⟨w.heap.size, 2, none⟩ = some (.int .i64 v.fr) ∧ w'.cell? ⟨w.heap.size, 3, none⟩ = some (.int .i64 v.to) ∧ w'.cell? ⟨w.heap.size, 4, none⟩ = some (.slice a v.ps.length c) ∧ (Instr.lookup 163 (.map (some vb)) (.int .i64 v.to) true).run Tryz.prog w' = .ok (.tuple #[.agg #[.int .i64 i3, .string s3, .slice a3 n3 c3], .bool k3]) w')) (by kernel_rfl) (HSt.out _ (below_drewN (Below.refl _ _) 1)) (fun hHeld => ?_)
    obtain ⟨Xt, hGen⟩ : ∃ u, u = World.drew u3 := ⟨_, rfl⟩
    rw [← hGen] at hHeld ⊢
    have HXt : Hid (Below u3.heap.size u3 Xt) := Lib.hid (by rw [hGen]; exact below_drewN (Below.refl _ _) 1)
    clear hGen
    refine wpAnyH_take (i := 0) (oi := ⟨some 48, _, _, _, _, _⟩) (v := ?vvqt1) rfl (by kernel_rfl) (by kernel_rfl) (by kernel_rfl) (fun _ _ _ h => h) (Or.inl ⟨by rfl, ?yyqt1⟩) hHeld ?rrqt1
    case yyqt1 => (intro wq hSw; (try dsimp only at hSw); go_simp; first | done | with_reducible rfl)
    simp only [Act.put, List.setIfInBounds_toArray, List.set_cons_zero, List.set_cons_succ]
    refine wpAnyH_take (i := 1) (oi := ⟨some 49, _, _, _, _, _⟩) (v := ?vvqt2) rfl (by kernel_rfl) (by kernel_rfl) (by kernel_rfl) (fun _ _ _ h => h) (Or.inl ⟨by rfl, ?yyqt2⟩) hHeld ?rrqt2
    case yyqt2 => (intro wq hSw; (try dsimp only at hSw); go_simp; first | done | with_reducible rfl)
    simp only [Act.put, List.setIfInBounds_toArray, List.set_cons_zero, List.set_cons_succ]
    refine wpAnyH_take (i := 2) (oi := ⟨some 50, _, _, _, _, _⟩) (v := ?vvqt3) rfl (by kernel_rfl) (by kernel_rfl) (by kernel_rfl) (fun _ _ _ h => h) (Or.inl ⟨by rfl, ?yyqt3⟩) hHeld ?rrqt3
    case yyqt3 => (intro wq hSw; (try dsimp only at hSw); go_simp; first | done | with_reducible rfl)
    simp only [Act.put, List.setIfInBounds_toArray, List.set_cons_zero, List.set_cons_succ]
    refine wpAnyH_take (i := 3) (oi := ⟨some 51, _, _, _, _, _⟩) (v := ?vvqt4) rfl (by kernel_rfl) (by kernel_rfl) (by kernel_rfl) (fun _ _ _ h => h) (Or.inl ⟨by rfl, ?yyqt4⟩) hHeld ?rrqt4
    case yyqt4 => (intro wq hSw; (try dsimp only at hSw); go_simp; first | done | with_reducible rfl)
    simp only [Act.put, List.setIfInBounds_toArray, List.set_cons_zero, List.set_cons_succ]
    refine wpAnyH_take (i := 4) (oi := ⟨some 52, _, _, _, _, _⟩) (v := ?vvqt5) rfl (by kernel_rfl) (by kernel_rfl) (by kernel_rfl) (fun _ _ _ h => h) (Or.inl ⟨by rfl, ?yyqt5⟩) hHeld ?rrqt5
    case yyqt5 => (intro wq hSw; (try dsimp only at hSw); go_simp; first | done | with_reducible rfl)
    simp only [Act.put, List.setIfInBounds_toArray, List.set_cons_zero, List.set_cons_succ]
    refine wpAnyH_take (i := 5) (oi := ⟨some 53, _, _, _, _, _⟩) (v := ?vvqt6) rfl (by kernel_rfl) (by kernel_rfl) (by kernel_rfl) (fun _ _ _ h => h) (Or.inl ⟨by rfl, ?yyqt6⟩) hHeld ?rrqt6
    case yyqt6 => (intro wq hSw; (try dsimp only at hSw); go_simp; first | done | with_reducible rfl)
    simp only [Act.put, List.setIfInBounds_toArray, List.set_cons_zero, List.set_cons_succ]
    refine wpAnyH_take (i := 6) (oi := ⟨some 54, _, _, _, _, _⟩) (v := ?vvqt7) rfl (by kernel_rfl) (by kernel_rfl) (by kernel_rfl) (fun _ _ _ h => h) (Or.inl ⟨by rfl, ?yyqt7⟩) hHeld ?rrqt7
    case yyqt7 => (intro wq hSw; (try dsimp only at hSw); go_simp; first | done | with_reducible rfl)
    simp only [Act.put, List.setIfInBounds_toArray, List.set_cons_zero, List.set_cons_succ]
    refine wpAnyH_take (i := 7) (oi := ⟨some 47, _, _, _, _, _⟩) (v := ?vvqt8) rfl (by kernel_rfl) (by kernel_rfl) (by kernel_rfl) (fun _ _ _ h => h) (Or.inl ⟨by rfl, ?yyqt8⟩) hHeld ?rrqt8
    case yyqt8 => (intro wq hSw; (try dsimp only at hSw); go_simp; first | done | with_reducible rfl)
    simp only [Act.put, List.setIfInBounds_toArray, List.set_cons_zero, List.set_cons_succ]
    refine wpAnyH_take (i := 8) (oi := ⟨some 55, _, _, _, _, _⟩) (v := ?vvqt9) rfl (by kernel_rfl) (by kernel_rfl) (by kernel_rfl) (fun _ _ _ h => h) (Or.inl ⟨by rfl, ?yyqt9⟩) hHeld ?rrqt9
    case yyqt9 => (intro wq hSw; (try dsimp only at hSw); go_simp; first | done | with_reducible rfl)
    simp only [Act.put, List.setIfInBounds_toArray, List.set_cons_zero, List.set_cons_succ]
    refine wpAnyH_take (i := 9) (oi := ⟨some 56, _, _, _, _, _⟩) (v := ?vvqt10) rfl (by kernel_rfl) (by kernel_rfl) (by kernel_rfl) (fun _ _ _ h => h) (Or.inl ⟨by rfl, ?yyqt10⟩) hHeld ?rrqt10
    case yyqt10 => (intro wq hSw; (try dsimp only at hSw); go_simp; first | done | with_reducible rfl)
    simp only [Act.put, List.setIfInBounds_toArray, List.set_cons_zero, List.set_cons_succ]
    refine wpAnyH_ready (rs := [10]) (by kernel_rfl) (by simp) ?_
    refine AllReadyH.cons (o := ⟨some 10, _, _, _, _, _⟩) rfl (fun K hK => ?_) AllReadyH.nil
    go_simp
    obtain ⟨nt, hn⟩ : ∃ u, u = Xt.alloc (.cells #[.int .i64 0, .string ⟨#[]⟩, .slice none 0 0] 28) := ⟨_, rfl⟩
    obtain ⟨gt, hg⟩ : ∃ g, g = Xt.heap.size := ⟨_, rfl⟩
    rw [← hn, ← hg]
    have HAt : Hid (Below u3.heap.size u3 nt) := Lib.hid (by rw [hn]; exact below_then HXt.out (below_box _ _))
    have Et : Hid (nt.heap[gt]? = some (.cells #[.int .i64 0, .string ⟨#[]⟩, .slice none 0 0] 28)) := Lib.hid (by rw [hn, hg]; exact heap_new _ _)
    have Lt : Hid (u3.heap.size ≤ gt) := Lib.hid (by rw [hg]; exact HXt.out.size)
    clear hn hg
    try dsimp only
    refine hK.out _ _ ?ssqt11 (fun hHeld => ?_)
    case ssqt11 => (exact HSt.out _ HAt.out)
    clear hK K
    try simp only [Act.put, List.setIfInBounds_toArray, List.set_cons_zero, List.set_cons_succ]
    refine wpAnyH_ready (rs := [11]) (by kernel_rfl) (by simp) ?_
    refine AllReadyH.cons (o := ⟨none, _, _, _, _, _⟩) rfl (fun K hK => ?_) AllReadyH.nil
    have z0 := cell_of_blk Et.out 0
    have z1 := cell_of_blk Et.out 1
    have z2 := cell_of_blk Et.out 2
    have y0 := frozen_of_blk Et.out 0
    have y1 := frozen_of_blk Et.out 1
    have y2 := frozen_of_blk Et.out 2
    simp at z0 z1 z2
    go_simp
    obtain ⟨ut, hU⟩ : ∃ u, u = (((nt.setCell ⟨gt, 0, none⟩ (.int .i64 i3)).setCell ⟨gt, 1, none⟩ (.string s3)).setCell ⟨gt, 2, none⟩ (.slice a3 n3 c3)) := ⟨_, rfl⟩
    rw [← hU]
    have HCt : Hid (Below u3.heap.size u3 ut) := Lib.hid (by rw [hU]; exact (((HAt.out.setCell (p := ⟨gt, 0, none⟩) Lt.out _).setCell (p := ⟨gt, 1, none⟩) Lt.out _).setCell (p := ⟨gt, 2, none⟩) Lt.out _))
    clear hU z0 y0 z1 y1 z2 y2
    try dsimp only
    refine hK.out _ _ ?ssqt12 (fun hHeld => ?_)
    case ssqt12 => (exact HSt.out _ HCt.out)
    clear hK K
    try simp only [Act.put, List.setIfInBounds_toArray, List.set_cons_zero, List.set_cons_succ]
    refine wpAnyH_take (i := 12) (oi := ⟨some 11, _, _, _, _, _⟩) (v := ?vvqt13) rfl (by kernel_rfl) (by kernel_rfl) (by kernel_rfl) (fun _ _ _ h => h) (Or.inl ⟨by rfl, ?yyqt13⟩) hHeld ?rrqt13
    case yyqt13 => (intro wq hSw; (try dsimp only at hSw); go_simp; first | done | with_reducible rfl)
    simp only [Act.put, List.setIfInBounds_toArray, List.set_cons_zero, List.set_cons_succ]
    refine wpAnyH_done (by kernel_rfl) ?_ _
    clear hHeld
    obtain ⟨u4, hu2⟩ : ∃ u, u = ut := ⟨_, rfl⟩
    rw [← hu2] at HCt ⊢
    clear hu2
    replace HG1 : Hid (GrC u4 gb vb eb V E) := Lib.hid (HG1.out.below HCt.out)
    replace HBW : Hid (Below w.heap.size w u4) := Lib.hid (HBW.out.trans (HCt.out.mono HBW.out.size))
    replace HPA : Hid (PsA u4 a c v.ps) := Lib.hid (HPA.out.below HCt.out)
    replace HB1 : Hid (u4.heap[w.heap.size]? = some (.cells #[.int .i64 v.id, .string v.label, .int .i64 v.fr, .int .i64 v.to, .slice a v.ps.length c] 30)) := Lib.hid ((HCt.out.block _ (Array.getElem?_eq_some_iff.1 HB1.out).1).trans HB1.out)
    clear HCt
    go_upto_region 7 with fail
    cases k1
    · cases k2
      · go_wp2_with fail
        go_ret
        have e9 := adde_none (V := V) HCK.out HQHSe.out (.inl HQHSf.out)
        exact ⟨by rw [e9]; rfl, by rw [e9]; exact HG1.out, Chg.of_below HBW.out _⟩
      · cases k3
        · go_wp2_with fail
          go_ret
          have e9 := adde_none (V := V) HCK.out HQHSe.out (.inr HQHSt.out)
          exact ⟨by rw [e9]; rfl, by rw [e9]; exact HG1.out, Chg.of_below HBW.out _⟩
        · go_upto_region 11 with fail
          have HV : Hid (∀ w' : World, Below u4.heap.size u4 w' → w'.cell? ⟨gb, 0, none⟩ = some (.map (some vb)) ∧ w'.cell? ⟨gb, 1, none⟩ = some (.map (some eb)) ∧ w'.cell? ⟨w.heap.size, 0, none⟩ = some (.int .i64 v.id) ∧ w'.cell? ⟨w.heap.size, 1, none⟩ = some (.string v.label) ∧ w'.cell? ⟨w.heap.size, 2, none⟩ = some (.int .i64 v.fr) ∧ w'.cell? ⟨w.heap.size, 3, none⟩ = some (.int .i64 v.to) ∧ w'.cell? ⟨w.heap.size, 4, none⟩ = some (.slice a v.ps.length c)) := Lib.hid (fun w' hb => adde_cells HG1.out HB1.out hb)
          refine wp_region_held_drew (S := (fun w' : World => w'.cell? ⟨gb, 0, none⟩ = some (.map (some vb)) ∧ w'.cell? ⟨gb, 1, none⟩ = some (.map (some eb)) ∧ w'.cell? ⟨w.heap.size, 0, none⟩ = some (.int .i64 v.id) ∧ w'.cell? ⟨w.heap.size, 1, none⟩ = some (.string v.label) ∧ w'.cell? ⟨w.heap.size, 2, none⟩ = some (.int .i64 v.fr) ∧ w'.cell? ⟨w.heap.size, 3, none⟩ = some (.int .i64 v.to) ∧ w'.cell? ⟨w.heap.size, 4, none⟩ = some (.slice a v.ps.length c))) (by kernel_rfl) (HV.out _ (below_drewN (Below.refl _ _) 1)) (fun hHeld => ?_)
          obtain ⟨Xz, hGen⟩ : ∃ u, u = World.drew u4 := ⟨_, rfl⟩
          rw [← hGen] at hHeld ⊢
          have HXz : Hid (Below u4.heap.size u4 Xz) := Lib.hid (by rw [hGen]; exact below_drewN (Below.refl _ _) 1)
          clear hGen
          refine wpAnyH_take (i := 0) (oi := ⟨some 66, _, _, _, _, _⟩) (v := ?vvpz1) rfl (by kernel_rfl) (by kernel_rfl) (by kernel_rfl) (fun _ _ _ h => h) (Or.inl ⟨by rfl, ?yypz1⟩) hHeld ?rrpz1
          case yypz1 => (intro wq hSw; (try dsimp only at hSw); go_simp; first | done | with_reducible rfl)
          simp only [Act.put, List.setIfInBounds_toArray, List.set_cons_zero, List.set_cons_succ]
          refine wpAnyH_take (i := 1) (oi := ⟨some 67, _, _, _, _, _⟩) (v := ?vvpz2) rfl (by kernel_rfl) (by kernel_rfl) (by kernel_rfl) (fun _ _ _ h => h) (Or.inl ⟨by rfl, ?yypz2⟩) hHeld ?rrpz2
          case yypz2 => (intro wq hSw; (try dsimp only at hSw); go_simp; first | done | with_reducible rfl)
          simp only [Act.put, List.setIfInBounds_toArray, List.set_cons_zero, List.set_cons_succ]
          refine wpAnyH_take (i := 2) (oi := ⟨some 68, _, _, _, _, _⟩) (v := ?vvpz3) rfl (by kernel_rfl) (by kernel_rfl) (by kernel_rfl) (fun _ _ _ h => h) (Or.inl ⟨by rfl, ?yypz3⟩) hHeld ?rrpz3
          case yypz3 => (intro wq hSw; (try dsimp only at hSw); go_simp; first | done | with_reducible rfl)
          simp only [Act.put, List.setIfInBounds_toArray, List.set_cons_zero, List.set_cons_succ]
          refine wpAnyH_take (i := 3) (oi := ⟨some 69, _, _, _, _, _⟩) (v := ?vvpz4) rfl (by kernel_rfl) (by kernel_rfl) (by kernel_rfl) (fun _ _ _ h => h) (Or.inl ⟨by rfl, ?yypz4⟩) hHeld ?rrpz4
          case yypz4 => (intro wq hSw; (try dsimp only at hSw); go_simp; first | done | with_reducible rfl)
          simp only [Act.put, List.setIfInBounds_toArray, List.set_cons_zero, List.set_cons_succ]
          refine wpAnyH_take (i := 4) (oi := ⟨some 70, _, _, _, _, _⟩) (v := ?vvpz5) rfl (by kernel_rfl) (by kernel_rfl) (by kernel_rfl) (fun _ _ _ h => h) (Or.inl ⟨by rfl, ?yypz5⟩) hHeld ?rrpz5
          case yypz5 => (intro wq hSw; (try dsimp only at hSw); go_simp; first | done | with_reducible rfl)
          simp only [Act.put, List.setIfInBounds_toArray, List.set_cons_zero, List.set_cons_succ]
          refine wpAnyH_take (i := 5) (oi := ⟨some 71, _, _, _, _, _⟩) (v := ?vvpz6) rfl (by kernel_rfl) (by kernel_rfl) (by kernel_rfl) (fun _ _ _ h => h) (Or.inl ⟨by rfl, ?yypz6⟩) hHeld ?rrpz6
          case yypz6 => (intro wq hSw; (try dsimp only at hSw); go_simp; first | done | with_reducible rfl)
          simp only [Act.put, List.setIfInBounds_toArray, List.set_cons_zero, List.set_cons_succ]
          refine wpAnyH_take (i := 6) (oi := ⟨some 72, _, _, _, _, _⟩) (v := ?vvpz7) rfl (by kernel_rfl) (by kernel_rfl) (by kernel_rfl) (fun _ _ _ h => h) (Or.inl ⟨by rfl, ?yypz7⟩) hHeld ?rrpz7
          case yypz7 => (intro wq hSw; (try dsimp only at hSw); go_simp; first | done | with_reducible rfl)
          simp only [Act.put, List.setIfInBounds_toArray, List.set_cons_zero, List.set_cons_succ]
          refine wpAnyH_ready (rs := [7]) (by kernel_rfl) (by simp) ?_
          refine AllReadyH.cons (o := ⟨some 73, _, _, _, _, _⟩) rfl (fun K hK => ?_) AllReadyH.nil
          go_simp
          refine (ownE_any v a c _ (HPA.out.below HXz.out) HPL.out).mono ?_
          rintro e oz ⟨a9, c9, rfl, ⟨p9, _⟩, b9⟩
          have HOz : Hid (Below u4.heap.size u4 oz) := Lib.hid (below_then HXz.out b9)
          have HPz := Lib.hid p9
          clear p9 b9
          try dsimp only
          refine hK.out _ _ ?sspz8 (fun hHeld => ?_)
          case sspz8 => (exact HV.out _ HOz.out)
          clear hK K
          try simp only [Act.put, List.setIfInBounds_toArray, List.set_cons_zero, List.set_cons_succ]
          refine wpAnyH_ready (rs := [8]) (by kernel_rfl) (by simp) ?_
          refine AllReadyH.cons (o := ⟨none, _, _, _, _, _⟩) rfl (fun K hK => ?_) AllReadyH.nil
          have HVT : Hid (∀ w' : World, oz.mapTurned w' eb → w'.cell? ⟨gb, 0, none⟩ = some (.map (some vb)) ∧ w'.cell? ⟨gb, 1, none⟩ = some (.map (some eb)) ∧ w'.cell? ⟨w.heap.size, 0, none⟩ = some (.int .i64 v.id) ∧ w'.cell? ⟨w.heap.size, 1, none⟩ = some (.string v.label) ∧ w'.cell? ⟨w.heap.size, 2, none⟩ = some (.int .i64 v.fr) ∧ w'.cell? ⟨w.heap.size, 3, none⟩ = some (.int .i64 v.to) ∧ w'.cell? ⟨w.heap.size, 4, none⟩ = some (.slice a v.ps.length c)) := Lib.hid (fun w' t => by simp only [turned_cell t]; exact HV.out _ HOz.out)
          obtain ⟨f9, m9, h9⟩ := (HG1.out.below HOz.out).em
          obtain ⟨t1, hrun, m2, t9⟩ := m9.store (val := v.val a9 c9) lawI Tryz.underlying164 HVL.out (keyI HID.out.1)
          have HGF := Lib.hid ((HG1.out.below HOz.out).putE HPz.out HCK.out (by simpa using HQHSe.out) (by rw [← HQHSf.out]) (by rw [← HQHSt.out]) h9 m2 t9)
          have HT9 := Lib.hid t9
          unfold Eg.val at hrun
          unfold Eg.val
          clear m9 h9 m2
          go_simp
          try dsimp only
          refine hK.out _ _ ?sspz9 (fun hHeld => ?_)
          case sspz9 => (exact HVT.out _ t9)
          clear hK K
          try simp only [Act.put, List.setIfInBounds_toArray, List.set_cons_zero, List.set_cons_succ]
          refine wpAnyH_done (by kernel_rfl) ?_ _
          clear hHeld
          go_wp2_with fail
          go_ret
          have e9 : addE V E v = (0, insB Eg.id v E) := adde_ok HCK.out HQHSe.out HQHSf.out HQHSt.out
          exact ⟨by rw [e9]; rfl, by rw [e9]; exact HGF.out, (Chg.of_below (HBW.out.trans (HOz.out.mono HBW.out.size)) _).turned HT9.out (fun _ => rfl)⟩
    · go_wp2_with fail
      go_ret
      have e9 := adde_twice (V := V) HCK.out HQHSe.out
      exact ⟨by rw [e9]; rfl, by rw [e9]; exact HG1.out, Chg.of_below HBW.out _⟩
  · obtain ⟨cr, hcr⟩ : ∃ cr, cr = checkR v.label v.ps [v.id, v.fr, v.to] := ⟨_, rfl⟩
    rw [← hcr] at hck ⊢
    have h1 : (cr == 0) = false := by simpa using hck
    have h2 : (cr != 0) = true := by simpa using hck
    have HCR := Lib.hid hcr
    have HCK := Lib.hid hck
    clear hcr hck
    go_wp2_with fail
    go_ret
    have e9 : addE V E v = (cr, E) := by unfold addE; rw [← HCR.out, if_neg HCK.out]
    exact ⟨by rw [e9]; rfl, by rw [e9]; exact HG1.out, Chg.of_below HBW.out _⟩
end Go.Proofs.YtonilojjahfboaaGreat
namespace Go.Proofs.YtonilojjahfboaaGreat
open Go.RowKit Go.Maps

def Eg.zero : Eg := ⟨0, ⟨#[]⟩, 0, 0, []⟩
def Vt.zero : Vt := ⟨0, ⟨#[]⟩, []⟩
def getE (E : List Eg) (n : Int) : Eg := (findB Eg.id E n).getD Eg.zero
def getV (V : List Vt) (n : Int) : Vt := (findB Vt.id V n).getD Vt.zero
theorem psA_nil (w : World) : PsA w none 0 [] := ⟨fun h => absurd rfl h, fun _ => ⟨rfl, rfl⟩⟩
theorem look_e {w : World} {gb vb eb : Nat} {V : List Vt} {E : List Eg} (h : GrC w gb vb eb V E) {n : Int} (hn : I64 n) :
    ∃ a c, (Instr.lookup 164 (.map (some eb)) (.int .i64 n) true).run Tryz.prog w = .ok (.tuple #[(getE E n).val a c, .bool (findB Eg.id E n).isSome]) w ∧ PsA w a c (getE E n).ps ∧ (getE E n).ps.length ≤ 100000 := by
  unfold getE
  cases hf : findB Eg.id E n with
  | none => exact ⟨none, 0, (lookE h hn).1 hf, psA_nil w, by simp [Eg.zero]⟩
  | some y =>
    obtain ⟨a, c, h1, h2⟩ := (lookE h hn).2 y hf
    exact ⟨a, c, h1, h2, by have := checkR_ps (h.ok.e y (findB_some hf).1); simp; omega⟩
theorem look_v {w : World} {gb vb eb : Nat} {V : List Vt} {E : List Eg} (h : GrC w gb vb eb V E) {n : Int} (hn : I64 n) :
    ∃ a c, (Instr.lookup 163 (.map (some vb)) (.int .i64 n) true).run Tryz.prog w = .ok (.tuple #[(getV V n).val a c, .bool (findB Vt.id V n).isSome]) w ∧ PsA w a c (getV V n).ps ∧ (getV V n).ps.length ≤ 100000 := by
  unfold getV
  cases hf : findB Vt.id V n with
  | none => exact ⟨none, 0, (lookV h hn).1 hf, psA_nil w, by simp [Vt.zero]⟩
  | some y =>
    obtain ⟨a, c, h1, h2⟩ := (lookV h hn).2 y hf
    exact ⟨a, c, h1, h2, by have := checkR_ps (h.ok.v y (findB_some hf).1); simp; omega⟩
def EdPost (w : World) (E : List Eg) (n : Int) (e : Ending) (w' : World) : Prop := ∃ a c, e = .returned (.tuple #[(getE E n).val a c, .bool (findB Eg.id E n).isSome]) ∧ (PsA w' a c (getE E n).ps ∧ ∀ b off, a = some ⟨b, off, none⟩ → w.heap.size ≤ b) ∧ Below w.heap.size w w'
def VxPost (w : World) (V : List Vt) (n : Int) (e : Ending) (w' : World) : Prop := ∃ a c, e = .returned (.tuple #[(getV V n).val a c, .bool (findB Vt.id V n).isSome]) ∧ (PsA w' a c (getV V n).ps ∧ ∀ b off, a = some ⟨b, off, none⟩ → w.heap.size ≤ b) ∧ Below w.heap.size w w'
set_option maxRecDepth 100000 in
set_option maxHeartbeats 1000000 in
theorem gedge_any (gb vb eb : Nat) (V : List Vt) (E : List Eg) (n : Int) (w : World) (h : GrC w gb vb eb V E) (hn : I64 n) :
    Calls Tryz.prog 21 #[.pointer (some ⟨gb, 0, none⟩), .int .i64 n] w (EdPost w E n) := by
  have HB0 := Lib.hid (below_box w (.cells #[.int .i64 0, .string ⟨#[]⟩, .int .i64 0, .int .i64 0, .slice none 0 0] 30))
  have HR := Lib.hid (heap_new w (.cells #[.int .i64 0, .string ⟨#[]⟩, .int .i64 0, .int .i64 0, .slice none 0 0] 30))
  have h0 := h.below HB0.out
  obtain ⟨a, c, hlk, hp, hl⟩ := look_e h0 hn
  obtain ⟨y, hy⟩ : ∃ y, y = getE E n := ⟨_, rfl⟩
  obtain ⟨k, hk⟩ : ∃ k, k = (findB Eg.id E n).isSome := ⟨_, rfl⟩
  unfold EdPost
  rw [← hy] at hlk hp hl ⊢
  rw [← hk] at hlk ⊢
  clear hy hk
  have c1 : w.cell? ⟨gb, 1, none⟩ = some (.map (some eb)) := by rw [cell_of_blk h.blk]; rfl
  have hlg := h.lt
  have HP := Lib.hid hp
  have HL := Lib.hid hl
  clear h h0 hp hl hn
  unfold Eg.val at hlk ⊢
  go_enter Tryz.func21, Tryz.ntmps21
  go_wp2_with fail
  refine (ownE_any y a c _ (HP.out.below (below_box _ _)) HL.out).mono ?_
  rintro e w1 ⟨a1, c1', rfl, ⟨p1, n1⟩, b1⟩
  have x1 := (b1.block w.heap.size (by simp; omega)).trans ((Below.heap_alloc _ _ _ (by simp)).trans HR.out)
  have hz : w.heap.size < w1.heap.size := (Array.getElem?_eq_some_iff.1 x1).1
  have r0 := cell_of_blk x1 0
  have g0 := frozen_of_blk x1 0
  have r1 := cell_of_blk x1 1
  have g1 := frozen_of_blk x1 1
  have r2 := cell_of_blk x1 2
  have g2 := frozen_of_blk x1 2
  have r3 := cell_of_blk x1 3
  have g3 := frozen_of_blk x1 3
  have r4 := cell_of_blk x1 4
  have g4 := frozen_of_blk x1 4
  simp at r0 r1 r2 r3 r4
  have HP1 := Lib.hid p1
  have HN1 := Lib.hid n1
  have HB1 : Hid (Below w.heap.size w w1) := Lib.hid (HB0.out.trans (((below_box _ _).trans (b1.mono (by simp))).mono (by simp)))
  clear p1 n1 b1 x1
  unfold Eg.val
  go_wp2_with fail
  refine bodyPost_ret (v := .tuple #[.agg #[.int .i64 y.id, .string y.label, .int .i64 y.fr, .int .i64 y.to, .slice a1 y.ps.length c1'], .bool k]) (by simp [results, Tryz.results21, go_sem, r0, r1, r2, r3, r4]) rfl ⟨a1, c1', rfl, ⟨⟨fun hp => ?_, HP1.out.nil⟩, fun b off e => by have := HN1.out b off e; simp only [size_alloc] at this; omega⟩, ?_⟩
  · obtain ⟨b, off, e, hat⟩ := HP1.out.v hp
    have hlb := HN1.out b off e
    simp only [size_alloc] at hlb
    exact ⟨b, off, e, hat.of_block (by rw [set_ne _ _ _ _ (by omega), set_ne _ _ _ _ (by omega), set_ne _ _ _ _ (by omega), set_ne _ _ _ _ (by omega), set_ne _ _ _ _ (by omega)])⟩
  · exact ((((HB1.out.setCell (Nat.le_refl _) _).setCell (Nat.le_refl _) _).setCell (Nat.le_refl _) _).setCell (Nat.le_refl _) _).setCell (Nat.le_refl _) _
set_option maxRecDepth 100000 in
set_option maxHeartbeats 1000000 in
theorem gvertex_any (gb vb eb : Nat) (V : List Vt) (E : List Eg) (n : Int) (w : World) (h : GrC w gb vb eb V E) (hn : I64 n) :
    Calls Tryz.prog 65 #[.pointer (some ⟨gb, 0, none⟩), .int .i64 n] w (VxPost w V n) := by
  have HB0 := Lib.hid (below_box w (.cells #[.int .i64 0, .string ⟨#[]⟩, .slice none 0 0] 28))
  have HR := Lib.hid (heap_new w (.cells #[.int .i64 0, .string ⟨#[]⟩, .slice none 0 0] 28))
  have h0 := h.below HB0.out
  obtain ⟨a, c, hlk, hp, hl⟩ := look_v h0 hn
  obtain ⟨y, hy⟩ : ∃ y, y = getV V n := ⟨_, rfl⟩
  obtain ⟨k, hk⟩ : ∃ k, k = (findB Vt.id V n).isSome := ⟨_, rfl⟩
  unfold VxPost
  rw [← hy] at hlk hp hl ⊢
  rw [← hk] at hlk ⊢
  clear hy hk
  have c1 : w.cell? ⟨gb, 0, none⟩ = some (.map (some vb)) := by rw [cell_of_blk h.blk]; rfl
  have hlg := h.lt
  have HP := Lib.hid hp
  have HL := Lib.hid hl
  clear h h0 hp hl hn
  unfold Vt.val at hlk ⊢
  go_enter Tryz.func65, Tryz.ntmps65
  go_wp2_with fail
  refine (ownV_any y a c _ (HP.out.below (below_box _ _)) HL.out).mono ?_
  rintro e w1 ⟨a1, c1', rfl, ⟨p1, n1⟩, b1⟩
  have x1 := (b1.block w.heap.size (by simp; omega)).trans ((Below.heap_alloc _ _ _ (by simp)).trans HR.out)
  have hz : w.heap.size < w1.heap.size := (Array.getElem?_eq_some_iff.1 x1).1
  have r0 := cell_of_blk x1 0
  have g0 := frozen_of_blk x1 0
  have r1 := cell_of_blk x1 1
  have g1 := frozen_of_blk x1 1
  have r2 := cell_of_blk x1 2
  have g2 := frozen_of_blk x1 2
  simp at r0 r1 r2
  have HP1 := Lib.hid p1
  have HN1 := Lib.hid n1
  have HB1 : Hid (Below w.heap.size w w1) := Lib.hid (HB0.out.trans (((below_box _ _).trans (b1.mono (by simp))).mono (by simp)))
  clear p1 n1 b1 x1
  unfold Vt.val
  go_wp2_with fail
  refine bodyPost_ret (v := .tuple #[.agg #[.int .i64 y.id, .string y.label, .slice a1 y.ps.length c1'], .bool k]) (by simp [results, Tryz.results65, go_sem, r0, r1, r2]) rfl ⟨a1, c1', rfl, ⟨⟨fun hp => ?_, HP1.out.nil⟩, fun b off e => by have := HN1.out b off e; simp only [size_alloc] at this; omega⟩, ?_⟩
  · obtain ⟨b, off, e, hat⟩ := HP1.out.v hp
    have hlb := HN1.out b off e
    simp only [size_alloc] at hlb
    exact ⟨b, off, e, hat.of_block (by rw [set_ne _ _ _ _ (by omega), set_ne _ _ _ _ (by omega), set_ne _ _ _ _ (by omega)])⟩
  · exact ((HB1.out.setCell (Nat.le_refl _) _).setCell (Nat.le_refl _) _).setCell (Nat.le_refl _) _
end Go.Proofs.YtonilojjahfboaaGreat
namespace Go.Proofs.YtonilojjahfboaaGreat
open Go.RowKit Go.Maps Go.Sort

theorem infoI : (Tryz.prog.info? 3).map (fun i => (i.zero, i.size, i.bytes)) = some (some (.int .i64 0), 1, 8) := by kernel_rfl
/-- ints, as elements -/
def kI : RowK Tryz.prog Int where
  t := 42
  e := 3
  size := 1
  bytes := 8
  z := .int .i64 0
  enc := fun x => [.int .i64 x]
  ht := Tryz.underlying42
  info := infoI
  hz := rfl
  pos := by decide
  small := by decide
  len := fun _ => rfl
  one := fun x u hu => by
    simp at hu
    subst hu
    rfl
theorem kI_cells (l : List Int) : kI.cells l = l.map (Value.int .i64) := by
  induction l with
  | nil => rfl
  | cons x l ih =>
    show Value.int .i64 x :: kI.cells l = _
    rw [ih]; rfl
theorem ownI_blk {w : World} {B n cap g : Nat} {l : List Int} (h : kI.Own w B (.slice (some ⟨g, 0, none⟩) n cap) l) : ∃ cur, w.heap[g]? = some (.cells cur 3 (0, 0)) ∧ cur.size = cap ∧ l.length ≤ cap ∧ cap ≤ maxLen ∧ B ≤ g ∧ n = l.length ∧ cur.toList.take l.length = l.map (Value.int .i64) := by
  rcases h.2 with ⟨h1, _⟩ | ⟨g', cp, cur, h1, hB, hg, hn, hm, hs, ht⟩
  · injection h1 with e1; cases e1
  · injection h1 with e1 e2 e3
    injection e1 with e1
    injection e1 with e1
    subst e1 e2 e3
    refine ⟨cur, hg, by rw [hs]; exact Nat.mul_one _, hn, hm, hB, rfl, ?_⟩
    rw [kI_cells] at ht
    have e : l.length * kI.size = l.length := Nat.mul_one _
    rw [e] at ht
    exact ht
theorem ownI_mk {w : World} {B cap g : Nat} {l : List Int} {cur : Array Value} (hg : w.heap[g]? = some (.cells cur 3 (0, 0))) (hB : B ≤ g) (hs : cur.size = cap) (hn : l.length ≤ cap) (hm : cap ≤ maxLen) (ht : cur.toList.take l.length = l.map (Value.int .i64)) : kI.Own w B (.slice (some ⟨g, 0, none⟩) l.length cap) l := by
  refine ⟨kI.cells_len l, .inr ⟨g, cap, cur, rfl, hB, hg, hn, hm, by rw [hs]; exact (Nat.mul_one _).symm, ?_⟩⟩
  rw [kI_cells]
  have e : l.length * kI.size = l.length := Nat.mul_one _
  rw [e]
  exact ht
theorem ownI_holds {w : World} {B n cap g : Nat} {l : List Int} (h : kI.Own w B (.slice (some ⟨g, 0, none⟩) n cap) l) : Holds (Value.int .i64) w g 0 l.toArray ∧ g < w.heap.size := by
  obtain ⟨cur, hg, hs, hn, hm, hB, rfl, ht⟩ := ownI_blk h
  refine ⟨fun j hj => ?_, (Array.getElem?_eq_some_iff.1 hg).1⟩
  simp only [List.size_toArray] at hj
  refine ⟨?_, frozen_of_blk hg _⟩
  rw [cell_of_blk hg, Nat.zero_add]
  have h1 : (cur.toList.take l.length)[j]? = (l.map (Value.int .i64))[j]? := by rw [ht]
  rw [List.getElem?_take_of_lt hj, Array.getElem?_toList] at h1
  rw [h1]
  simp [hj]
theorem own_putI {w : World} {B n cap g q : Nat} {l d : List Int} {os : Array Obj} (h : kI.Own w B (.slice (some ⟨g, 0, none⟩) n cap) l) (hd : d.length ≤ l.length) (m : Nat) (hm : m ≤ d.length) :
    kI.Own (grow (putRow (Value.int .i64) (Sort.ahead w q) g 0 d.toArray) os) B (.slice (some ⟨g, 0, none⟩) m cap) (d.take m) ∧ Below B w (grow (putRow (Value.int .i64) (Sort.ahead w q) g 0 d.toArray) os) := by
  obtain ⟨cur, hg, hs, hn, hcm, hB, rfl, ht⟩ := ownI_blk h
  have hlt := (Array.getElem?_eq_some_iff.1 hg).1
  have hheap : ∀ i, i < w.heap.size → (grow (putRow (Value.int .i64) (Sort.ahead w q) g 0 d.toArray) os).heap[i]? = if i = g then some (.cells (putCells (Value.int .i64) 0 d.toArray cur) 3 (0, 0)) else w.heap[i]? := fun i hi => by
    unfold grow putRow mapBlock Sort.ahead
    simp only
    rw [Array.getElem?_append_left (by simpa using hi), Array.getElem?_modify]
    by_cases e : i = g
    · subst e
      rw [if_pos rfl, if_pos rfl, hg]
      rfl
    · rw [if_neg (fun e2 => e e2.symm), if_neg e]
  have hsz : w.heap.size ≤ (grow (putRow (Value.int .i64) (Sort.ahead w q) g 0 d.toArray) os).heap.size := by
    unfold grow putRow mapBlock Sort.ahead
    simp
  have hlm : (d.take m).length = m := by rw [List.length_take]; omega
  have hcur : (putCells (Value.int .i64) 0 d.toArray cur).size = cap := by rw [← hs]; simp [putCells]
  refine ⟨?_, ⟨rfl, rfl, rfl, hsz, fun i hi => ?_⟩⟩
  · have := ownI_mk (w := grow (putRow (Value.int .i64) (Sort.ahead w q) g 0 d.toArray) os) (B := B) (g := g) (l := d.take m) (by rw [hheap g hlt, if_pos rfl]) hB hcur (by omega) hcm (by
      rw [hlm]
      apply List.ext_getElem?
      intro t
      by_cases htl : t < m
      · rw [List.getElem?_take_of_lt htl, Array.getElem?_toList]
        unfold putCells
        rw [Array.getElem?_mapIdx, Array.getElem?_eq_getElem (by omega)]
        simp [htl, show t < d.length by omega]
      · rw [List.getElem?_eq_none (by simp; omega), List.getElem?_eq_none (by simp; omega)])
    rw [hlm] at this
    exact this
  · rw [hheap i (by omega), if_neg (by omega)]
/-- sorted, each but once -/
def IncI (l : List Int) : Prop := l.Pairwise (· < ·)
theorem incI_uniq : ∀ {a b : List Int}, IncI a → IncI b → (∀ k, k ∈ a ↔ k ∈ b) → a = b
  | [], [], _, _, _ => rfl
  | [], y :: b, _, _, h => absurd ((h y).2 (List.mem_cons.2 (.inl rfl))) (fun e => by cases e)
  | x :: a, [], _, _, h => absurd ((h x).1 (List.mem_cons.2 (.inl rfl))) (fun e => by cases e)
  | x :: a, y :: b, ha, hb, h => by
    obtain ⟨ha1, ha2⟩ := List.pairwise_cons.1 ha
    obtain ⟨hb1, hb2⟩ := List.pairwise_cons.1 hb
    have e : x = y := Classical.byContradiction fun hn => by
      have h1 : x ∈ b := (List.mem_cons.1 ((h x).1 (List.mem_cons.2 (.inl rfl)))).resolve_left hn
      have h2 : y ∈ a := (List.mem_cons.1 ((h y).2 (List.mem_cons.2 (.inl rfl)))).resolve_left (fun e => hn e.symm)
      have := ha1 y h2
      have := hb1 x h1
      omega
    subst e
    rw [incI_uniq ha2 hb2 (fun k => ⟨fun hk => (List.mem_cons.1 ((h k).1 (List.mem_cons.2 (.inr hk)))).resolve_left (fun e => by have := ha1 k hk; omega),
      fun hk => (List.mem_cons.1 ((h k).2 (List.mem_cons.2 (.inr hk)))).resolve_left (fun e => by have := hb1 k hk; omega)⟩)]
def sortI (l : List Int) : List Int := l.mergeSort fun x y => decide (x ≤ y)
theorem sortI_perm (l : List Int) : (sortI l).Perm l := List.mergeSort_perm l _
theorem sortI_le (l : List Int) : (sortI l).Pairwise (· ≤ ·) := by
  have h := List.pairwise_mergeSort (le := fun x y : Int => decide (x ≤ y)) (fun a b c h1 h2 => by simp only [decide_eq_true_eq] at *; omega) (fun a b => by simp only [Bool.or_eq_true, decide_eq_true_eq]; omega) l
  exact h.imp (fun h => by simpa using h)
theorem sortI_inc {l : List Int} (hn : l.Nodup) : IncI (sortI l) := by
  have h1 := sortI_le l
  have h2 : (sortI l).Pairwise (· ≠ ·) := (sortI_perm l).nodup_iff.2 hn
  exact (h1.and h2).imp (fun ⟨a, b⟩ => by omega)
end Go.Proofs.YtonilojjahfboaaGreat
