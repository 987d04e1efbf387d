/- A graph in memory: New; what a laying changes. Conditions: each contract's own premises. -/
import Derived.Test.YtkbmipmegljidaaGreatGr1
import Derived.DeepKeys4
import Derived.MapViews
import Derived.OpenShut
namespace Go.Proofs.YtkbmipmegljidaaGreat
open Go.RowKit Go.Maps

theorem lawI : Keyed Tryz.prog 3 := int_keyed Tryz.underlying3
theorem keyI {x : Int} (h : I64 x) : keyOf Tryz.prog 3 (.int .i64 x) = some (.int .i64 x) := keyOf_int_mk Tryz.underlying3 h.wf
theorem zeroV (w : World) : (zeroValue 30).run Tryz.prog w = .ok (.agg #[.int .i64 0, .string ⟨#[]⟩, .slice none 0 0]) w := by kernel_rfl
theorem zeroE (w : World) : (zeroValue 32).run Tryz.prog w = .ok (.agg #[.int .i64 0, .string ⟨#[]⟩, .int .i64 0, .int .i64 0, .slice none 0 0]) w := by kernel_rfl
/-- a graph that may be -/
structure PGo (V : List Vt) (E : List Eg) : Prop where
  sv : SortB Vt.id V
  se : SortB Eg.id E
  v : ∀ v ∈ V, checkR v.label v.ps [v.id] = 0
  e : ∀ e ∈ E, checkR e.label e.ps [e.id, e.fr, e.to] = 0
  ends : ∀ e ∈ E, (∃ a ∈ V, a.id = e.fr) ∧ ∃ b ∈ V, b.id = e.to
theorem checkR_zero {label : ByteArray} {ps : List Pr} {ids : List Int} (h : checkR label ps ids = 0) : ids.any idB = false ∧ badS label = false ∧ rightPs ps = true := by
  unfold checkR at h
  split at h
  · cases h
  · rename_i h1
    split at h
    · cases h
    · rename_i h2
      split at h
      · rename_i h3
        exact ⟨by simpa using h1, by simpa using h2, h3⟩
      · cases h
theorem idB_i64 {n : Int} (h : idB n = false) : I64 n := by
  unfold idB at h
  simp only [decide_eq_false_iff_not] at h
  unfold I64
  omega
theorem checkR_ids {label : ByteArray} {ps : List Pr} {ids : List Int} (h : checkR label ps ids = 0) {n : Int} (hn : n ∈ ids) : I64 n := by
  have h1 := (checkR_zero h).1
  rw [List.any_eq_false] at h1
  exact idB_i64 (by simpa using h1 n hn)
open Classical in
theorem checkR_ps {label : ByteArray} {ps : List Pr} {ids : List Int} (h : checkR label ps ids = 0) : ps.length ≤ 16 := by
  have h1 := (checkR_zero h).2.2
  unfold rightPs at h1
  exact (of_decide_eq_true h1).2
theorem PGo.nil : PGo [] [] := ⟨List.Pairwise.nil, List.Pairwise.nil, (fun v hv => by cases hv), (fun v hv => by cases hv), (fun v hv => by cases hv)⟩
theorem PGo.addV {V : List Vt} {E : List Eg} (h : PGo V E) (v : Vt) : PGo (addV V v).2 E := by
  unfold Go.Proofs.YtkbmipmegljidaaGreat.addV
  split
  · rename_i hc
    split
    · exact h
    · rename_i hf
      have hn : ∀ y ∈ V, y.id ≠ v.id := findB_none.1 (by simpa using hf)
      exact ⟨sort_insB h.sv hn, h.se, fun y hy => by
        rcases mem_insB.1 hy with rfl | hy
        · exact hc
        · exact h.v y hy, h.e, fun e he => by
        obtain ⟨⟨a, ha, ea⟩, b, hb, eb⟩ := h.ends e he
        exact ⟨⟨a, mem_insB.2 (.inr ha), ea⟩, b, mem_insB.2 (.inr hb), eb⟩⟩
  · exact h
theorem PGo.addE {V : List Vt} {E : List Eg} (h : PGo V E) (e : Eg) : PGo V (addE V E e).2 := by
  unfold Go.Proofs.YtkbmipmegljidaaGreat.addE
  split
  · rename_i hc
    split
    · exact h
    · rename_i hf
      have hn : ∀ y ∈ E, y.id ≠ e.id := findB_none.1 (by simpa using hf)
      split
      · exact h
      · rename_i hv
        simp only [Bool.or_eq_true, not_or, Option.isNone_iff_eq_none] at hv
        refine ⟨h.sv, sort_insB h.se hn, h.v, fun y hy => ?_, fun y hy => ?_⟩
        · rcases mem_insB.1 hy with rfl | hy
          · exact hc
          · exact h.e y hy
        · rcases mem_insB.1 hy with rfl | hy
          · obtain ⟨a, ha⟩ := Option.ne_none_iff_exists'.1 hv.1
            obtain ⟨b, hb⟩ := Option.ne_none_iff_exists'.1 hv.2
            exact ⟨⟨a, findB_some ha⟩, b, findB_some hb⟩
          · exact h.ends y hy
  · exact h
/-- a map's plain form: of vertices, of edges -/
structure VmOk (w : World) (f : Lit → Option Value) (V : List Vt) : Prop where
  no : ∀ n, I64 n → findB Vt.id V n = none → f (.int .i64 n) = none
  yes : ∀ v ∈ V, ∃ a c, f (.int .i64 v.id) = some (v.val a c) ∧ PsA w a c v.ps
structure EmOk (w : World) (f : Lit → Option Value) (E : List Eg) : Prop where
  no : ∀ n, I64 n → findB Eg.id E n = none → f (.int .i64 n) = none
  yes : ∀ v ∈ E, ∃ a c, f (.int .i64 v.id) = some (v.val a c) ∧ PsA w a c v.ps
theorem PsA.stay {w w' : World} {a : Option Addr} {c : Nat} {ps : List Pr} (h : PsA w a c ps) (hc : ∀ p : Addr, w'.cell? p = w.cell? p) (hz : w.heap.size ≤ w'.heap.size) : PsA w' a c ps :=
  ⟨fun hp => by
    obtain ⟨b, off, e, hat⟩ := h.v hp
    exact ⟨b, off, e, ⟨hat.ok, fun i p hp => by simp only [hc]; exact hat.cells i p hp, Nat.lt_of_lt_of_le hat.lt hz⟩⟩, h.nil⟩
theorem VmOk.below {w w' : World} {f : Lit → Option Value} {V : List Vt} (h : VmOk w f V) (hb : Below w.heap.size w w') : VmOk w' f V :=
  ⟨h.no, fun v hv => by obtain ⟨a, c, h1, h2⟩ := h.yes v hv; exact ⟨a, c, h1, h2.below hb⟩⟩
theorem EmOk.below {w w' : World} {f : Lit → Option Value} {E : List Eg} (h : EmOk w f E) (hb : Below w.heap.size w w') : EmOk w' f E :=
  ⟨h.no, fun v hv => by obtain ⟨a, c, h1, h2⟩ := h.yes v hv; exact ⟨a, c, h1, h2.below hb⟩⟩
theorem VmOk.stay {w w' : World} {f : Lit → Option Value} {V : List Vt} (h : VmOk w f V) (hc : ∀ p : Addr, w'.cell? p = w.cell? p) (hz : w.heap.size ≤ w'.heap.size) : VmOk w' f V :=
  ⟨h.no, fun v hv => by obtain ⟨a, c, h1, h2⟩ := h.yes v hv; exact ⟨a, c, h1, h2.stay hc hz⟩⟩
theorem EmOk.stay {w w' : World} {f : Lit → Option Value} {E : List Eg} (h : EmOk w f E) (hc : ∀ p : Addr, w'.cell? p = w.cell? p) (hz : w.heap.size ≤ w'.heap.size) : EmOk w' f E :=
  ⟨h.no, fun v hv => by obtain ⟨a, c, h1, h2⟩ := h.yes v hv; exact ⟨a, c, h1, h2.stay hc hz⟩⟩
theorem lit_int {a b : Int} : Lit.int .i64 a = Lit.int .i64 b ↔ a = b := by
  constructor
  · intro h; injection h
  · intro h; rw [h]
open Classical in
theorem VmOk.add {w : World} {f : Lit → Option Value} {V : List Vt} (h : VmOk w f V) {v : Vt} {a : Option Addr} {c : Nat} (hp : PsA w a c v.ps) (hn : findB Vt.id V v.id = none) : VmOk w (upd f (.int .i64 v.id) (some (v.val a c))) (insB Vt.id v V) := by
  have hn' := findB_none.1 hn
  refine ⟨fun n hi hf => ?_, fun y hy => ?_⟩
  · rw [find_insB hn'] at hf
    split at hf
    · cases hf
    · rename_i e
      unfold upd
      rw [if_neg (fun e2 => e (lit_int.1 e2).symm)]
      exact h.no n hi hf
  · rcases mem_insB.1 hy with rfl | hy
    · exact ⟨a, c, by simp [upd], hp⟩
    · obtain ⟨a', c', h1, h2⟩ := h.yes y hy
      refine ⟨a', c', ?_, h2⟩
      unfold upd
      rw [if_neg (fun e2 => hn' y hy (lit_int.1 e2))]
      exact h1
open Classical in
theorem EmOk.add {w : World} {f : Lit → Option Value} {E : List Eg} (h : EmOk w f E) {v : Eg} {a : Option Addr} {c : Nat} (hp : PsA w a c v.ps) (hn : findB Eg.id E v.id = none) : EmOk w (upd f (.int .i64 v.id) (some (v.val a c))) (insB Eg.id v E) := by
  have hn' := findB_none.1 hn
  refine ⟨fun n hi hf => ?_, fun y hy => ?_⟩
  · rw [find_insB hn'] at hf
    split at hf
    · cases hf
    · rename_i e
      unfold upd
      rw [if_neg (fun e2 => e (lit_int.1 e2).symm)]
      exact h.no n hi hf
  · rcases mem_insB.1 hy with rfl | hy
    · exact ⟨a, c, by simp [upd], hp⟩
    · obtain ⟨a', c', h1, h2⟩ := h.yes y hy
      refine ⟨a', c', ?_, h2⟩
      unfold upd
      rw [if_neg (fun e2 => hn' y hy (lit_int.1 e2))]
      exact h1
/-- a graph in memory -/
structure GrC (w : World) (gb vb eb : Nat) (V : List Vt) (E : List Eg) : Prop where
  blk : w.heap[gb]? = some (.cells #[.map (some vb), .map (some eb)] 80 (0, 0))
  vm : ∃ f, mapR w Tryz.prog 3 vb V.length f ∧ VmOk w f V
  em : ∃ f, mapR w Tryz.prog 3 eb E.length f ∧ EmOk w f E
  ok : PGo V E
  ne : vb ≠ eb
section
variable {w w' : World} {gb vb eb : Nat} {V : List Vt} {E : List Eg}
theorem GrC.lt (h : GrC w gb vb eb V E) : gb < w.heap.size := (Array.getElem?_eq_some_iff.1 h.blk).1
theorem GrC.ltE (h : GrC w gb vb eb V E) : eb < w.heap.size := by obtain ⟨_, m, _⟩ := h.em; exact m.lt
theorem GrC.below (h : GrC w gb vb eb V E) (hb : Below w.heap.size w w') : GrC w' gb vb eb V E := by
  obtain ⟨f, m, hf⟩ := h.vm
  obtain ⟨g, n, hg⟩ := h.em
  exact ⟨(hb.block _ h.lt).trans h.blk, ⟨f, m.of_block (hb.block _ m.lt), hf.below hb⟩, ⟨g, n.of_block (hb.block _ n.lt), hg.below hb⟩, h.ok, h.ne⟩
theorem GrC.neG (h : GrC w gb vb eb V E) : gb ≠ vb ∧ gb ≠ eb := by
  obtain ⟨f, ⟨_, ⟨_, _, hm, _⟩, _⟩, _⟩ := h.vm
  obtain ⟨g, ⟨_, ⟨_, _, hn, _⟩, _⟩, _⟩ := h.em
  have hb := h.blk
  refine ⟨fun e => ?_, fun e => ?_⟩
  · rw [e, hm] at hb; cases hb
  · rw [e, hn] at hb; cases hb
end
/-- a vertex laid in its map -/
theorem GrC.putV {w w2 : World} {gb vb eb : Nat} {V : List Vt} {E : List Eg} (h : GrC w gb vb eb V E) {v : Vt} {a : Option Addr} {c : Nat} (hp : PsA w a c v.ps) (hc : checkR v.label v.ps [v.id] = 0) (hn : findB Vt.id V v.id = none)
    {f : Lit → Option Value} (hf : VmOk w f V) (m2 : mapR w2 Tryz.prog 3 vb (if (f (.int .i64 v.id)).isSome then V.length else V.length + 1) (upd f (.int .i64 v.id) (some (v.val a c)))) (t2 : w.mapTurned w2 vb) :
    GrC w2 gb vb eb (insB Vt.id v V) E := by
  have hz := turned_size t2
  have hcl := turned_cell t2
  have hid : I64 v.id := checkR_ids hc (by simp)
  obtain ⟨g, n, hg⟩ := h.em
  rw [hf.no v.id hid hn] at m2
  refine ⟨(turned_block t2 h.neG.1).trans h.blk, ⟨_, by rw [len_insB]; exact m2, (hf.stay hcl (Nat.le_of_eq hz.symm)).add (hp.stay hcl (Nat.le_of_eq hz.symm)) hn⟩, ⟨g, n.of_block (turned_block t2 h.ne.symm), hg.stay hcl (Nat.le_of_eq hz.symm)⟩, ?_, h.ne⟩
  have := h.ok.addV v
  unfold addV at this
  rw [if_pos hc, hn] at this
  exact this
theorem GrC.putE {w w2 : World} {gb vb eb : Nat} {V : List Vt} {E : List Eg} (h : GrC w gb vb eb V E) {v : Eg} {a : Option Addr} {c : Nat} (hp : PsA w a c v.ps) (hc : checkR v.label v.ps [v.id, v.fr, v.to] = 0) (hn : findB Eg.id E v.id = none)
    (h1 : (findB Vt.id V v.fr).isSome = true) (h2 : (findB Vt.id V v.to).isSome = true)
    {f : Lit → Option Value} (hf : EmOk w f E) (m2 : mapR w2 Tryz.prog 3 eb (if (f (.int .i64 v.id)).isSome then E.length else E.length + 1) (upd f (.int .i64 v.id) (some (v.val a c)))) (t2 : w.mapTurned w2 eb) :
    GrC w2 gb vb eb V (insB Eg.id v E) := by
  have hz := turned_size t2
  have hcl := turned_cell t2
  have hid : I64 v.id := checkR_ids hc (by simp)
  obtain ⟨g, n, hg⟩ := h.vm
  rw [hf.no v.id hid hn] at m2
  refine ⟨(turned_block t2 h.neG.2).trans h.blk, ⟨g, n.of_block (turned_block t2 h.ne), hg.stay hcl (Nat.le_of_eq hz.symm)⟩, ⟨_, by rw [len_insB]; exact m2, (hf.stay hcl (Nat.le_of_eq hz.symm)).add (hp.stay hcl (Nat.le_of_eq hz.symm)) hn⟩, ?_, h.ne⟩
  have := h.ok.addE v
  unfold addE at this
  rw [if_pos hc, hn] at this
  simp only [Option.isSome_none, Bool.false_eq_true, if_false] at this
  rw [if_neg (by simp only [Bool.or_eq_true, not_or, Option.isNone_iff_eq_none]; exact ⟨(fun e => by rw [e] at h1; cases h1), (fun e => by rw [e] at h2; cases h2)⟩)] at this
  exact this
/-- what New leaves -/
def GnPost (w : World) (e : Ending) (w' : World) : Prop := e = .returned (.pointer (some ⟨w.heap.size + 2, 0, none⟩)) ∧ GrC w' (w.heap.size + 2) w.heap.size (w.heap.size + 1) [] [] ∧ Below w.heap.size w w'
set_option maxRecDepth 100000 in
theorem gnew_any (w : World) : Calls Tryz.prog 23 #[] w (GnPost w) := by
  have hmm := @run_makeMap Tryz.prog
  have HB := Lib.hid ((((Below.refl w.heap.size w).alloc (Nat.le_refl _) (.map #[] 0)).alloc (by simp) (.map #[] 0)).alloc (by simp; omega) (.cells #[.map (some w.heap.size), .map (some (w.heap.size + 1))] 80))
  have HG : Hid (GrC (((w.alloc (.map #[] 0)).alloc (.map #[] 0)).alloc (.cells #[.map (some w.heap.size), .map (some (w.heap.size + 1))] 80)) (w.heap.size + 2) w.heap.size (w.heap.size + 1) [] []) := Lib.hid (by
    refine ⟨?_, ⟨fun _ => none, ?_, ⟨fun _ _ _ => rfl, fun v hv => by cases hv⟩⟩, ⟨fun _ => none, ?_, ⟨fun _ _ _ => rfl, fun v hv => by cases hv⟩⟩, PGo.nil, by omega⟩
    · have := heap_new ((w.alloc (.map #[] 0)).alloc (.map #[] 0)) (.cells #[.map (some w.heap.size), .map (some (w.heap.size + 1))] 80)
      simpa using this
    · exact (mapR_made w Tryz.prog 3).of_block ((Below.heap_alloc _ _ _ (by simp; omega)).trans (Below.heap_alloc _ _ _ (by simp)))
    · have := mapR_made (w.alloc (.map #[] 0)) Tryz.prog 3
      rw [size_alloc] at this
      exact this.of_block (Below.heap_alloc _ _ _ (by simp)))
  go_enter Tryz.func23, Tryz.ntmps23
  go_wp2
  go_ret
  exact ⟨rfl, HG.out, HB.out⟩
end Go.Proofs.YtkbmipmegljidaaGreat
