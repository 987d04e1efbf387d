/- Layer 19: what path.Run keeps. Conditions: each lemma's own premises. -/
import Derived.Test.YtaanohgkdpohhaaPa5
import Derived.Test.YtaanohgkdpohhaaPa6
namespace Go.Proofs.Ytaanohgkdpohhaa
open Go.RowKit Go.Maps

theorem find_hasV {V : List Vt} {n : Int} : (findB Vt.id V n).isSome = true ↔ HasV V n := by
  cases hf : findB Vt.id V n with
  | none =>
    refine ⟨(fun h => by cases h), fun ⟨u, hu, e⟩ => absurd e (findB_none.1 hf u hu)⟩
  | some u =>
    obtain ⟨h1, h2⟩ := findB_some hf
    exact ⟨fun _ => ⟨u, h1, h2⟩, fun _ => rfl⟩
theorem find_noV {V : List Vt} {n : Int} (h : (findB Vt.id V n).isSome = false) : ¬ HasV V n := fun hv => by
  rw [find_hasV.2 hv] at h
  cases h
/-- what Run has in memory on the way forth -/
structure FwC (w0 w w1 wr : World) (wb gb : Nat) (cs : Array Value) (st : Option Nat) (d : DM) (ov : Value) (out : List Int) : Prop where
  wk : WkS w0 wr wb gb st
  dm : DmC wr (w1.heap.size + 1) d
  chg : Chg w wr (fun i => i = wb)
  box : wr.heap[w.heap.size]? = some (.cells cs 107 (0, 0))
  lt : wb < w.heap.size
  le : w.heap.size < w1.heap.size
  oo : kI.Own wr (w1.heap.size + 2) ov out
section
variable {w0 w w1 wr w' : World} {wb gb : Nat} {cs : Array Value} {st st' : Option Nat} {d : DM} {ov v8 : Value} {out X : List Int}
theorem FwC.size (h : FwC w0 w w1 wr wb gb cs st d ov out) : w1.heap.size + 2 ≤ wr.heap.size := by
  have := h.dm.lt
  omega
theorem FwC.alloc (h : FwC w0 w w1 wr wb gb cs st d ov out) (X : Obj) : FwC w0 w w1 (wr.alloc X) wb gb cs st d ov out := by
  have hb := below_box wr X
  exact ⟨h.wk.below hb, h.dm.of_block (hb.block _ h.dm.lt), h.chg.andBelow (hb.mono h.chg.size), (hb.block _ (Array.getElem?_eq_some_iff.1 h.box).1).trans h.box, h.lt, h.le, h.oo.alloc X⟩
theorem FwC.call (h : FwC w0 w w1 wr wb gb cs st d ov out) (hs : WkS w0 w' wb gb st') (hc : Chg wr w' (fun i => i = wb)) : FwC w0 w w1 w' wb gb cs st' d ov out := by
  have hl := h.lt
  have hl2 := h.le
  exact ⟨hs, h.dm.of_block (hc.block _ h.dm.lt (by omega)), h.chg.trans hc (fun _ _ e => e), (hc.block _ (Array.getElem?_eq_some_iff.1 h.box).1 (by omega)).trans h.box, h.lt, h.le,
    h.oo.chg hc (fun j hj e => by have := (h.oo.lt j hj).1; omega)⟩
theorem FwC.app (h : FwC w0 w w1 wr wb gb cs st d ov out) (ho : kI.Own w' (w1.heap.size + 2) v8 X) (hg : wr.grownBy w' ov.ownBlock) : FwC w0 w w1 w' wb gb cs st d v8 X := by
  have hl := h.lt
  have hl2 := h.le
  have hr : ∀ j, ov.ownBlock = some j → w1.heap.size + 2 ≤ j := fun j hj => (h.oo.lt j hj).1
  have n1 : some wb ≠ ov.ownBlock := fun e => by have := hr wb e.symm; omega
  have n2 : some (w1.heap.size + 1) ≠ ov.ownBlock := fun e => by have := hr _ e.symm; omega
  have n3 : some w.heap.size ≠ ov.ownBlock := fun e => by have := hr _ e.symm; omega
  exact ⟨⟨h.wk.bel.grown hg h.wk.bel.size (fun j hj => by have := hr j hj; have := h.wk.new; omega), h.wk.new, (hg.block _ h.wk.lt n1).trans h.wk.blk, h.wk.small⟩,
    h.dm.of_block (hg.block _ h.dm.lt n2), h.chg.grown hg (fun m hm hml => by have := hr m hm; omega), (hg.block _ (Array.getElem?_eq_some_iff.1 h.box).1 n3).trans h.box, h.lt, h.le, ho⟩
theorem FwC.cells {fr t' : Int} {lab : ByteArray} {most : Nat} (h : FwC w0 w w1 wr wb gb (pAsk fr t' lab most) st d ov out) :
    wr.cell? ⟨w.heap.size, 0, none⟩ = some (.int .i64 fr) ∧ wr.cell? ⟨w.heap.size, 1, none⟩ = some (.int .i64 t') ∧ wr.cell? ⟨w.heap.size, 2, none⟩ = some (.string lab) ∧ wr.cell? ⟨w.heap.size, 3, none⟩ = some (.int .i64 (most : Int)) :=
  ⟨by rw [cell_of_blk h.box]; rfl, by rw [cell_of_blk h.box]; rfl, by rw [cell_of_blk h.box]; rfl, by rw [cell_of_blk h.box]; rfl⟩
end
section
variable {q : Bq} {fr at' x : Int} {kf c m left n : Nat} {out : List Int} {st : Option Nat} {d : DM}
/-- where the walk is not spent, one is found -/
theorem FwM.hit (h : FwM q fr kf c (n + 1) out at' st) (hw : Whole (edB q.E q.lab) q.t m d) (hk : kf ≤ m) (hs : st.isSome = true) : ∃ y ∈ nextL q.E true q.lab at', lookD d y = some n := by
  obtain ⟨h1, _, h3⟩ := h
  obtain ⟨vis, rfl, hf, he⟩ := h3 hs
  obtain ⟨_, y, hy, hd⟩ := hf.here
  refine ⟨y, (mem_next q.ok.se).2 (by simpa using hy), (hw.all y n).2 ⟨?_, hd⟩⟩
  simp at h1
  omega
/-- the first one that is found is the next one -/
theorem FwM.go (h : FwM q fr kf c (n + 1) out at' st) (hw : Whole (edB q.E q.lab) q.t m d) (hs : (payS st (1 + (idsE q.E (sideP true at')).length)).isSome = true) (hk : kf ≤ m) {j : Nat} (hx : (nextL q.E true q.lab at')[j]? = some x) (hl : lookD d x = some n)
    (hno : ∀ i, i < j → ∀ z, (nextL q.E true q.lab at')[i]? = some z → ¬ lookD d z = some n) : FwM q fr kf c n (out ++ [x]) x (payS st (1 + (idsE q.E (sideP true at')).length)) := by
  have h1 := h.1
  refine h.next hs ?_ ((hw.all x n).1 hl).2 (fun y hy hd => first_least (p := fun z => lookD d z = some n) (next_inc q.E true q.lab at') hx hno ((mem_next q.ok.se).2 (by simpa using hy)) ?_)
  · have := (mem_next q.ok.se).1 (List.mem_of_getElem? hx)
    simpa using this
  · refine (hw.all y n).2 ⟨?_, hd⟩
    obtain ⟨vis, e, _, _⟩ := h.2.2 (payS_isSome hs)
    rw [e] at h1
    simp at h1
    omega
end
/-- what Run leaves -/
def RunPost (w0 w : World) (wb gb : Nat) (V : List Vt) (E : List Eg) (lab : ByteArray) (fr t : Int) (most : Nat) (st0 : Option Nat) (e : Ending) (w' : World) : Prop :=
  ∃ v l code st, e = .returned (.tuple #[v, .int .i64 code]) ∧ kI.Own w' w.heap.size v l ∧ WkS w0 w' wb gb st ∧ Chg w w' (fun i => i = wb) ∧ RunM V E lab fr t most st0 code l
theorem pay2 (st : Option Nat) : payS (payS st 1) 1 = payS st 2 := payS_add st 1 1
theorem Sp.two {st : Option Nat} {c : Nat} (h : Sp (payS st 2) c) : Sp st (2 + c) := fun k hk => by
  subst hk
  by_cases h2 : 2 ≤ k
  · have := h (k - 2) (by simp [payS, h2])
    omega
  · omega
theorem Sp.mono {st : Option Nat} {c c' : Nat} (h : Sp st c) (hc : c ≤ c') : Sp st c' := fun k hk => Nat.lt_of_lt_of_le (h k hk) hc
end Go.Proofs.Ytaanohgkdpohhaa
