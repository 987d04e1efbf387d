/- Layer 19: a map of distances in memory; what path.back keeps. Conditions: each lemma's own premises. -/
import Derived.Test.YtaanohgkdpohhaaPa1
namespace Go.Proofs.Ytaanohgkdpohhaa
open Go.RowKit Go.Maps

theorem zeroI (w : World) : (zeroValue 3).run Try.prog w = .ok (.int .i64 0) w := by kernel_rfl
/-- a map of distances in memory -/
def DmC (w : World) (db : Nat) (d : DM) : Prop := ∃ f : Lit → Option Value, mapR w Try.prog 3 db d.length f ∧ ∀ n, I64 n → f (.int .i64 n) = (lookD d n).map (fun k => Value.int .i64 ((k : Nat) : Int))
theorem DmC.lt {w : World} {db : Nat} {d : DM} (h : DmC w db d) : db < w.heap.size := by obtain ⟨_, m, _⟩ := h; exact m.lt
theorem DmC.of_block {w w' : World} {db : Nat} {d : DM} (h : DmC w db d) (hb : w'.heap[db]? = w.heap[db]?) : DmC w' db d := by
  obtain ⟨f, m, hf⟩ := h
  exact ⟨f, m.of_block hb, hf⟩
theorem DmC.look {w : World} {db : Nat} {d : DM} (h : DmC w db d) {n : Int} (hn : I64 n) :
    (Instr.lookup 153 (.map (some db)) (.int .i64 n) true).run Try.prog w = .ok (.tuple #[.int .i64 (((lookD d n).getD 0 : Nat) : Int), .bool (lookD d n).isSome]) w := by
  obtain ⟨f, m, hf⟩ := h
  have e := m.look_ok lawI Try.underlying153 (zeroI w) (keyI hn)
  rw [hf n hn] at e
  rw [e]
  cases lookD d n <;> rfl
open Classical in
theorem DmC.put {w2 : World} {db : Nat} {d : DM} {x : Int} {k : Nat} {f : Lit → Option Value} (hf : ∀ n, I64 n → f (.int .i64 n) = (lookD d n).map (fun k => Value.int .i64 ((k : Nat) : Int))) (hx : x ∉ keysD d) (hxi : I64 x)
    (m2 : mapR w2 Try.prog 3 db (if (f (.int .i64 x)).isSome then d.length else d.length + 1) (upd f (.int .i64 x) (some (.int .i64 (k : Int))))) : DmC w2 db (d ++ [(x, k)]) := by
  rw [hf x hxi, lookD_none.2 hx] at m2
  refine ⟨_, by simpa using m2, fun n hn => ?_⟩
  rw [lookD_app hx]
  unfold upd
  by_cases e : n = x
  · subst e; simp
  · rw [if_neg (fun e2 => e (lit_int.1 e2)), if_neg e]
    exact hf n hn
/-- what back keeps: the walk, the map, its argument's box -/
structure BkC (w0 w wr : World) (wb gb : Nat) (V : List Vt) (t : Int) (cs : Array Value) (st : Option Nat) (d : DM) : Prop where
  wk : WkS w0 wr wb gb st
  dm : DmC wr (w.heap.size + 1) d
  chg : Chg w wr (fun i => i = wb)
  nd : (keysD d).Nodup
  sub : ∀ v ∈ keysD d, v = t ∨ ∃ u ∈ V, u.id = v
  box : wr.heap[w.heap.size]? = some (.cells cs 107 (0, 0))
  lt : wb < w.heap.size
section
variable {w0 w wr w' : World} {wb gb : Nat} {V : List Vt} {t : Int} {cs : Array Value} {st st' : Option Nat} {d : DM}
theorem BkC.below (h : BkC w0 w wr wb gb V t cs st d) (hb : Below wr.heap.size wr w') : BkC w0 w w' wb gb V t cs st d :=
  ⟨h.wk.below hb, h.dm.of_block (hb.block _ h.dm.lt), h.chg.andBelow (hb.mono h.chg.size), h.nd, h.sub, (hb.block _ (Array.getElem?_eq_some_iff.1 h.box).1).trans h.box, h.lt⟩
theorem BkC.next (h : BkC w0 w wr wb gb V t cs st d) (hs : WkS w0 w' wb gb st') (hc : Chg wr w' (fun i => i = wb)) : BkC w0 w w' wb gb V t cs st' d :=
  ⟨hs, h.dm.of_block (hc.block _ h.dm.lt (by have := h.lt; omega)), h.chg.trans hc (fun _ _ e => e), h.nd, h.sub, (hc.block _ (Array.getElem?_eq_some_iff.1 h.box).1 (by have := h.lt; omega)).trans h.box, h.lt⟩
theorem BkC.grown (h : BkC w0 w wr wb gb V t cs st d) {r : Option Nat} (hg : wr.grownBy w' r) (hr : ∀ j, r = some j → w.heap.size + 2 ≤ j) : BkC w0 w w' wb gb V t cs st d := by
  have hl := h.lt
  have n1 : some wb ≠ r := fun e => by have := hr wb e.symm; omega
  have n2 : some (w.heap.size + 1) ≠ r := fun e => by have := hr _ e.symm; omega
  have n3 : some w.heap.size ≠ r := fun e => by have := hr _ e.symm; omega
  exact ⟨⟨h.wk.bel.grown hg h.wk.bel.size (fun j hj => by have := hr j hj; have := h.wk.new; omega), h.wk.new, (hg.block _ h.wk.lt n1).trans h.wk.blk, h.wk.small⟩,
    h.dm.of_block (hg.block _ h.dm.lt n2), h.chg.grown hg (fun m hm hml => by have := hr m hm; omega), h.nd, h.sub, (hg.block _ (Array.getElem?_eq_some_iff.1 h.box).1 n3).trans h.box, h.lt⟩
theorem BkC.turn (h : BkC w0 w wr wb gb V t cs st d) {d' : DM} (ht : wr.mapTurned w' (w.heap.size + 1)) (hd : DmC w' (w.heap.size + 1) d') (hn : (keysD d').Nodup) (hs : ∀ v ∈ keysD d', v = t ∨ ∃ u ∈ V, u.id = v) : BkC w0 w w' wb gb V t cs st d' := by
  have hl := h.lt
  have hg := ht.grown
  exact ⟨⟨h.wk.bel.grown hg h.wk.bel.size (fun j hj => by injection hj with hj; have := h.wk.new; omega), h.wk.new, (turned_block ht (by omega)).trans h.wk.blk, h.wk.small⟩,
    hd, h.chg.turned ht (fun hl2 => by omega), hn, hs, (turned_block ht (by omega)).trans h.box, h.lt⟩
theorem BkC.cnt (h : BkC w0 w wr wb gb V t cs st d) : d.length ≤ V.length + 1 := by
  have h1 := nodup_len (m := t :: V.map Vt.id) h.nd (fun v hv => by
    rcases h.sub v hv with e | ⟨u, hu, e⟩
    · exact List.mem_cons.2 (.inl e)
    · exact List.mem_cons.2 (.inr (List.mem_map.2 ⟨u, hu, e⟩)))
  unfold keysD at h1
  simpa using h1
end
/-- a walk that is spent had too few steps -/
def Sp (st0 : Option Nat) (cb : Nat) : Prop := ∀ k, st0 = some k → k < cb
theorem payS_none {k c : Nat} (h : payS (some k) c = none) : k < c := by
  by_cases hc : c ≤ k
  · simp [payS, hc] at h
  · omega
theorem Sp.of {st0 : Option Nat} {c cb : Nat} (h : payS st0 c = none) (hc : ∀ k, st0 = some k → c ≤ cb) : Sp st0 cb := fun k hk => by
  rw [hk] at h
  have := payS_none h
  have := hc k hk
  omega
theorem cost_cb {E : List Eg} {V : List Vt} {X : List Int} (out : Bool) (hn : X.Nodup) (hs : ∀ v ∈ X, ∃ u ∈ V, u.id = v) : cost E out X ≤ V.length + E.length := by
  have h1 := cost_le out hn E
  have h2 := nodup_len (m := V.map Vt.id) hn (fun v hv => by obtain ⟨u, hu, e⟩ := hs v hv; exact List.mem_map.2 ⟨u, hu, e⟩)
  rw [List.length_map] at h2
  omega
end Go.Proofs.Ytaanohgkdpohhaa
