/- Rows of structs that a call lays for itself, of any element type: append, a slice's own cells. Conditions: each law's own premises. -/
import Derived.Test.YtkbmipmegljidaaGreatWsB
import Derived.Maps.AppendAt
import Derived.OwnWalk
import Derived.Deep.AppendSrc
namespace Go.Proofs.YtkbmipmegljidaaGreat
open Go.RowKit Go.Maps

/-- an element type: its slices' type, its own, how many cells, how many bytes, its cells' values -/
structure RowK (P : Program) (α : Type) where
  t : TypeId
  e : TypeId
  size : Nat
  bytes : Nat
  z : Value
  enc : α → List Value
  ht : P.underlying t = some (.slice e)
  info : (P.info? e).map (fun i => (i.zero, i.size, i.bytes)) = some (some z, size, bytes)
  hz : z.cells.size = size
  pos : 0 < size
  small : bytes ≤ 1000
  len : ∀ x, (enc x).length = size
  one : ∀ x, ∀ u ∈ enc x, u.oneCell' = true
namespace RowK
variable {P : Program} {α : Type} (k : RowK P α)
def cells (l : List α) : List Value := l.flatMap k.enc
theorem cells_len (l : List α) : (k.cells l).length = l.length * k.size := by
  induction l with
  | nil => simp [cells]
  | cons x l ih =>
    show (k.enc x ++ k.cells l).length = _
    rw [List.length_append, k.len, ih, List.length_cons, Nat.succ_mul]; omega
theorem cells_append (l m : List α) : k.cells (l ++ m) = k.cells l ++ k.cells m := by simp [cells]
theorem cells_one (l : List α) : ∀ u ∈ k.cells l, u.oneCell' = true := fun u hu => by
  obtain ⟨x, _, h⟩ := List.mem_flatMap.1 hu
  exact k.one x u h
theorem cells_at : ∀ {l : List α} {i : Nat} {x : α}, l[i]? = some x → ∀ {j : Nat} {u : Value}, (k.enc x)[j]? = some u → (k.cells l)[i * k.size + j]? = some u
  | y :: l, 0, x, hx, j, u, hu => by
    simp at hx; subst hx
    show (k.enc y ++ k.cells l)[0 * k.size + j]? = _
    have hj := (List.getElem?_eq_some_iff.1 hu).1
    rw [Nat.zero_mul, Nat.zero_add, List.getElem?_append_left hj, hu]
  | y :: l, i + 1, x, hx, j, u, hu => by
    have := cells_at (l := l) (i := i) (by simpa using hx) hu
    show (k.enc y ++ k.cells l)[(i + 1) * k.size + j]? = _
    have hs : (i + 1) * k.size + j = k.size + (i * k.size + j) := by rw [Nat.succ_mul]; omega
    rw [List.getElem?_append_right (by rw [k.len, hs]; omega), k.len, hs, Nat.add_sub_cancel_left, this]
/-- which element a cell is of -/
theorem cells_split : ∀ (l : List α) (j : Nat) (u : Value), (k.cells l)[j]? = some u → ∃ i r x, j = i * k.size + r ∧ r < k.size ∧ l[i]? = some x ∧ (k.enc x)[r]? = some u
  | [], j, u, h => by simp [cells] at h
  | y :: l, j, u, h => by
    change (k.enc y ++ k.cells l)[j]? = some u at h
    by_cases hj : j < k.size
    · rw [List.getElem?_append_left (by rw [k.len]; exact hj)] at h
      exact ⟨0, j, y, by omega, hj, rfl, h⟩
    · rw [List.getElem?_append_right (by rw [k.len]; omega), k.len] at h
      obtain ⟨i, r, x, h1, h2, h3, h4⟩ := cells_split l _ u h
      exact ⟨i + 1, r, x, by rw [Nat.succ_mul]; omega, h2, by simpa using h3, h4⟩
/-- elements in memory, one behind the other -/
structure At (w : World) (b off : Nat) (l : List α) : Prop where
  cells : ∀ (i : Nat) (x : α), l[i]? = some x → ∀ (j : Nat) (u : Value), (k.enc x)[j]? = some u → w.cell? ⟨b, off + i * k.size + j, none⟩ = some u
  lt : b < w.heap.size
def V (w : World) (a : Option Addr) (l : List α) : Prop := l ≠ [] → ∃ b off, a = some ⟨b, off, none⟩ ∧ k.At w b off l
/-- a slice value that owns elements, in a block from B on -/
def Own (w : World) (B : Nat) (v : Value) (l : List α) : Prop := w.ownsRow B k.e k.size v l.length (k.cells l)
variable {k} {w w' : World} {B : Nat} {v : Value} {l : List α}
theorem At.of_block {b off : Nat} (h : k.At w b off l) (hb : w'.heap[b]? = w.heap[b]?) : k.At w' b off l :=
  ⟨fun i x hx j u hu => (World.cell?_of_block (a := ⟨b, off + i * k.size + j, none⟩) hb).trans (h.cells i x hx j u hu), (Array.getElem?_eq_some_iff.1 (hb.trans (Array.getElem?_eq_getElem h.lt))).1⟩
theorem At.below {b off : Nat} (h : k.At w b off l) (hb : Below w.heap.size w w') : k.At w' b off l := h.of_block (hb.block b h.lt)
theorem V.below {a : Option Addr} (h : k.V w a l) (hb : Below w.heap.size w w') : k.V w' a l := fun hn => by
  obtain ⟨b, off, e, hat⟩ := h hn
  exact ⟨b, off, e, hat.below hb⟩
theorem Own.below (h : k.Own w B v l) (hb : Below w.heap.size w w') : k.Own w' B v l := ownsRow_of_block h (fun j hj => hb.block j (h.lt j hj).2)
theorem Own.alloc (h : k.Own w B v l) (X : Obj) : k.Own (w.alloc X) B v l := h.below (below_box w X)
theorem Own.drew (h : k.Own w B v l) : k.Own w.drew B v l := ownsRow_of_block h (fun _ _ => rfl)
theorem Own.grown {r : Option Nat} (h : k.Own w B v l) (hg : w.grownBy w' r) (hn : ∀ j, v.ownBlock = some j → some j ≠ r) : k.Own w' B v l := ownsRow_of_block h (fun j hj => hg.block j (h.lt j hj).2 (hn j hj))
theorem Own.chg {S : Nat → Prop} (h : k.Own w B v l) (hg : Chg w w' S) (hn : ∀ j, v.ownBlock = some j → ¬ S j) : k.Own w' B v l := ownsRow_of_block h (fun j hj => hg.block j (h.lt j hj).2 (hn j hj))
theorem Own.mono {B' : Nat} (h : k.Own w B v l) (hB : B' ≤ B) : k.Own w B' v l := by
  refine ⟨h.1, ?_⟩
  rcases h.2 with h' | ⟨g, cap, cur, h1, h2, r⟩
  · exact .inl h'
  · exact .inr ⟨g, cap, cur, h1, by omega, r⟩
variable (k) in
theorem Own.nil (w : World) (B : Nat) : k.Own w B (.slice none 0 0) [] := ⟨by simp [RowK.cells], .inl ⟨rfl, rfl⟩⟩
theorem Own.shape (h : k.Own w B v l) : ∃ a cap, v = .slice a l.length cap := by
  rcases h.2 with ⟨rfl, hl⟩ | ⟨g, cap, cur, rfl, _⟩
  · exact ⟨none, 0, by rw [hl]⟩
  · exact ⟨_, _, rfl⟩
theorem Own.at' (h : k.Own w B v l) (hl : l ≠ []) : ∃ b cap, v = .slice (some ⟨b, 0, none⟩) l.length cap ∧ B ≤ b ∧ l.length ≤ cap ∧ k.At w b 0 l := by
  rcases h.2 with ⟨_, h'⟩ | ⟨g, cap, cur, h1, h2, h3, h4, h5, h6, h7⟩
  · exact absurd (List.eq_nil_of_length_eq_zero h') hl
  · refine ⟨g, cap, h1, h2, h4, ⟨fun i x hx j u hu => ?_, (Array.getElem?_eq_some_iff.1 h3).1⟩⟩
    have := h.cells (g := g) (by rw [h1]; rfl) _ _ (k.cells_at hx hu)
    rw [add_none] at this
    rw [Nat.add_assoc]
    exact this
theorem Own.toV {a : Option Addr} {n cap : Nat} (h : k.Own w B (.slice a n cap) l) : k.V w a l := fun hn => by
  obtain ⟨g, c, hv, _, _, hat⟩ := h.at' hn
  injection hv with h1 h2 h3
  exact ⟨g, 0, h1, hat⟩
/-- a block that was just laid -/
theorem Own.new {b : Nat} {cs : Array Value} (hb : w.heap[b]? = some (.cells cs k.e (0, 0))) (hB : B ≤ b) (hc : cs.toList = k.cells l) (hl : l.length ≤ maxLen) : k.Own w B (.slice (some ⟨b, 0, none⟩) l.length l.length) l := by
  refine ⟨k.cells_len l, .inr ⟨b, l.length, cs, rfl, hB, hb, Nat.le_refl _, hl, ?_, ?_⟩⟩
  · have := congrArg List.length hc
    rw [k.cells_len] at this
    simpa using this
  · rw [hc]; exact List.take_of_length_le (by rw [k.cells_len]; exact Nat.le_refl _)
theorem new_at {b : Nat} {cs : Array Value} (hb : w.heap[b]? = some (.cells cs k.e (0, 0))) (hc : cs.toList = k.cells l) : k.At w b 0 l :=
  ⟨fun i x hx j u hu => by
    rw [cell_of_blk hb, ← Array.getElem?_toList, hc, Nat.zero_add]
    exact k.cells_at hx hu, (Array.getElem?_eq_some_iff.1 hb).1⟩
/-- what an append leaves -/
def App (k : RowK P α) (w : World) (B : Nat) (v : Value) (l : List α) (v' : Value) (w' : World) : Prop :=
  k.Own w' B v' l ∧ w.grownBy w' v.ownBlock ∧ (v'.ownBlock = v.ownBlock ∨ v'.ownBlock = some w.heap.size)
theorem run_app (ty : TypeId) (h : k.Own w B v l) (a : Option Addr) (m : List α) (c : Nat) (hm : k.V w a m) (hc : a = none → c = 0) (hlen : l.length + m.length ≤ 4000000) (hB : B ≤ w.heap.size) :
    ∃ v' w', (Builtin.append_ #[k.t, k.t] ty #[v, .slice a m.length c]).run P w = .ok v' w' ∧ k.App w B v (l ++ m) v' w' := by
  obtain ⟨i0, hi, hz0, hz1, hz2⟩ := info_parts k.info
  cases a with
  | none =>
    have hm0 : m = [] := Classical.byContradiction fun hn => by obtain ⟨b, off, e, _⟩ := hm hn; cases e
    obtain rfl := hc rfl
    subst hm0
    refine ⟨v, w, ?_, by rw [List.append_nil]; exact h, ⟨rfl, rfl, rfl, Nat.le_refl _, fun _ _ _ => rfl⟩, Or.inl rfl⟩
    rcases h.2 with ⟨rfl, _⟩ | ⟨g, cap, cur, rfl, _, _, hnc, _⟩
    · simp [Builtin.append_, run_underlying k.ht, sizeOf, typeInfo, hi, Builtin.lenOf, Builtin.firstCells]
    · have : l.length + 0 ≤ cap := hnc
      simp [Builtin.append_, run_underlying k.ht, sizeOf, typeInfo, hi, Builtin.lenOf, Builtin.firstCells, loadCells, hnc, storeCells]
  | some a =>
    have hcell : ∀ (j : Nat) (u : Value), (k.cells m)[j]? = some u → w.cell? (a.add j) = some u := fun j u hu => by
      obtain ⟨i, r, x, h1, _, h3, h4⟩ := k.cells_split m j u hu
      obtain ⟨b, off, e, hat⟩ := hm (fun e => by rw [e] at h3; simp at h3)
      injection e with e
      rw [e, add_none, h1, ← Nat.add_assoc]
      exact hat.cells i x h3 r u h4
    have hsm := k.small
    obtain ⟨v', w', hr, h2, h3, _, h5⟩ := run_append_own_at (P := P) w B k.t ty k.e i0 _ k.size k.bytes k.ht hi hz0 hz1 hz2 k.hz k.pos v l.length (k.cells l) h a m.length c (k.cells m) (k.cells_len m) hcell (k.cells_one m) (by unfold maxLen; omega)
      (Nat.le_trans (Nat.mul_le_mul hlen hsm) (by decide)) hB
    refine ⟨v', w', hr, ?_, h3, h5⟩
    unfold Own
    rw [List.length_append, k.cells_append]
    exact h2
/-- at a step of a region that draws its order -/
theorem step_app {ops : Array Oper} {o : Oper} {a : Act} {K : Act → World → Prop} {Q : Exit → Act → World → Prop} {E : Prop} (hgd : o.guard = none) (s x : Operand)
    (ho : o.op = .call { callee := .builtin .append, args := #[s, x], argTypes := #[k.t, k.t] }) (hs : a.eval s = v) (h : k.Own w B v l)
    (xa : Option Addr) (n : Nat) (m : List α) (c : Nat) (hx : a.eval x = .slice xa n c) (hn : m.length = n) (hm : k.V w xa m) (hc : xa = none → c = 0) (hlen : l.length + m.length ≤ 4000000) (hB : B ≤ w.heap.size)
    (hK : ∀ v' w', k.App w B v (l ++ m) v' w' → K (a.put o.dst v') w') :
    if Region.wanted o (yielded ops a.tmps) = true then Oper.wp P o a w K Q else E := by
  have hw : Region.wanted o (yielded ops a.tmps) = true := by simp [Region.wanted, hgd]
  rw [if_pos hw]
  subst hn
  obtain ⟨v', w', hr, h2⟩ := run_app o.type h xa m c hm hc hlen hB
  unfold Oper.wp execOp
  simp only [ho, resolve, invoke, builtin, Sem.run_bind, Sem.run_pure, Result.andThen_ok, List.map_toArray, List.map_cons, List.map_nil, hs, hx, hr]
  exact hK v' w' h2
/-- at the operation -/
theorem wpList_app {ops : Array Oper} {rest : List Oper} {o : Oper} {a : Act} {Q : Exit → Act → World → Prop} (hgd : o.guard = none) (s x : Operand)
    (ho : o.op = .call { callee := .builtin .append, args := #[s, x], argTypes := #[k.t, k.t] }) (hs : a.eval s = v) (h : k.Own w B v l)
    (xa : Option Addr) (n : Nat) (m : List α) (c : Nat) (hx : a.eval x = .slice xa n c) (hn : m.length = n) (hm : k.V w xa m) (hc : xa = none → c = 0) (hlen : l.length + m.length ≤ 4000000) (hB : B ≤ w.heap.size)
    (hK : ∀ v' w', k.App w B v (l ++ m) v' w' → wpList P ops Q rest (a.put o.dst v') w') :
    wpList P ops Q (o :: rest) a w := by
  refine wpList_plain hgd fun K' hK' => ?_
  subst hn
  obtain ⟨v', w', hr, h2⟩ := run_app o.type h xa m c hm hc hlen hB
  unfold Oper.wp execOp
  simp only [ho, resolve, invoke, builtin, Sem.run_bind, Sem.run_pure, Result.andThen_ok, List.map_toArray, List.map_cons, List.map_nil, hs, hx, hr]
  exact hK' _ _ (hK v' w' h2)
end RowK
end Go.Proofs.YtkbmipmegljidaaGreat
