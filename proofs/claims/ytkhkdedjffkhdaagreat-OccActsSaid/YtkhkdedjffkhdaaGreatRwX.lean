/- Rows of structs that a call lays for itself, of any element type: append, a slice's own cells. Conditions: each law's own premises. Rows of structs: slices of them, an element written, an element in a new block. Conditions: each law's own premises. Rows of structs: where an element's cells lie. Conditions: each law's own premises. -/
import Derived.Test.YtkhkdedjffkhdaaGreatBsA
import Derived.Maps.AppendAt
import Derived.OwnWalk
import Derived.Deep.AppendSrc
import Derived.Deep.WholeRow
import Derived.Deep.MidRow
namespace Go.Proofs.YtkhkdedjffkhdaaGreat
open Go.RowKit Go.Maps

/-- an element type: its slices' type, its own, how many cells, how many bytes, its cells' values -/
structure RowK (P : Program) (α : Type) where
  t : TypeId
  e : TypeId
  size : Nat
  bytes : Nat
  z : Value
  enc : α → List Value
  ht : P.underlying t = some (.slice e)
  info : (P.info? e).map (fun i => (i.zero, i.size, i.bytes)) = some (some z, size, bytes)
  hz : z.cells.size = size
  pos : 0 < size
  small : bytes ≤ 1000
  len : ∀ x, (enc x).length = size
  one : ∀ x, ∀ u ∈ enc x, u.oneCell' = true
namespace RowK
variable {P : Program} {α : Type} (k : RowK P α)
def cells (l : List α) : List Value := l.flatMap k.enc
theorem cells_len (l : List α) : (k.cells l).length = l.length * k.size := by
  induction l with
  | nil => simp [cells]
  | cons x l ih =>
    show (k.enc x ++ k.cells l).length = _
    rw [List.length_append, k.len, ih, List.length_cons, Nat.succ_mul]; omega
theorem cells_append (l m : List α) : k.cells (l ++ m) = k.cells l ++ k.cells m := by simp [cells]
theorem cells_one (l : List α) : ∀ u ∈ k.cells l, u.oneCell' = true := fun u hu => by
  obtain ⟨x, _, h⟩ := List.mem_flatMap.1 hu
  exact k.one x u h
theorem cells_at : ∀ {l : List α} {i : Nat} {x : α}, l[i]? = some x → ∀ {j : Nat} {u : Value}, (k.enc x)[j]? = some u → (k.cells l)[i * k.size + j]? = some u
  | y :: l, 0, x, hx, j, u, hu => by
    simp at hx; subst hx
    show (k.enc y ++ k.cells l)[0 * k.size + j]? = _
    have hj := (List.getElem?_eq_some_iff.1 hu).1
    rw [Nat.zero_mul, Nat.zero_add, List.getElem?_append_left hj, hu]
  | y :: l, i + 1, x, hx, j, u, hu => by
    have := cells_at (l := l) (i := i) (by simpa using hx) hu
    show (k.enc y ++ k.cells l)[(i + 1) * k.size + j]? = _
    have hs : (i + 1) * k.size + j = k.size + (i * k.size + j) := by rw [Nat.succ_mul]; omega
    rw [List.getElem?_append_right (by rw [k.len, hs]; omega), k.len, hs, Nat.add_sub_cancel_left, this]
/-- which element a cell is of -/
theorem cells_split : ∀ (l : List α) (j : Nat) (u : Value), (k.cells l)[j]? = some u → ∃ i r x, j = i * k.size + r ∧ r < k.size ∧ l[i]? = some x ∧ (k.enc x)[r]? = some u
  | [], j, u, h => by simp [cells] at h
  | y :: l, j, u, h => by
    change (k.enc y ++ k.cells l)[j]? = some u at h
    by_cases hj : j < k.size
    · rw [List.getElem?_append_left (by rw [k.len]; exact hj)] at h
      exact ⟨0, j, y, by omega, hj, rfl, h⟩
    · rw [List.getElem?_append_right (by rw [k.len]; omega), k.len] at h
      obtain ⟨i, r, x, h1, h2, h3, h4⟩ := cells_split l _ u h
      exact ⟨i + 1, r, x, by rw [Nat.succ_mul]; omega, h2, by simpa using h3, h4⟩
/-- elements in memory, one behind the other -/
structure At (w : World) (b off : Nat) (l : List α) : Prop where
  cells : ∀ (i : Nat) (x : α), l[i]? = some x → ∀ (j : Nat) (u : Value), (k.enc x)[j]? = some u → w.cell? ⟨b, off + i * k.size + j, none⟩ = some u
  lt : b < w.heap.size
def V (w : World) (a : Option Addr) (l : List α) : Prop := l ≠ [] → ∃ b off, a = some ⟨b, off, none⟩ ∧ k.At w b off l
/-- a slice value that owns elements, in a block from B on -/
def Own (w : World) (B : Nat) (v : Value) (l : List α) : Prop := w.ownsRow B k.e k.size v l.length (k.cells l)
variable {k} {w w' : World} {B : Nat} {v : Value} {l : List α}
theorem At.of_block {b off : Nat} (h : k.At w b off l) (hb : w'.heap[b]? = w.heap[b]?) : k.At w' b off l :=
  ⟨fun i x hx j u hu => (World.cell?_of_block (a := ⟨b, off + i * k.size + j, none⟩) hb).trans (h.cells i x hx j u hu), (Array.getElem?_eq_some_iff.1 (hb.trans (Array.getElem?_eq_getElem h.lt))).1⟩
theorem At.below {b off : Nat} (h : k.At w b off l) (hb : Below w.heap.size w w') : k.At w' b off l := h.of_block (hb.block b h.lt)
theorem V.below {a : Option Addr} (h : k.V w a l) (hb : Below w.heap.size w w') : k.V w' a l := fun hn => by
  obtain ⟨b, off, e, hat⟩ := h hn
  exact ⟨b, off, e, hat.below hb⟩
theorem Own.below (h : k.Own w B v l) (hb : Below w.heap.size w w') : k.Own w' B v l := ownsRow_of_block h (fun j hj => hb.block j (h.lt j hj).2)
theorem Own.alloc (h : k.Own w B v l) (X : Obj) : k.Own (w.alloc X) B v l := h.below (below_box w X)
theorem Own.drew (h : k.Own w B v l) : k.Own w.drew B v l := ownsRow_of_block h (fun _ _ => rfl)
theorem Own.grown {r : Option Nat} (h : k.Own w B v l) (hg : w.grownBy w' r) (hn : ∀ j, v.ownBlock = some j → some j ≠ r) : k.Own w' B v l := ownsRow_of_block h (fun j hj => hg.block j (h.lt j hj).2 (hn j hj))
theorem Own.chg {S : Nat → Prop} (h : k.Own w B v l) (hg : Chg w w' S) (hn : ∀ j, v.ownBlock = some j → ¬ S j) : k.Own w' B v l := ownsRow_of_block h (fun j hj => hg.block j (h.lt j hj).2 (hn j hj))
theorem Own.mono {B' : Nat} (h : k.Own w B v l) (hB : B' ≤ B) : k.Own w B' v l := by
  refine ⟨h.1, ?_⟩
  rcases h.2 with h' | ⟨g, cap, cur, h1, h2, r⟩
  · exact .inl h'
  · exact .inr ⟨g, cap, cur, h1, by omega, r⟩
variable (k) in
theorem Own.nil (w : World) (B : Nat) : k.Own w B (.slice none 0 0) [] := ⟨by simp [RowK.cells], .inl ⟨rfl, rfl⟩⟩
theorem Own.shape (h : k.Own w B v l) : ∃ a cap, v = .slice a l.length cap := by
  rcases h.2 with ⟨rfl, hl⟩ | ⟨g, cap, cur, rfl, _⟩
  · exact ⟨none, 0, by rw [hl]⟩
  · exact ⟨_, _, rfl⟩
theorem Own.at' (h : k.Own w B v l) (hl : l ≠ []) : ∃ b cap, v = .slice (some ⟨b, 0, none⟩) l.length cap ∧ B ≤ b ∧ l.length ≤ cap ∧ k.At w b 0 l := by
  rcases h.2 with ⟨_, h'⟩ | ⟨g, cap, cur, h1, h2, h3, h4, h5, h6, h7⟩
  · exact absurd (List.eq_nil_of_length_eq_zero h') hl
  · refine ⟨g, cap, h1, h2, h4, ⟨fun i x hx j u hu => ?_, (Array.getElem?_eq_some_iff.1 h3).1⟩⟩
    have := h.cells (g := g) (by rw [h1]; rfl) _ _ (k.cells_at hx hu)
    rw [add_none] at this
    rw [Nat.add_assoc]
    exact this
theorem Own.toV {a : Option Addr} {n cap : Nat} (h : k.Own w B (.slice a n cap) l) : k.V w a l := fun hn => by
  obtain ⟨g, c, hv, _, _, hat⟩ := h.at' hn
  injection hv with h1 h2 h3
  exact ⟨g, 0, h1, hat⟩
/-- a block that was just laid -/
theorem Own.new {b : Nat} {cs : Array Value} (hb : w.heap[b]? = some (.cells cs k.e (0, 0))) (hB : B ≤ b) (hc : cs.toList = k.cells l) (hl : l.length ≤ maxLen) : k.Own w B (.slice (some ⟨b, 0, none⟩) l.length l.length) l := by
  refine ⟨k.cells_len l, .inr ⟨b, l.length, cs, rfl, hB, hb, Nat.le_refl _, hl, ?_, ?_⟩⟩
  · have := congrArg List.length hc
    rw [k.cells_len] at this
    simpa using this
  · rw [hc]; exact List.take_of_length_le (by rw [k.cells_len]; exact Nat.le_refl _)
theorem new_at {b : Nat} {cs : Array Value} (hb : w.heap[b]? = some (.cells cs k.e (0, 0))) (hc : cs.toList = k.cells l) : k.At w b 0 l :=
  ⟨fun i x hx j u hu => by
    rw [cell_of_blk hb, ← Array.getElem?_toList, hc, Nat.zero_add]
    exact k.cells_at hx hu, (Array.getElem?_eq_some_iff.1 hb).1⟩
/-- what an append leaves -/
def App (k : RowK P α) (w : World) (B : Nat) (v : Value) (l : List α) (v' : Value) (w' : World) : Prop :=
  k.Own w' B v' l ∧ w.grownBy w' v.ownBlock ∧ (v'.ownBlock = v.ownBlock ∨ v'.ownBlock = some w.heap.size)
theorem run_app (ty : TypeId) (h : k.Own w B v l) (a : Option Addr) (m : List α) (c : Nat) (hm : k.V w a m) (hc : a = none → c = 0) (hlen : l.length + m.length ≤ 4000000) (hB : B ≤ w.heap.size) :
    ∃ v' w', (Builtin.append_ #[k.t, k.t] ty #[v, .slice a m.length c]).run P w = .ok v' w' ∧ k.App w B v (l ++ m) v' w' := by
  obtain ⟨i0, hi, hz0, hz1, hz2⟩ := info_parts k.info
  cases a with
  | none =>
    have hm0 : m = [] := Classical.byContradiction fun hn => by obtain ⟨b, off, e, _⟩ := hm hn; cases e
    obtain rfl := hc rfl
    subst hm0
    refine ⟨v, w, ?_, by rw [List.append_nil]; exact h, ⟨rfl, rfl, rfl, Nat.le_refl _, fun _ _ _ => rfl⟩, Or.inl rfl⟩
    rcases h.2 with ⟨rfl, _⟩ | ⟨g, cap, cur, rfl, _, _, hnc, _⟩
    · simp [Builtin.append_, run_underlying k.ht, sizeOf, typeInfo, hi, Builtin.lenOf, Builtin.firstCells]
    · have : l.length + 0 ≤ cap := hnc
      simp [Builtin.append_, run_underlying k.ht, sizeOf, typeInfo, hi, Builtin.lenOf, Builtin.firstCells, loadCells, hnc, storeCells]
  | some a =>
    have hcell : ∀ (j : Nat) (u : Value), (k.cells m)[j]? = some u → w.cell? (a.add j) = some u := fun j u hu => by
      obtain ⟨i, r, x, h1, _, h3, h4⟩ := k.cells_split m j u hu
      obtain ⟨b, off, e, hat⟩ := hm (fun e => by rw [e] at h3; simp at h3)
      injection e with e
      rw [e, add_none, h1, ← Nat.add_assoc]
      exact hat.cells i x h3 r u h4
    have hsm := k.small
    obtain ⟨v', w', hr, h2, h3, _, h5⟩ := run_append_own_at (P := P) w B k.t ty k.e i0 _ k.size k.bytes k.ht hi hz0 hz1 hz2 k.hz k.pos v l.length (k.cells l) h a m.length c (k.cells m) (k.cells_len m) hcell (k.cells_one m) (by unfold maxLen; omega)
      (Nat.le_trans (Nat.mul_le_mul hlen hsm) (by decide)) hB
    refine ⟨v', w', hr, ?_, h3, h5⟩
    unfold Own
    rw [List.length_append, k.cells_append]
    exact h2
/-- at a step of a region that draws its order -/
theorem step_app {ops : Array Oper} {o : Oper} {a : Act} {K : Act → World → Prop} {Q : Exit → Act → World → Prop} {E : Prop} (hgd : o.guard = none) (s x : Operand)
    (ho : o.op = .call { callee := .builtin .append, args := #[s, x], argTypes := #[k.t, k.t] }) (hs : a.eval s = v) (h : k.Own w B v l)
    (xa : Option Addr) (n : Nat) (m : List α) (c : Nat) (hx : a.eval x = .slice xa n c) (hn : m.length = n) (hm : k.V w xa m) (hc : xa = none → c = 0) (hlen : l.length + m.length ≤ 4000000) (hB : B ≤ w.heap.size)
    (hK : ∀ v' w', k.App w B v (l ++ m) v' w' → K (a.put o.dst v') w') :
    if Region.wanted o (yielded ops a.tmps) = true then Oper.wp P o a w K Q else E := by
  have hw : Region.wanted o (yielded ops a.tmps) = true := by simp [Region.wanted, hgd]
  rw [if_pos hw]
  subst hn
  obtain ⟨v', w', hr, h2⟩ := run_app o.type h xa m c hm hc hlen hB
  unfold Oper.wp execOp
  simp only [ho, resolve, invoke, builtin, Sem.run_bind, Sem.run_pure, Result.andThen_ok, List.map_toArray, List.map_cons, List.map_nil, hs, hx, hr]
  exact hK v' w' h2
/-- at the operation -/
theorem wpList_app {ops : Array Oper} {rest : List Oper} {o : Oper} {a : Act} {Q : Exit → Act → World → Prop} (hgd : o.guard = none) (s x : Operand)
    (ho : o.op = .call { callee := .builtin .append, args := #[s, x], argTypes := #[k.t, k.t] }) (hs : a.eval s = v) (h : k.Own w B v l)
    (xa : Option Addr) (n : Nat) (m : List α) (c : Nat) (hx : a.eval x = .slice xa n c) (hn : m.length = n) (hm : k.V w xa m) (hc : xa = none → c = 0) (hlen : l.length + m.length ≤ 4000000) (hB : B ≤ w.heap.size)
    (hK : ∀ v' w', k.App w B v (l ++ m) v' w' → wpList P ops Q rest (a.put o.dst v') w') :
    wpList P ops Q (o :: rest) a w := by
  refine wpList_plain hgd fun K' hK' => ?_
  subst hn
  obtain ⟨v', w', hr, h2⟩ := run_app o.type h xa m c hm hc hlen hB
  unfold Oper.wp execOp
  simp only [ho, resolve, invoke, builtin, Sem.run_bind, Sem.run_pure, Result.andThen_ok, List.map_toArray, List.map_cons, List.map_nil, hs, hx, hr]
  exact hK' _ _ (hK v' w' h2)
end RowK
end Go.Proofs.YtkhkdedjffkhdaaGreat
namespace Go.Proofs.YtkhkdedjffkhdaaGreat
open Go.RowKit Go.Maps

/-- a block's cells, some of them written -/
theorem blk_setCells {b : Nat} {t : TypeId} {z : Nat × Nat} : ∀ (vs : List Value) (o : Nat) (w : World) (c : Array Value), w.heap[b]? = some (.cells c t z) → ∃ c', (w.setCells b o vs).heap[b]? = some (.cells c' t z) ∧ c'.size = c.size ∧ ∀ j, c'[j]? = if o ≤ j ∧ j < o + vs.length ∧ j < c.size then vs[j - o]? else c[j]?
  | [], o, w, c, h => ⟨c, h, rfl, fun j => by rw [if_neg (by simp; omega)]⟩
  | v :: vs, o, w, c, h => by
    obtain ⟨c', h1, h2, h3⟩ := blk_setCells vs (o + 1) (w.setCell ⟨b, o, none⟩ v) _ (blk_setCell h v)
    refine ⟨c', h1, by rw [h2]; simp, fun j => ?_⟩
    rw [h3 j]
    simp only [Array.size_setIfInBounds, List.length_cons, Array.getElem?_setIfInBounds]
    by_cases e : o = j
    · subst e
      rw [if_neg (by omega), if_pos rfl]
      by_cases hl : o < c.size
      · rw [if_pos hl, if_pos ⟨Nat.le_refl _, by omega, hl⟩, Nat.sub_self]; rfl
      · rw [if_neg hl, if_neg (by omega), Array.getElem?_eq_none (by omega)]
    · rw [if_neg e]
      by_cases h4 : o + 1 ≤ j ∧ j < o + 1 + vs.length ∧ j < c.size
      · rw [if_pos h4, if_pos ⟨by omega, by omega, h4.2.2⟩, show j - o = (j - (o + 1)) + 1 by omega, List.getElem?_cons_succ]
      · rw [if_neg h4, if_neg (fun h5 => h4 ⟨by omega, by omega, h5.2.2⟩)]
/-- a value into a new block -/
theorem wpList_store_new {P : Program} {w : World} {ops : Array Oper} {rest : List Oper} {op : Oper} {a : Act} {Q : Exit → Act → World → Prop} (hgd : op.guard = none) (ty : TypeId) (x y : Operand) (ho : op.op = .store ty x y)
    (c c' : Array Value) (b : Nat) (hb : b = w.heap.size) (hx : a.eval x = .pointer (some ⟨b, 0, none⟩)) (hy : a.eval y = .agg c') (hi : (P.info? ty).map (·.size) = some c'.size) (hs : c.size = c'.size) (h1 : c'.all (·.oneCell') = true)
    (h : wpList P ops Q rest (a.put op.dst undef) (w.alloc (.cells c' ty))) : wpList P ops Q (op :: rest) a (w.alloc (.cells c ty)) := by
  subst hb
  refine wpList_plain hgd fun _ hK => ?_
  unfold Oper.wp execOp
  simp only [ho, hx, hy, Instr.storeAt, Instr.sureAddr, Sem.run_bind, Sem.run_pure, Result.andThen_ok, run_storeVar_new w ty c c' hi hs h1]
  exact hK _ _ h
/-- a comparison of two structs, known whole -/
theorem wpList_agg_run {P : Program} {w : World} {ops : Array Oper} {rest : List Oper} {o : Oper} {a : Act} {Q : Exit → Act → World → Prop} (hg : o.guard = none) (bo : BinOp) (t t2 : TypeId) (x y : Operand) (hop : o.op = Op.binOp bo t x y t2)
    (xs ys : Array Value) (hx : a.eval x = .agg xs) (hy : a.eval y = .agg ys) (hgt : P.eqGuardType P.depth t = false) (v : Value) (hrun : (binOp bo t (.agg xs) (.agg ys)).run P w = .ok v w)
    (hK : wpList P ops Q rest (a.put o.dst v) w) : wpList P ops Q (o :: rest) a w := by
  refine wpList_plain hg fun K' hK' => ?_
  have he : (eqGuard bo t x y (.agg xs) (.agg ys)).run P w = .ok () w := by
    unfold eqGuard
    cases bo <;> simp [hgt]
  unfold Oper.wp execOp
  simp only [hop, hx, hy, Sem.run_bind, he, Result.andThen_ok, hrun, Sem.run_pure]
  exact hK' _ _ hK
namespace RowK
variable {P : Program} {α : Type} (k : RowK P α)
/-- x[i:], x[:i] -/
def sfx (a : Option Addr) (cap i : Nat) : Option Addr := if cap = i then a else a.map (·.add (i * k.size))
def pfx (a : Option Addr) (cap : Nat) : Option Addr := if cap = 0 then a else a.map (·.add (0 * k.size))
theorem run_sfx (a : Option Addr) (cap len i : Nat) (h1 : i ≤ len) (w : World) :
    (Instr.sliceAt k.t (.slice a len cap) (some (.int .i64 i)) none none).run P w = .ok (.slice (k.sfx a cap i) (len - i) (cap - i)) w := by
  obtain ⟨i0, hi, hz0, hz1, hz2⟩ := info_parts k.info
  have hz : (i : Int) ≤ (len : Int) := by omega
  have hu := run_underlying k.ht
  unfold sfx
  simp [Instr.sliceAt, go_sem, hu, k.ht, hi, hz, hz1, sizeOf, typeInfo]
theorem run_pfx (a : Option Addr) (cap len i : Nat) (h1 : i ≤ cap) (w : World) :
    (Instr.sliceAt k.t (.slice a len cap) none (some (.int .i64 i)) none).run P w = .ok (.slice (k.pfx a cap) i cap) w := by
  obtain ⟨i0, hi, hz0, hz1, hz2⟩ := info_parts k.info
  have hz : (i : Int) ≤ (cap : Int) := by omega
  have hu := run_underlying k.ht
  unfold pfx
  simp [Instr.sliceAt, go_sem, hu, k.ht, hi, hz, hz1, sizeOf, typeInfo]
theorem wpList_sfx {ops : Array Oper} {rest : List Oper} {o : Oper} {act : Act} {w : World} {Q : Exit → Act → World → Prop} (hgd : o.guard = none) (x i : Operand) (ho : o.op = .slice k.t x (some i) none none)
    (sa : Option Addr) (len cap n : Nat) (hx : act.eval x = .slice sa len cap) (hi : act.eval i = .int .i64 (n : Int)) (h1 : n ≤ len) {a1 : Option Addr} {n1 c1 : Nat} (e1 : k.sfx sa cap n = a1) (e2 : len - n = n1) (e3 : cap - n = c1)
    (hK : wpList P ops Q rest (act.put o.dst (.slice a1 n1 c1)) w) : wpList P ops Q (o :: rest) act w := by
  subst e1 e2 e3
  refine wpList_plain hgd fun K' hK' => ?_
  have hr := k.run_sfx sa cap len n h1 w
  unfold Oper.wp execOp
  simp only [ho, Option.map_some, Option.map_none, hx, hi, Sem.run_bind, Sem.run_pure, hr, Result.andThen_ok]
  exact hK' _ _ hK
theorem wpList_pfx {ops : Array Oper} {rest : List Oper} {o : Oper} {act : Act} {w : World} {Q : Exit → Act → World → Prop} (hgd : o.guard = none) (x i : Operand) (ho : o.op = .slice k.t x none (some i) none)
    (sa : Option Addr) (len cap n : Nat) (hx : act.eval x = .slice sa len cap) (hi : act.eval i = .int .i64 (n : Int)) (h1 : n ≤ cap) {a1 : Option Addr} (e1 : k.pfx sa cap = a1)
    (hK : wpList P ops Q rest (act.put o.dst (.slice a1 n cap)) w) : wpList P ops Q (o :: rest) act w := by
  subst e1
  refine wpList_plain hgd fun K' hK' => ?_
  have hr := k.run_pfx sa cap len n h1 w
  unfold Oper.wp execOp
  simp only [ho, Option.map_some, Option.map_none, hx, hi, Sem.run_bind, Sem.run_pure, hr, Result.andThen_ok]
  exact hK' _ _ hK
variable {k} {w w' : World} {B : Nat} {v : Value} {l : List α}
theorem V.take {a : Option Addr} (h : k.V w a l) (n cap : Nat) : k.V w (k.pfx a cap) (l.take n) := fun hn => by
  obtain ⟨b, off, e, hat⟩ := h (fun e => hn (by rw [e]; simp))
  refine ⟨b, off, ?_, ⟨fun i x hx => hat.cells i x (by
    rw [List.getElem?_take] at hx
    split at hx
    · exact hx
    · cases hx), hat.lt⟩⟩
  unfold pfx
  rw [e]
  split <;> simp [Addr.add]
theorem V.drop {a : Option Addr} (h : k.V w a l) {n cap : Nat} (hc : l.length ≤ cap) : k.V w (k.sfx a cap n) (l.drop n) := fun hn => by
  have hlt : n < l.length := Classical.byContradiction fun hh => hn (List.drop_eq_nil_of_le (by omega))
  obtain ⟨b, off, e, hat⟩ := h (fun e => by rw [e] at hlt; simp at hlt)
  refine ⟨b, off + n * k.size, ?_, ⟨fun i x hx j u hu => ?_, hat.lt⟩⟩
  · unfold sfx
    rw [if_neg (by omega), e]
    simp [Addr.add]
  · rw [List.getElem?_drop] at hx
    have := hat.cells (n + i) x hx j u hu
    rw [Nat.add_mul] at this
    rw [show off + n * k.size + i * k.size = off + (n * k.size + i * k.size) by omega]
    exact this
theorem pfx_none {a : Option Addr} {cap : Nat} (h : a = none → cap = 0) (e : k.pfx a cap = none) : cap = 0 := by
  unfold pfx at e
  split at e
  · assumption
  · cases a with
    | none => exact h rfl
    | some a => cases e
theorem sfx_none {a : Option Addr} {cap n : Nat} (h : a = none → cap = 0) (e : k.sfx a cap n = none) : cap - n = 0 := by
  unfold sfx at e
  split at e
  · omega
  · cases a with
    | none => have := h rfl; omega
    | some a => cases e
theorem Own.noneCap {n cap : Nat} (h : k.Own w B (.slice none n cap) l) : cap = 0 := by
  rcases h.2 with ⟨h1, _⟩ | ⟨g, cp, cur, h1, _⟩
  · injection h1
  · injection h1 with e1; cases e1
theorem Own.cap {n cap : Nat} {a : Option Addr} (h : k.Own w B (.slice a n cap) l) : l.length ≤ cap := by
  rcases h.2 with ⟨h1, h2⟩ | ⟨g, cp, cur, h1, _, _, h4, _⟩
  · injection h1 with e1 e2 e3; omega
  · injection h1 with e1 e2 e3; omega
/-- the cells of one element, as a range -/
theorem At.range {b off : Nat} (h : k.At w b off l) {i : Nat} {x : α} (hx : l[i]? = some x) : w.rangeAt b (off + i * k.size) (k.enc x) := fun j u hu => h.cells i x hx j u hu
/-- one element written -/
theorem Own.upd {g cap n : Nat} (h : k.Own w B (.slice (some ⟨g, 0, none⟩) n cap) l) {i r : Nat} {x x' : α} (hx : l[i]? = some x) (vs : List Value) (hr : r + vs.length ≤ k.size)
    (he : ∀ j, (k.enc x')[j]? = if r ≤ j ∧ j < r + vs.length then vs[j - r]? else (k.enc x)[j]?) :
    k.Own (w.setCells g (i * k.size + r) vs) B (.slice (some ⟨g, 0, none⟩) n cap) (l.set i x') := by
  rcases h.2 with ⟨h1, _⟩ | ⟨g', cp, cur, h1, hB, hg, hn, hm, hs, ht⟩
  · injection h1 with e1; cases e1
  · injection h1 with e1 e2 e3
    injection e1 with e1
    injection e1 with e1
    subst e1 e2 e3
    obtain ⟨c', q1, q2, q3⟩ := blk_setCells vs (i * k.size + r) w cur hg
    obtain ⟨hil, hie⟩ := List.getElem?_eq_some_iff.1 hx
    have hll : (l.set i x').length = l.length := List.length_set
    refine ⟨by rw [k.cells_len, hll], .inr ⟨g, cap, c', by rw [hll], hB, q1, by rw [hll]; exact hn, hm, by rw [q2]; exact hs, ?_⟩⟩
    rw [hll]
    have hcl : (k.cells l).length = l.length * k.size := k.cells_len l
    have hle : l.length * k.size ≤ cur.size := by rw [hs]; exact Nat.mul_le_mul_right _ hn
    apply List.ext_getElem?
    intro j
    by_cases hj : j < l.length * k.size
    · rw [List.getElem?_take_of_lt hj, Array.getElem?_toList, q3 j]
      have hp := k.pos
      have hdi : j / k.size < l.length := Nat.div_lt_of_lt_mul (by rw [Nat.mul_comm]; exact hj)
      have hmo : j % k.size < k.size := Nat.mod_lt _ hp
      have hje : j / k.size * k.size + j % k.size = j := by rw [Nat.mul_comm]; exact Nat.div_add_mod _ _
      have hold : cur[j]? = (k.enc l[j / k.size])[j % k.size]? := by
        have h5 : (cur.toList.take (l.length * k.size))[j]? = (k.cells l)[j]? := by rw [ht]
        rw [List.getElem?_take_of_lt hj, Array.getElem?_toList] at h5
        rw [h5]
        have hu : (k.enc l[j / k.size])[j % k.size]? = some ((k.enc l[j / k.size])[j % k.size]'(by rw [k.len]; exact hmo)) := List.getElem?_eq_getElem _
        have h1 := k.cells_at (l := l) (i := j / k.size) (List.getElem?_eq_getElem hdi) hu
        rw [hje] at h1
        rw [h1, hu]
      have hnew : ∀ y, (l.set i x')[j / k.size]? = some y → (k.cells (l.set i x'))[j]? = (k.enc y)[j % k.size]? := fun y hy => by
        have hu : (k.enc y)[j % k.size]? = some ((k.enc y)[j % k.size]'(by rw [k.len]; exact hmo)) := List.getElem?_eq_getElem _
        have h1 := k.cells_at (l := l.set i x') (i := j / k.size) hy hu
        rw [hje] at h1
        rw [h1, hu]
      by_cases e : j / k.size = i
      · rw [hnew x' (by rw [e, List.getElem?_set_self hil]), he]
        have e2 : (k.enc l[j / k.size])[j % k.size]? = (k.enc x)[j % k.size]? := by
          have : l[j / k.size] = x := by rw [← hie]; simp [e]
          rw [this]
        rw [hold, e2]
        rw [e] at hje
        by_cases h6 : r ≤ j % k.size ∧ j % k.size < r + vs.length
        · rw [if_pos h6, if_pos (by omega), show j - (i * k.size + r) = j % k.size - r by omega]
        · rw [if_neg h6, if_neg (by omega)]
      · rw [hnew l[j / k.size] (by rw [List.getElem?_set_ne (fun h => e h.symm)]; exact List.getElem?_eq_getElem hdi), hold, if_neg]
        intro h6
        have h7 : i * k.size ≤ j ∧ j < (i + 1) * k.size := by rw [Nat.succ_mul]; omega
        have : j / k.size = i := by
          apply Nat.div_eq_of_lt_le
          · exact h7.1
          · exact h7.2
        exact e this
    · rw [List.getElem?_eq_none (by simp; omega), List.getElem?_eq_none (by rw [k.cells_len, hll]; omega)]
end RowK
end Go.Proofs.YtkhkdedjffkhdaaGreat
namespace Go.Proofs.YtkhkdedjffkhdaaGreat
open Go.RowKit Go.Maps
/-- a list, some of it written -/
theorem splice_at {l vs : List Value} {r : Nat} (h : r + vs.length ≤ l.length) (i : Nat) : (l.take r ++ vs ++ l.drop (r + vs.length))[i]? = if r ≤ i ∧ i < r + vs.length then vs[i - r]? else l[i]? := by
  have hr : (l.take r).length = r := by rw [List.length_take]; omega
  by_cases h1 : i < r
  · rw [if_neg (by omega), List.append_assoc, List.getElem?_append_left (by omega), List.getElem?_take, if_pos h1]
  · by_cases h2 : i < r + vs.length
    · rw [if_pos ⟨by omega, h2⟩, List.append_assoc, List.getElem?_append_right (by omega), hr, List.getElem?_append_left (by omega)]
    · rw [if_neg (by omega), List.getElem?_append_right (by rw [List.length_append, hr]; omega), List.length_append, hr, List.getElem?_drop]
      congr 1
      omega
namespace RowK
variable {P : Program} {α : Type} {k : RowK P α} {w w' : World} {B : Nat} {v : Value} {l : List α}
theorem Own.blk {g cap n : Nat} (h : k.Own w B (.slice (some ⟨g, 0, none⟩) n cap) l) : ∃ cur, w.heap[g]? = some (.cells cur k.e (0, 0)) ∧ cur.size = cap * k.size ∧ l.length ≤ cap ∧ B ≤ g ∧ n = l.length := by
  rcases h.2 with ⟨h1, _⟩ | ⟨g', cp, cur, h1, hB, hg, hn, hm, hs, ht⟩
  · injection h1 with e1; cases e1
  · injection h1 with e1 e2 e3
    injection e1 with e1
    injection e1 with e1
    subst e1 e2 e3
    exact ⟨cur, hg, hs, hn, hB, rfl⟩
theorem Own.there {g cap n : Nat} (h : k.Own w B (.slice (some ⟨g, 0, none⟩) n cap) l) {i r m : Nat} (hi : i < l.length) (hr : r + m ≤ k.size) : w.there g (i * k.size + r) m := fun j hj => by
  obtain ⟨cur, hg, hs, hn, _, _⟩ := h.blk
  have h1 : (i + 1) * k.size ≤ cap * k.size := Nat.mul_le_mul_right _ (by omega)
  rw [Nat.succ_mul] at h1
  refine ⟨?_, frozen_of_blk hg _⟩
  rw [cell_of_blk hg, Array.getElem?_eq_getElem (by omega)]
  rfl
end RowK
end Go.Proofs.YtkhkdedjffkhdaaGreat
