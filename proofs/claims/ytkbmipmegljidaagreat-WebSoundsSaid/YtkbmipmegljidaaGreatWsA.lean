/- Raw views of maps: what a map's block holds, as a plain function from keys to values; run laws and laws at the operation. No condition beyond those stated in each lemma. A map as read, opened. Conditions: none. -/
import Derived.Maps.OwnSet
import Derived.Maps.Ext
import Derived.Maps.AppendAt
import Derived.WalkKit
import Derived.Deep.Quiet
import Derived.Deep.QuietTactic
namespace Go.Proofs.YtkbmipmegljidaaGreat
open Go.Maps Go.RowKit

/-- an element read as it is -/
def rawElem (v : Value) : Option (DataW Value × List MemPlace) := some (.held v, [])

/-- block b of w is a map with n entries; at key kl it holds f kl -/
def mapR (w : World) (P : Program) (k : TypeId) (b n : Nat) (f : Lit → Option Value) : Prop :=
  ∃ D : DataW Value, w.ownsMap P k rawElem b n D ∧ Maps.size D = n ∧ ∀ kl, WideAt.IsKeyLit kl → Maps.has D kl = (f kl).isSome ∧ ∀ z, D.atKey kl z = (f kl).elim z .held

theorem ownsMap_tight {w : World} {P : Program} {k : TypeId} {b n : Nat} {D : DataW Value} (h : w.ownsMap P k rawElem b n D) : w.ownsMap P k rawElem b (Maps.size D) D := by
  obtain ⟨es, clock, hb, F, hs, rfl⟩ := h
  exact ⟨es, clock, hb, F, by simp [Maps.size, length_sorted], rfl⟩

variable {P : Program} {k : TypeId} {w : World} {b n : Nat} {f : Lit → Option Value}

theorem mapR_made (w : World) (P : Program) (k : TypeId) : mapR (w.alloc (.map #[] 0)) P k w.heap.size 0 (fun _ => none) :=
  ⟨.map [], World.ownsMap_made w P k rawElem, rfl, fun _ _ => ⟨rfl, fun _ => rfl⟩⟩

theorem mapR.lt (h : mapR w P k b n f) : b < w.heap.size := by
  obtain ⟨D, h, _⟩ := h; exact h.lt

theorem mapR.of_block {w' : World} (h : mapR w P k b n f) (hb : w'.heap[b]? = w.heap[b]?) : mapR w' P k b n f := by
  obtain ⟨D, ⟨es, clock, h1, h2⟩, h3⟩ := h
  exact ⟨D, ⟨es, clock, hb.trans h1, h2⟩, h3⟩

theorem mapR.congr (h : mapR w P k b n f) {g : Lit → Option Value} (hg : ∀ kl, WideAt.IsKeyLit kl → f kl = g kl) : mapR w P k b n g := by
  obtain ⟨D, h1, h2, h3⟩ := h
  exact ⟨D, h1, h2, fun kl hk => by rw [← hg kl hk]; exact h3 kl hk⟩

theorem mapR.look {t e : TypeId} (h : mapR w P k b n f) (K : Keyed P k) (ht : P.underlying t = some (.map k e)) {z : Value} (hz : (zeroValue e).run P w = .ok z w)
    {key : Value} {kl : Lit} (hkey : keyOf P k key = some kl) : (Instr.lookup t (.map (some b)) key false).run P w = .ok ((f kl).getD z) w := by
  obtain ⟨D, h1, h2, h3⟩ := h
  obtain ⟨v, ps, hrun, hv⟩ := h1.lookup K ht hz (show rawElem z = some (.held z, []) from rfl) hkey
  rw [hrun]
  have := (h3 kl (K.key hkey)).2 (.held z)
  simp only [rawElem, Option.some.injEq, Prod.mk.injEq] at hv
  rw [this] at hv
  cases hf : f kl with
  | none => rw [hf] at hv; simp at hv; rw [hv.1]; rfl
  | some u => rw [hf] at hv; simp at hv; rw [hv.1]; rfl

theorem mapR.look_ok {t e : TypeId} (h : mapR w P k b n f) (K : Keyed P k) (ht : P.underlying t = some (.map k e)) {z : Value} (hz : (zeroValue e).run P w = .ok z w)
    {key : Value} {kl : Lit} (hkey : keyOf P k key = some kl) : (Instr.lookup t (.map (some b)) key true).run P w = .ok (.tuple #[(f kl).getD z, .bool (f kl).isSome]) w := by
  obtain ⟨D, h1, h2, h3⟩ := h
  obtain ⟨v, ps, hrun, hv⟩ := h1.look_ok K ht hz (show rawElem z = some (.held z, []) from rfl) hkey
  rw [hrun, (h3 kl (K.key hkey)).1]
  have := (h3 kl (K.key hkey)).2 (.held z)
  simp only [rawElem, Option.some.injEq, Prod.mk.injEq] at hv
  rw [this] at hv
  cases hf : f kl with
  | none => rw [hf] at hv; simp at hv; rw [hv.1]; rfl
  | some u => rw [hf] at hv; simp at hv; rw [hv.1]; rfl

theorem mapR.len {t e : TypeId} (h : mapR w P k b n f) (ht : P.underlying t = some (.map k e)) (ty : TypeId) : (Builtin.len_ #[t] ty #[.map (some b)]).run P w = .ok (.int .i64 n) w := by
  obtain ⟨D, h1, h2, h3⟩ := h
  rw [h1.len ht ty, h2]

open Classical in
/-- a function changed at one key -/
noncomputable def upd (f : Lit → Option Value) (kl : Lit) (o : Option Value) : Lit → Option Value := fun x => if x = kl then o else f x

theorem mapR.store {t e : TypeId} (h : mapR w P k b n f) (K : Keyed P k) (ht : P.underlying t = some (.map k e)) (hn : n < maxLen) {key val : Value} {kl : Lit}
    (hkey : keyOf P k key = some kl) : ∃ w', (Instr.mapUpdate t (.map (some b)) key val).run P w = .ok () w' ∧ mapR w' P k b (if (f kl).isSome then n else n + 1) (upd f kl (some val)) ∧ w.mapTurned w' b := by
  obtain ⟨D, h1, h2, h3⟩ := h
  obtain ⟨w', hrun, h4, h5⟩ := h1.store K ht hn hkey (show rawElem val = some (.held val, []) from rfl)
  have hk := K.key hkey
  have hsz : Maps.size (D.put kl (.held val)) = if (f kl).isSome then n else n + 1 := by
    rw [size_put (h1.tidy K), (h3 kl hk).1, h2]
  refine ⟨w', hrun, ⟨_, hsz ▸ ownsMap_tight h4, hsz, fun x hx => ?_⟩, h5⟩
  by_cases e : x = kl
  · subst e
    exact ⟨by rw [has_put_same h1.isMap hk]; simp [upd], fun z => by rw [atKey_put_same h1.isMap hk]; simp [upd]⟩
  · exact ⟨by rw [has_put_other e, (h3 x hx).1]; simp [upd, e], fun z => by rw [atKey_put_other e, (h3 x hx).2 z]; simp [upd, e]⟩

theorem mapR.drop {t e : TypeId} (h : mapR w P k b n f) (K : Keyed P k) (ht : P.underlying t = some (.map k e)) {key : Value} {kl : Lit}
    (hkey : keyOf P k key = some kl) (ty : TypeId) : ∃ w', (Builtin.delete_ #[t, k] ty #[.map (some b), key]).run P w = .ok (.tuple #[]) w' ∧ ∃ n', n' + (if (f kl).isSome then 1 else 0) = n ∧ mapR w' P k b n' (upd f kl none) ∧ w.mapTurned w' b := by
  obtain ⟨D, h1, h2, h3⟩ := h
  obtain ⟨w', hrun, h4, h5⟩ := h1.drop K ht hkey ty
  have hk := K.key hkey
  have hsz : Maps.size (D.del kl) + (if (f kl).isSome then 1 else 0) = n := by
    have := size_del (k := kl) (h1.tidy K)
    rw [(h3 kl hk).1, h2] at this
    exact this
  refine ⟨w', hrun, _, hsz, ⟨_, ownsMap_tight h4, rfl, fun x hx => ?_⟩, h5⟩
  by_cases e : x = kl
  · subst e
    exact ⟨by rw [has_del_same]; simp [upd], fun z => by rw [atKey_del_same]; simp [upd]⟩
  · exact ⟨by rw [has_del_other e, (h3 x hx).1]; simp [upd, e], fun z => by rw [atKey_del_other e, (h3 x hx).2 z]; simp [upd, e]⟩

/-- behind a map's turn: every cell as it was -/
theorem turned_cell {w w' : World} {b : Nat} (h : w.mapTurned w' b) (a : Addr) : w'.cell? a = w.cell? a := by
  obtain ⟨es, clock, es', clock', hb, rfl⟩ := h
  by_cases e : a.block = b
  · unfold World.cell?
    rw [e, hb, show (ChangeMaps.setBlock w b (.map es' clock')).heap[b]? = _ from ChangeMaps.heap_setBlock_same hb _]
  · exact World.cell?_of_block (ChangeMaps.heap_setBlock_other hb _ e)
theorem turned_block {w w' : World} {b : Nat} (h : w.mapTurned w' b) {i : Nat} (hi : i ≠ b) : w'.heap[i]? = w.heap[i]? := by
  obtain ⟨es, clock, es', clock', hb, rfl⟩ := h
  exact ChangeMaps.heap_setBlock_other hb _ hi
theorem turned_size {w w' : World} {b : Nat} (h : w.mapTurned w' b) : w'.heap.size = w.heap.size := by
  obtain ⟨es, clock, es', clock', hb, rfl⟩ := h
  simp [ChangeMaps.setBlock]

/-- w' is w but for the blocks in S and new ones -/
structure Chg (w w' : World) (S : Nat → Prop) : Prop where
  os : w'.os = w.os
  tape : w'.tape = w.tape
  output : w'.output = w.output
  size : w.heap.size ≤ w'.heap.size
  block : ∀ k, k < w.heap.size → ¬ S k → w'.heap[k]? = w.heap[k]?

theorem Chg.refl (w : World) (S : Nat → Prop) : Chg w w S := ⟨rfl, rfl, rfl, Nat.le_refl _, fun _ _ _ => rfl⟩
theorem Chg.trans {a b c : World} {S T : Nat → Prop} (h : Chg a b S) (k : Chg b c T) (hT : ∀ i, i < a.heap.size → T i → S i) : Chg a c S :=
  ⟨k.os.trans h.os, k.tape.trans h.tape, k.output.trans h.output, Nat.le_trans h.size k.size,
    fun i hi hn => (k.block i (Nat.lt_of_lt_of_le hi h.size) (fun ht => hn (hT i hi ht))).trans (h.block i hi hn)⟩
theorem Chg.mono {a b : World} {S T : Nat → Prop} (h : Chg a b S) (hT : ∀ i, i < a.heap.size → S i → T i) : Chg a b T :=
  ⟨h.os, h.tape, h.output, h.size, fun i hi hn => h.block i hi (fun hs => hn (hT i hi hs))⟩
theorem Chg.alloc {a b : World} {S : Nat → Prop} (h : Chg a b S) (o : Obj) : Chg a (b.alloc o) S :=
  ⟨h.os, h.tape, h.output, Nat.le_trans h.size (by simp), fun i hi hn => (Below.heap_alloc _ _ _ (Nat.lt_of_lt_of_le hi h.size)).trans (h.block i hi hn)⟩
theorem Chg.drew {a b : World} {S : Nat → Prop} (h : Chg a b S) : Chg a b.drew S := ⟨h.os, h.tape, h.output, h.size, h.block⟩
theorem Chg.drewN {a b : World} {S : Nat → Prop} (h : Chg a b S) (n : Nat) : Chg a (b.drewN n) S := ⟨h.os, h.tape, h.output, h.size, h.block⟩
theorem Chg.setCell {a b : World} {S : Nat → Prop} (h : Chg a b S) {p : Addr} (hp : p.block < a.heap.size → S p.block) (u : Value) : Chg a (b.setCell p u) S :=
  ⟨h.os, h.tape, h.output, Nat.le_trans h.size (by simp [World.setCell]), fun i hi hn => (Below.heap_setCell _ _ _ _ (fun e => by subst e; exact hn (hp hi))).trans (h.block i hi hn)⟩
theorem Chg.turned {a b b' : World} {S : Nat → Prop} {m : Nat} (h : Chg a b S) (ht : b.mapTurned b' m) (hp : m < a.heap.size → S m) : Chg a b' S := by
  have hg := ht.grown
  exact ⟨hg.os.trans h.os, hg.tape.trans h.tape, hg.output.trans h.output, Nat.le_trans h.size hg.size, fun i hi hn => (turned_block ht (fun e => by subst e; exact hn (hp hi))).trans (h.block i hi hn)⟩
theorem Chg.grown {a b b' : World} {S : Nat → Prop} {r : Option Nat} (h : Chg a b S) (hg : b.grownBy b' r) (hp : ∀ m, r = some m → m < a.heap.size → S m) : Chg a b' S :=
  ⟨hg.os.trans h.os, hg.tape.trans h.tape, hg.output.trans h.output, Nat.le_trans h.size hg.size, fun i hi hn => (hg.block i (Nat.lt_of_lt_of_le hi h.size) (fun e => hn (hp i e.symm hi))).trans (h.block i hi hn)⟩
theorem Chg.below {a b : World} {S : Nat → Prop} {B : Nat} (h : Chg a b S) (hB : B ≤ a.heap.size) (hS : ∀ i, S i → B ≤ i) : Below B a b :=
  ⟨h.os, h.tape, h.output, h.size, fun k hk => h.block k (Nat.lt_of_lt_of_le hk hB) (fun hs => by have := hS k hs; omega)⟩
theorem Chg.of_below {a b : World} (h : Below a.heap.size a b) (S : Nat → Prop) : Chg a b S :=
  ⟨h.os, h.tape, h.output, h.size, fun k hk _ => h.block k hk⟩

theorem blk_setCell {w : World} {b i : Nat} {c : Array Value} {t : TypeId} {z : Nat × Nat} (h : w.heap[b]? = some (.cells c t z)) (u : Value) : (w.setCell ⟨b, i, none⟩ u).heap[b]? = some (.cells (c.setIfInBounds i u) t z) := by
  have hlt := (Array.getElem?_eq_some_iff.1 h).1
  simp [World.setCell, Array.getElem?_modify, h]
theorem cell_of_blk {w : World} {b : Nat} {c : Array Value} {t : TypeId} {z : Nat × Nat} (h : w.heap[b]? = some (.cells c t z)) (i : Nat) : w.cell? ⟨b, i, none⟩ = c[i]? := by
  simp [World.cell?, h]
theorem frozen_of_blk {w : World} {b : Nat} {c : Array Value} {t : TypeId} (h : w.heap[b]? = some (.cells c t (0, 0))) (i : Nat) : w.frozen? ⟨b, i, none⟩ = false := by
  simp [World.frozen?, h]
theorem ownsRow_of_block {w w' : World} {base : Nat} {e : TypeId} {size : Nat} {v : Value} {n : Nat} {xs : List Value} (h : w.ownsRow base e size v n xs) (hb : ∀ k, v.ownBlock = some k → w'.heap[k]? = w.heap[k]?) : w'.ownsRow base e size v n xs := by
  refine ⟨h.1, ?_⟩
  rcases h.2 with hn | ⟨g, cap, cur, rfl, hg, hh, r⟩
  · exact .inl hn
  · exact .inr ⟨g, cap, cur, rfl, hg, (hb g rfl).trans hh, r⟩
theorem heap_new (w : World) (o : Obj) : (w.alloc o).heap[w.heap.size]? = some o := by
  show (w.heap.push o)[w.heap.size]? = _
  simp
theorem size_alloc (w : World) (o : Obj) : (w.alloc o).heap.size = w.heap.size + 1 := by simp

/-! at the operation -/
section
variable {P : Program} (w : World) {ops : Array Oper} {rest : List Oper} {o : Oper} {a : Act} {Q : Exit → Act → World → Prop}

theorem wpList_store (hg : o.guard = none) (m x v : Operand) (t : TypeId) (hop : o.op = Op.mapUpdate t m x v)
    (k e : TypeId) (K : Keyed P k) (ht : P.underlying t = some (.map k e)) (b n : Nat) (f : Lit → Option Value)
    (hm : a.eval m = .map (some b)) (hown : mapR w P k b n f) (hn : n < maxLen) (key val : Value) (kl : Lit) (hx : a.eval x = key) (hv : a.eval v = val) (hkey : keyOf P k key = some kl)
    (hK : ∀ w', mapR w' P k b (if (f kl).isSome then n else n + 1) (upd f kl (some val)) → w.mapTurned w' b → (∀ p, w'.cell? p = w.cell? p) → (∀ p, w'.frozen? p = w.frozen? p) → w'.heap.size = w.heap.size → wpList P ops Q rest (a.put o.dst undef) w') :
    wpList P ops Q (o :: rest) a w := by
  refine wpList_plain hg fun K' hK' => ?_
  obtain ⟨w', hrun, r1, r2⟩ := hown.store (val := val) K ht hn hkey
  unfold Oper.wp
  simp [execOp, hop, hm, hx, hv, hrun, Result.andThen]
  exact hK' _ _ (hK w' r1 r2 (turned_cell r2) r2.frozen (turned_size r2))

theorem wpList_drop (hg : o.guard = none) (m x : Operand) (t k : TypeId) (hop : o.op = Op.call { callee := Callee.builtin Builtin.delete, args := #[m, x], argTypes := #[t, k] })
    (e : TypeId) (K : Keyed P k) (ht : P.underlying t = some (.map k e)) (b n : Nat) (f : Lit → Option Value)
    (hm : a.eval m = .map (some b)) (hown : mapR w P k b n f) (key : Value) (kl : Lit) (hx : a.eval x = key) (hkey : keyOf P k key = some kl)
    (hK : ∀ w' n', n' + (if (f kl).isSome then 1 else 0) = n → mapR w' P k b n' (upd f kl none) → w.mapTurned w' b → (∀ p, w'.cell? p = w.cell? p) → (∀ p, w'.frozen? p = w.frozen? p) → w'.heap.size = w.heap.size → wpList P ops Q rest (a.put o.dst (.tuple #[])) w') :
    wpList P ops Q (o :: rest) a w := by
  refine wpList_plain hg fun K' hK' => ?_
  obtain ⟨w', hrun, n', r0, r1, r2⟩ := hown.drop K ht hkey o.type
  unfold Oper.wp
  simp [execOp, hop, resolve, invoke, builtin, hm, hx, hrun, Result.andThen]
  exact hK' _ _ (hK w' n' r0 r1 r2 (turned_cell r2) r2.frozen (turned_size r2))
end

end Go.Proofs.YtkbmipmegljidaaGreat
namespace Go.Proofs.YtkbmipmegljidaaGreat
open Go.RowKit Go.Maps

/-- the map as read, opened -/
theorem mapR.open' {w : World} {P : Program} {k : TypeId} {b n : Nat} {f : Lit → Option Value} (h : mapR w P k b n f) : ∃ D : DataW Value, w.ownsMap P k rawElem b n D ∧ Maps.size D = n ∧ (∀ kl, WideAt.IsKeyLit kl → Maps.has D kl = (f kl).isSome) ∧ ∀ kl v, WideAt.IsKeyLit kl → (∀ z, D.atKey kl z = .held v) → f kl = some v := by
  obtain ⟨D, h1, h2, h3⟩ := h
  refine ⟨D, h1, h2, fun kl hk => (h3 kl hk).1, fun kl v hk hz => ?_⟩
  have h4 := (h3 kl hk).2
  cases hf : f kl with
  | none =>
    have e := h4 (.held (.bool true))
    have e2 := h4 (.held (.bool false))
    rw [hz, hf] at e e2
    have e' : DataW.held v = .held (.bool true) := e
    have e2' : DataW.held v = .held (.bool false) := e2
    rw [e'] at e2'
    cases e2'
  | some u =>
    have e := h4 .nil
    rw [hz, hf] at e
    have e' : DataW.held v = .held u := e
    injection e' with e'
    rw [e']
end Go.Proofs.YtkbmipmegljidaaGreat
