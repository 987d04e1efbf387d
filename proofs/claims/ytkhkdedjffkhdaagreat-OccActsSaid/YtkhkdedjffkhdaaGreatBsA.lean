/- Raw views of maps: what a map's block holds, as a plain function from keys to values; run laws and laws at the operation. No condition beyond those stated in each lemma. What an argument that can be read looks like in memory, by its type's shape: numbers, bools, strings, slices, structs. No condition beyond each lemma's premises. Layer 21, common words: whole numbers, reading calls, worlds that have grown. No condition beyond each lemma's premises. Bytes in memory, bytes of the call's own; conversions and appends at the operation. Conditions: each lemma's own premises. -/
import Derived.Maps.OwnSet
import Derived.Maps.Ext
import Derived.Maps.AppendAt
import Derived.WalkKit
import Derived.Deep.Quiet
import Derived.Deep.QuietTactic
import Derived.ChangeArms
import Derived.ChangeOld
import Derived.Deep.Slices
import Derived.DataReads
import Derived.Test.YtkhkdedjffkhdaaGreatProg
import Derived.WalkSpells
import Derived.WalkLawsBesides
import Derived.StillTailTactics
import Derived.Deep.RegionHeld3
import Derived.Deep.RegionLaw
import Derived.BigRegion
import Derived.BigQuiet
import Derived.BigCall
import Derived.Outline
import Derived.Lib.Hide
import Derived.Lib.Bytealg
import Derived.LoopTactic
import Derived.Laws.RangeAny
import Derived.Laws.Concat
import Derived.Laws.BitsAllLaws
import Derived.Lib.AppendStr
import Derived.Deep.AppendSrc
namespace Go.Proofs.YtkhkdedjffkhdaaGreat
open Go.Maps Go.RowKit

/-- an element read as it is -/
def rawElem (v : Value) : Option (DataW Value × List MemPlace) := some (.held v, [])

/-- block b of w is a map with n entries; at key kl it holds f kl -/
def mapR (w : World) (P : Program) (k : TypeId) (b n : Nat) (f : Lit → Option Value) : Prop :=
  ∃ D : DataW Value, w.ownsMap P k rawElem b n D ∧ Maps.size D = n ∧ ∀ kl, WideAt.IsKeyLit kl → Maps.has D kl = (f kl).isSome ∧ ∀ z, D.atKey kl z = (f kl).elim z .held

theorem ownsMap_tight {w : World} {P : Program} {k : TypeId} {b n : Nat} {D : DataW Value} (h : w.ownsMap P k rawElem b n D) : w.ownsMap P k rawElem b (Maps.size D) D := by
  obtain ⟨es, clock, hb, F, hs, rfl⟩ := h
  exact ⟨es, clock, hb, F, by simp [Maps.size, length_sorted], rfl⟩

variable {P : Program} {k : TypeId} {w : World} {b n : Nat} {f : Lit → Option Value}

theorem mapR_made (w : World) (P : Program) (k : TypeId) : mapR (w.alloc (.map #[] 0)) P k w.heap.size 0 (fun _ => none) :=
  ⟨.map [], World.ownsMap_made w P k rawElem, rfl, fun _ _ => ⟨rfl, fun _ => rfl⟩⟩

theorem mapR.lt (h : mapR w P k b n f) : b < w.heap.size := by
  obtain ⟨D, h, _⟩ := h; exact h.lt

theorem mapR.of_block {w' : World} (h : mapR w P k b n f) (hb : w'.heap[b]? = w.heap[b]?) : mapR w' P k b n f := by
  obtain ⟨D, ⟨es, clock, h1, h2⟩, h3⟩ := h
  exact ⟨D, ⟨es, clock, hb.trans h1, h2⟩, h3⟩

theorem mapR.look {t e : TypeId} (h : mapR w P k b n f) (K : Keyed P k) (ht : P.underlying t = some (.map k e)) {z : Value} (hz : (zeroValue e).run P w = .ok z w)
    {key : Value} {kl : Lit} (hkey : keyOf P k key = some kl) : (Instr.lookup t (.map (some b)) key false).run P w = .ok ((f kl).getD z) w := by
  obtain ⟨D, h1, h2, h3⟩ := h
  obtain ⟨v, ps, hrun, hv⟩ := h1.lookup K ht hz (show rawElem z = some (.held z, []) from rfl) hkey
  rw [hrun]
  have := (h3 kl (K.key hkey)).2 (.held z)
  simp only [rawElem, Option.some.injEq, Prod.mk.injEq] at hv
  rw [this] at hv
  cases hf : f kl with
  | none => rw [hf] at hv; simp at hv; rw [hv.1]; rfl
  | some u => rw [hf] at hv; simp at hv; rw [hv.1]; rfl

theorem mapR.look_ok {t e : TypeId} (h : mapR w P k b n f) (K : Keyed P k) (ht : P.underlying t = some (.map k e)) {z : Value} (hz : (zeroValue e).run P w = .ok z w)
    {key : Value} {kl : Lit} (hkey : keyOf P k key = some kl) : (Instr.lookup t (.map (some b)) key true).run P w = .ok (.tuple #[(f kl).getD z, .bool (f kl).isSome]) w := by
  obtain ⟨D, h1, h2, h3⟩ := h
  obtain ⟨v, ps, hrun, hv⟩ := h1.look_ok K ht hz (show rawElem z = some (.held z, []) from rfl) hkey
  rw [hrun, (h3 kl (K.key hkey)).1]
  have := (h3 kl (K.key hkey)).2 (.held z)
  simp only [rawElem, Option.some.injEq, Prod.mk.injEq] at hv
  rw [this] at hv
  cases hf : f kl with
  | none => rw [hf] at hv; simp at hv; rw [hv.1]; rfl
  | some u => rw [hf] at hv; simp at hv; rw [hv.1]; rfl

theorem mapR.len {t e : TypeId} (h : mapR w P k b n f) (ht : P.underlying t = some (.map k e)) (ty : TypeId) : (Builtin.len_ #[t] ty #[.map (some b)]).run P w = .ok (.int .i64 n) w := by
  obtain ⟨D, h1, h2, h3⟩ := h
  rw [h1.len ht ty, h2]

open Classical in
/-- a function changed at one key -/
noncomputable def upd (f : Lit → Option Value) (kl : Lit) (o : Option Value) : Lit → Option Value := fun x => if x = kl then o else f x

theorem mapR.store {t e : TypeId} (h : mapR w P k b n f) (K : Keyed P k) (ht : P.underlying t = some (.map k e)) (hn : n < maxLen) {key val : Value} {kl : Lit}
    (hkey : keyOf P k key = some kl) : ∃ w', (Instr.mapUpdate t (.map (some b)) key val).run P w = .ok () w' ∧ mapR w' P k b (if (f kl).isSome then n else n + 1) (upd f kl (some val)) ∧ w.mapTurned w' b := by
  obtain ⟨D, h1, h2, h3⟩ := h
  obtain ⟨w', hrun, h4, h5⟩ := h1.store K ht hn hkey (show rawElem val = some (.held val, []) from rfl)
  have hk := K.key hkey
  have hsz : Maps.size (D.put kl (.held val)) = if (f kl).isSome then n else n + 1 := by
    rw [size_put (h1.tidy K), (h3 kl hk).1, h2]
  refine ⟨w', hrun, ⟨_, hsz ▸ ownsMap_tight h4, hsz, fun x hx => ?_⟩, h5⟩
  by_cases e : x = kl
  · subst e
    exact ⟨by rw [has_put_same h1.isMap hk]; simp [upd], fun z => by rw [atKey_put_same h1.isMap hk]; simp [upd]⟩
  · exact ⟨by rw [has_put_other e, (h3 x hx).1]; simp [upd, e], fun z => by rw [atKey_put_other e, (h3 x hx).2 z]; simp [upd, e]⟩

theorem mapR.drop {t e : TypeId} (h : mapR w P k b n f) (K : Keyed P k) (ht : P.underlying t = some (.map k e)) {key : Value} {kl : Lit}
    (hkey : keyOf P k key = some kl) (ty : TypeId) : ∃ w', (Builtin.delete_ #[t, k] ty #[.map (some b), key]).run P w = .ok (.tuple #[]) w' ∧ ∃ n', n' + (if (f kl).isSome then 1 else 0) = n ∧ mapR w' P k b n' (upd f kl none) ∧ w.mapTurned w' b := by
  obtain ⟨D, h1, h2, h3⟩ := h
  obtain ⟨w', hrun, h4, h5⟩ := h1.drop K ht hkey ty
  have hk := K.key hkey
  have hsz : Maps.size (D.del kl) + (if (f kl).isSome then 1 else 0) = n := by
    have := size_del (k := kl) (h1.tidy K)
    rw [(h3 kl hk).1, h2] at this
    exact this
  refine ⟨w', hrun, _, hsz, ⟨_, ownsMap_tight h4, rfl, fun x hx => ?_⟩, h5⟩
  by_cases e : x = kl
  · subst e
    exact ⟨by rw [has_del_same]; simp [upd], fun z => by rw [atKey_del_same]; simp [upd]⟩
  · exact ⟨by rw [has_del_other e, (h3 x hx).1]; simp [upd, e], fun z => by rw [atKey_del_other e, (h3 x hx).2 z]; simp [upd, e]⟩

/-- behind a map's turn: every cell as it was -/
theorem turned_cell {w w' : World} {b : Nat} (h : w.mapTurned w' b) (a : Addr) : w'.cell? a = w.cell? a := by
  obtain ⟨es, clock, es', clock', hb, rfl⟩ := h
  by_cases e : a.block = b
  · unfold World.cell?
    rw [e, hb, show (ChangeMaps.setBlock w b (.map es' clock')).heap[b]? = _ from ChangeMaps.heap_setBlock_same hb _]
  · exact World.cell?_of_block (ChangeMaps.heap_setBlock_other hb _ e)
theorem turned_block {w w' : World} {b : Nat} (h : w.mapTurned w' b) {i : Nat} (hi : i ≠ b) : w'.heap[i]? = w.heap[i]? := by
  obtain ⟨es, clock, es', clock', hb, rfl⟩ := h
  exact ChangeMaps.heap_setBlock_other hb _ hi
theorem turned_size {w w' : World} {b : Nat} (h : w.mapTurned w' b) : w'.heap.size = w.heap.size := by
  obtain ⟨es, clock, es', clock', hb, rfl⟩ := h
  simp [ChangeMaps.setBlock]

/-- w' is w but for the blocks in S and new ones -/
structure Chg (w w' : World) (S : Nat → Prop) : Prop where
  os : w'.os = w.os
  tape : w'.tape = w.tape
  output : w'.output = w.output
  size : w.heap.size ≤ w'.heap.size
  block : ∀ k, k < w.heap.size → ¬ S k → w'.heap[k]? = w.heap[k]?

theorem Chg.refl (w : World) (S : Nat → Prop) : Chg w w S := ⟨rfl, rfl, rfl, Nat.le_refl _, fun _ _ _ => rfl⟩
theorem Chg.trans {a b c : World} {S T : Nat → Prop} (h : Chg a b S) (k : Chg b c T) (hT : ∀ i, i < a.heap.size → T i → S i) : Chg a c S :=
  ⟨k.os.trans h.os, k.tape.trans h.tape, k.output.trans h.output, Nat.le_trans h.size k.size,
    fun i hi hn => (k.block i (Nat.lt_of_lt_of_le hi h.size) (fun ht => hn (hT i hi ht))).trans (h.block i hi hn)⟩
theorem Chg.mono {a b : World} {S T : Nat → Prop} (h : Chg a b S) (hT : ∀ i, i < a.heap.size → S i → T i) : Chg a b T :=
  ⟨h.os, h.tape, h.output, h.size, fun i hi hn => h.block i hi (fun hs => hn (hT i hi hs))⟩
theorem Chg.alloc {a b : World} {S : Nat → Prop} (h : Chg a b S) (o : Obj) : Chg a (b.alloc o) S :=
  ⟨h.os, h.tape, h.output, Nat.le_trans h.size (by simp), fun i hi hn => (Below.heap_alloc _ _ _ (Nat.lt_of_lt_of_le hi h.size)).trans (h.block i hi hn)⟩
theorem Chg.drew {a b : World} {S : Nat → Prop} (h : Chg a b S) : Chg a b.drew S := ⟨h.os, h.tape, h.output, h.size, h.block⟩
theorem Chg.drewN {a b : World} {S : Nat → Prop} (h : Chg a b S) (n : Nat) : Chg a (b.drewN n) S := ⟨h.os, h.tape, h.output, h.size, h.block⟩
theorem Chg.setCell {a b : World} {S : Nat → Prop} (h : Chg a b S) {p : Addr} (hp : p.block < a.heap.size → S p.block) (u : Value) : Chg a (b.setCell p u) S :=
  ⟨h.os, h.tape, h.output, Nat.le_trans h.size (by simp [World.setCell]), fun i hi hn => (Below.heap_setCell _ _ _ _ (fun e => by subst e; exact hn (hp hi))).trans (h.block i hi hn)⟩
theorem Chg.turned {a b b' : World} {S : Nat → Prop} {m : Nat} (h : Chg a b S) (ht : b.mapTurned b' m) (hp : m < a.heap.size → S m) : Chg a b' S := by
  have hg := ht.grown
  exact ⟨hg.os.trans h.os, hg.tape.trans h.tape, hg.output.trans h.output, Nat.le_trans h.size hg.size, fun i hi hn => (turned_block ht (fun e => by subst e; exact hn (hp hi))).trans (h.block i hi hn)⟩
theorem Chg.grown {a b b' : World} {S : Nat → Prop} {r : Option Nat} (h : Chg a b S) (hg : b.grownBy b' r) (hp : ∀ m, r = some m → m < a.heap.size → S m) : Chg a b' S :=
  ⟨hg.os.trans h.os, hg.tape.trans h.tape, hg.output.trans h.output, Nat.le_trans h.size hg.size, fun i hi hn => (hg.block i (Nat.lt_of_lt_of_le hi h.size) (fun e => hn (hp i e.symm hi))).trans (h.block i hi hn)⟩
theorem Chg.below {a b : World} {S : Nat → Prop} {B : Nat} (h : Chg a b S) (hB : B ≤ a.heap.size) (hS : ∀ i, S i → B ≤ i) : Below B a b :=
  ⟨h.os, h.tape, h.output, h.size, fun k hk => h.block k (Nat.lt_of_lt_of_le hk hB) (fun hs => by have := hS k hs; omega)⟩
theorem Chg.of_below {a b : World} (h : Below a.heap.size a b) (S : Nat → Prop) : Chg a b S :=
  ⟨h.os, h.tape, h.output, h.size, fun k hk _ => h.block k hk⟩

theorem blk_setCell {w : World} {b i : Nat} {c : Array Value} {t : TypeId} {z : Nat × Nat} (h : w.heap[b]? = some (.cells c t z)) (u : Value) : (w.setCell ⟨b, i, none⟩ u).heap[b]? = some (.cells (c.setIfInBounds i u) t z) := by
  have hlt := (Array.getElem?_eq_some_iff.1 h).1
  simp [World.setCell, Array.getElem?_modify, h]
theorem cell_of_blk {w : World} {b : Nat} {c : Array Value} {t : TypeId} {z : Nat × Nat} (h : w.heap[b]? = some (.cells c t z)) (i : Nat) : w.cell? ⟨b, i, none⟩ = c[i]? := by
  simp [World.cell?, h]
theorem frozen_of_blk {w : World} {b : Nat} {c : Array Value} {t : TypeId} (h : w.heap[b]? = some (.cells c t (0, 0))) (i : Nat) : w.frozen? ⟨b, i, none⟩ = false := by
  simp [World.frozen?, h]
theorem ownsRow_of_block {w w' : World} {base : Nat} {e : TypeId} {size : Nat} {v : Value} {n : Nat} {xs : List Value} (h : w.ownsRow base e size v n xs) (hb : ∀ k, v.ownBlock = some k → w'.heap[k]? = w.heap[k]?) : w'.ownsRow base e size v n xs := by
  refine ⟨h.1, ?_⟩
  rcases h.2 with hn | ⟨g, cap, cur, rfl, hg, hh, r⟩
  · exact .inl hn
  · exact .inr ⟨g, cap, cur, rfl, hg, (hb g rfl).trans hh, r⟩
theorem heap_new (w : World) (o : Obj) : (w.alloc o).heap[w.heap.size]? = some o := by
  show (w.heap.push o)[w.heap.size]? = _
  simp
theorem size_setCell (w : World) (a : Addr) (u : Value) : (w.setCell a u).heap.size = w.heap.size := by simp [World.setCell]
theorem size_alloc (w : World) (o : Obj) : (w.alloc o).heap.size = w.heap.size + 1 := by simp

/-! at the operation -/
section
variable {P : Program} (w : World) {ops : Array Oper} {rest : List Oper} {o : Oper} {a : Act} {Q : Exit → Act → World → Prop}

theorem wpList_store (hg : o.guard = none) (m x v : Operand) (t : TypeId) (hop : o.op = Op.mapUpdate t m x v)
    (k e : TypeId) (K : Keyed P k) (ht : P.underlying t = some (.map k e)) (b n : Nat) (f : Lit → Option Value)
    (hm : a.eval m = .map (some b)) (hown : mapR w P k b n f) (hn : n < maxLen) (key val : Value) (kl : Lit) (hx : a.eval x = key) (hv : a.eval v = val) (hkey : keyOf P k key = some kl)
    (hK : ∀ w', mapR w' P k b (if (f kl).isSome then n else n + 1) (upd f kl (some val)) → w.mapTurned w' b → (∀ p, w'.cell? p = w.cell? p) → (∀ p, w'.frozen? p = w.frozen? p) → w'.heap.size = w.heap.size → wpList P ops Q rest (a.put o.dst undef) w') :
    wpList P ops Q (o :: rest) a w := by
  refine wpList_plain hg fun K' hK' => ?_
  obtain ⟨w', hrun, r1, r2⟩ := hown.store (val := val) K ht hn hkey
  unfold Oper.wp
  simp [execOp, hop, hm, hx, hv, hrun, Result.andThen]
  exact hK' _ _ (hK w' r1 r2 (turned_cell r2) r2.frozen (turned_size r2))

theorem wpList_drop (hg : o.guard = none) (m x : Operand) (t k : TypeId) (hop : o.op = Op.call { callee := Callee.builtin Builtin.delete, args := #[m, x], argTypes := #[t, k] })
    (e : TypeId) (K : Keyed P k) (ht : P.underlying t = some (.map k e)) (b n : Nat) (f : Lit → Option Value)
    (hm : a.eval m = .map (some b)) (hown : mapR w P k b n f) (key : Value) (kl : Lit) (hx : a.eval x = key) (hkey : keyOf P k key = some kl)
    (hK : ∀ w' n', n' + (if (f kl).isSome then 1 else 0) = n → mapR w' P k b n' (upd f kl none) → w.mapTurned w' b → (∀ p, w'.cell? p = w.cell? p) → (∀ p, w'.frozen? p = w.frozen? p) → w'.heap.size = w.heap.size → wpList P ops Q rest (a.put o.dst (.tuple #[])) w') :
    wpList P ops Q (o :: rest) a w := by
  refine wpList_plain hg fun K' hK' => ?_
  obtain ⟨w', hrun, n', r0, r1, r2⟩ := hown.drop K ht hkey o.type
  unfold Oper.wp
  simp [execOp, hop, resolve, invoke, builtin, hm, hx, hrun, Result.andThen]
  exact hK' _ _ (hK w' n' r0 r1 r2 (turned_cell r2) r2.frozen (turned_size r2))
end

end Go.Proofs.YtkhkdedjffkhdaaGreat
namespace Go.Proofs.YtkhkdedjffkhdaaGreat
open Go.RowKit Go.Maps Go.Deep

/-- the cells cs can be read as a value of type t in the world w -/
def Mem (P : Program) (w : World) (t : TypeId) (cs : List Value) : Prop :=
  ∃ (H : Type) (enc : TypeId × Value → H) (fuel : Nat) (x : DataW H × List MemPlace), DataW.trod enc P w 0 (fun _ => true) true fuel t cs = some x

theorem add_none (g o j : Nat) : (⟨g, o, none⟩ : Addr).add j = ⟨g, o + j, none⟩ := by unfold Addr.add; split <;> simp_all

section
variable {P : Program} {w : World} {t : TypeId} {cs : List Value}

theorem Mem.int {k : IntKind} (ht : P.underlying t = some (.int k)) (h : Mem P w t cs) : ∃ n, cs = [.int k n] ∧ (Lit.int k n).wf = true := by
  obtain ⟨H, enc, fuel, x, h⟩ := h
  obtain ⟨n, h1, _, h2⟩ := DataW.trod_int ht h
  exact ⟨n, h1, h2⟩
theorem Mem.bool (ht : P.underlying t = some .bool) (h : Mem P w t cs) : ∃ b, cs = [.bool b] := by
  obtain ⟨H, enc, fuel, x, h⟩ := h
  obtain ⟨n, h1, _⟩ := DataW.trod_bool ht h
  exact ⟨n, h1⟩
theorem Mem.string (ht : P.underlying t = some .string) (h : Mem P w t cs) : ∃ s : ByteArray, cs = [.string s] ∧ s.size ≤ maxLen := by
  obtain ⟨H, enc, fuel, x, h⟩ := h
  obtain ⟨n, h1, _, h2⟩ := DataW.trod_string ht h
  exact ⟨n, h1, h2⟩
theorem Mem.struct {fs : Array Field} (ht : P.underlying t = some (.struct fs)) (h : Mem P w t cs) : cs.length = P.cellsOf t ∧ ∀ (i : Nat) (f : Field), fs[i]? = some f → Mem P w f.type ((cs.drop f.offset).take (P.cellsOf f.type)) := by
  obtain ⟨H, enc, fuel, x, h⟩ := h
  obtain ⟨xs, n, _, _, h1, h2, h3⟩ := DataW.trod_struct ht h
  refine ⟨h1, fun i f hf => ?_⟩
  have hi : i < xs.length := by rw [h2]; exact (Array.getElem?_eq_some_iff.1 hf).1
  exact ⟨H, enc, n, xs[i], by rw [h3 i f hf, List.getElem?_eq_getElem hi]⟩
/-- a slice: nil, or elements one behind the other, each of which can be read -/
theorem Mem.slice {e : TypeId} (ht : P.underlying t = some (.slice e)) (he : 0 < P.cellsOf e) (h : Mem P w t cs) :
    ∃ a len cap, cs = [.slice a len cap] ∧ len ≤ cap ∧ cap ≤ maxLen ∧ (0 < len → ∃ b off, a = some ⟨b, off, none⟩ ∧ b < w.heap.size ∧
      ∀ i, i < len → ∃ es : List Value, es.length = P.cellsOf e ∧ (∀ j, j < P.cellsOf e → w.cell? ⟨b, off + i * P.cellsOf e + j, none⟩ = es[j]?) ∧ Mem P w e es) := by
  obtain ⟨H, enc, fuel, x, h⟩ := h
  rcases open_slice ht h with ⟨h1, _⟩ | ⟨a, len, cap, m, n, D, Pl, h1, _, h2, h3, h4, _, h5⟩
  · exact ⟨none, 0, 0, h1, Nat.le_refl _, Nat.zero_le _, fun h => absurd h (Nat.lt_irrefl _)⟩
  · refine ⟨some a, len, cap, h1, h2, h3, fun hl => ?_⟩
    have hm : len ≤ m := by rw [h4]; split <;> omega
    obtain ⟨es0, he0, _⟩ := h5 0 (by omega)
    obtain ⟨_, _, c0⟩ := World.cells?_some he0
    have hc0 := c0 0 he
    obtain ⟨b, off, spot⟩ := a
    obtain ⟨_, hl0, _⟩ := World.cells?_some he0
    rw [List.getElem?_eq_getElem (by omega)] at hc0
    have hspot : spot = none := by simpa [Addr.add] using World.cell?_spot hc0
    subst hspot
    refine ⟨b, off, rfl, ?_, fun i hi => ?_⟩
    · have := World.block_lt_of_cell? w _ hc0
      simpa [Addr.add] using this
    · obtain ⟨es, hes, htr⟩ := h5 i (by omega)
      obtain ⟨_, hlen, hcell⟩ := World.cells?_some hes
      refine ⟨es, hlen, fun j hj => ?_, ⟨H, enc, n, _, htr⟩⟩
      have := hcell j hj
      rw [add_none, add_none] at this
      exact this
end
end Go.Proofs.YtkhkdedjffkhdaaGreat
namespace Go.Proofs.YtkhkdedjffkhdaaGreat
open Go.RowKit Go.Maps

/-- a 64 bit int -/
def I64 (x : Int) : Prop := -9223372036854775808 ≤ x ∧ x ≤ 9223372036854775807
theorem I64.wf {x : Int} (h : I64 x) : (Lit.int .i64 x).wf = true := WalkArith.wf_i64 h
theorem I64.of_wf {x : Int} (h : (Lit.int .i64 x).wf = true) : I64 x := by
  simp [Lit.wf] at h
  exact ⟨h.1, h.2⟩
theorem ret_int {k : IntKind} {a b : Int} (h : a = b) : Ending.returned (.int k a) = .returned (.int k b) := by rw [h]
/-- a call that only reads -/
def Quiet (P : Program) (f : FuncId) (args : Array Value) (w : World) (v : Value) : Prop := Calls P f args w fun e w' => e = .returned v ∧ ∃ m, w' = w.drewN m
theorem quiet_same {P : Program} {f : FuncId} {args : Array Value} {w : World} {v : Value} (h : Calls P f args w fun e w' => e = .returned v ∧ w = w') : Quiet P f args w v :=
  h.mono fun _ _ ⟨h1, h2⟩ => ⟨h1, 0, h2.symm⟩
theorem quiet_at {P : Program} {f : FuncId} {args : Array Value} {w : World} {n : Nat} {v : Value} (h : Quiet P f args (w.drewN n) v) : Calls P f args (w.drewN n) fun e w'' => e = .returned v ∧ ∃ m, w'' = w.drewN m :=
  h.mono fun _ _ ⟨he, m, hm⟩ => ⟨he, n + m, by rw [hm, World.drewN_drewN]⟩
theorem quiet_at2 {P : Program} {f : FuncId} {args : Array Value} {w : World} {a n : Nat} {v : Value} (h : Quiet P f args (w.drewN (a + n)) v) : Calls P f args (w.drewN (a + n)) fun e w'' => e = .returned v ∧ ∃ m, w'' = w.drewN (a + m) :=
  h.mono fun _ _ ⟨he, m, hm⟩ => ⟨he, n + m, by rw [hm, World.drewN_drewN, Nat.add_assoc]⟩
theorem quiet_same' {P : Program} {f : FuncId} {args : Array Value} {w : World} {v : Value} (h : Calls P f args w fun e w' => e = .returned v ∧ w' = w) : Quiet P f args w v :=
  h.mono fun _ _ ⟨h1, h2⟩ => ⟨h1, 0, h2⟩
theorem quiet_at3 {P : Program} {f : FuncId} {args : Array Value} {w : World} {a n : Nat} {v : Value} (h : Quiet P f args ((w.drewN a).drewN n) v) : Calls P f args ((w.drewN a).drewN n) fun e w'' => e = .returned v ∧ ∃ m, w'' = (w.drewN a).drewN m :=
  h.mono fun _ _ ⟨he, m, hm⟩ => ⟨he, n + m, by rw [hm]; simp [World.drewN_drewN, Nat.add_assoc]⟩
theorem drewN_ex2 (w : World) (a b : Nat) : ∃ m, (w.drewN a).drewN b = w.drewN m := ⟨a + b, by rw [World.drewN_drewN]⟩
theorem drewN_ex3 (w : World) (a b c : Nat) : ∃ m, ((w.drewN a).drewN b).drewN c = w.drewN m := ⟨a + b + c, by simp [World.drewN_drewN, Nat.add_assoc]⟩
theorem below_then {a b c : World} (h : Below a.heap.size a b) (k : Below b.heap.size b c) : Below a.heap.size a c := h.trans (k.mono h.size)
theorem below_cell {a b : World} (h : Below a.heap.size a b) {n : Nat} (i : Nat) (hn : n < a.heap.size) {v : Value} (hc : a.cell? ⟨n, i, none⟩ = some v) : b.cell? ⟨n, i, none⟩ = some v := (h.cell (p := ⟨n, i, none⟩) hn).trans hc
theorem below_drewN' {B : Nat} {a b : World} (h : Below B a b) (n : Nat) : Below B a (b.drewN n) := ⟨h.os, h.tape, h.output, h.size, h.block⟩
theorem below_box (w : World) (X : Obj) : Below w.heap.size w (w.alloc X) := (Below.refl _ _).alloc (Nat.le_refl _) _
end Go.Proofs.YtkhkdedjffkhdaaGreat
namespace Go.Proofs.YtkhkdedjffkhdaaGreat
open Go.RowKit Go.Maps

/-- a byte as a value -/
def bv (b : UInt8) : Value := .int .u8 (b.toNat : Int)
/-- bytes in memory -/
structure BsAt (w : World) (b off : Nat) (l : List UInt8) : Prop where
  cells : ∀ (i : Nat) (x : UInt8), l[i]? = some x → w.cell? ⟨b, off + i, none⟩ = some (bv x)
  lt : b < w.heap.size
theorem BsAt.of_block {w w' : World} {b off : Nat} {l : List UInt8} (h : BsAt w b off l) (hb : w'.heap[b]? = w.heap[b]?) : BsAt w' b off l :=
  ⟨fun i x hx => (World.cell?_of_block (a := ⟨b, off + i, none⟩) hb).trans (h.cells i x hx), (Array.getElem?_eq_some_iff.1 (hb.trans (Array.getElem?_eq_getElem h.lt))).1⟩
/-- a slice value that owns bytes, in a block from B on -/
def BsO (w : World) (B : Nat) (v : Value) (l : List UInt8) : Prop := w.ownsRow B 5 1 v l.length (l.map bv)
theorem BsO.below {w w' : World} {B : Nat} {v : Value} {l : List UInt8} (h : BsO w B v l) (hb : Below w.heap.size w w') : BsO w' B v l :=
  ownsRow_of_block h (fun k hk => hb.block k (h.lt k hk).2)
theorem BsO.alloc {w : World} {B : Nat} {v : Value} {l : List UInt8} (h : BsO w B v l) (X : Obj) : BsO (w.alloc X) B v l := h.below (below_box w X)
theorem BsO.drew {w : World} {B : Nat} {v : Value} {l : List UInt8} (h : BsO w B v l) : BsO w.drew B v l := ownsRow_of_block h (fun _ _ => rfl)
theorem BsO.mono {w : World} {B B' : Nat} {v : Value} {l : List UInt8} (h : BsO w B v l) (hB : B' ≤ B) : BsO w B' v l := by
  refine ⟨h.1, ?_⟩
  rcases h.2 with h' | ⟨g, cap, cur, h1, h2, r⟩
  · exact .inl h'
  · exact .inr ⟨g, cap, cur, h1, by omega, r⟩
/-- a block that was just laid -/
theorem BsO.new {w : World} {b B : Nat} {cs : Array Value} {l : List UInt8} (hb : w.heap[b]? = some (.cells cs 5 (0, 0))) (hB : B ≤ b) (hc : cs.toList = l.map bv) (hl : l.length ≤ maxLen) : BsO w B (.slice (some ⟨b, 0, none⟩) l.length l.length) l := by
  refine ⟨by simp, .inr ⟨b, l.length, cs, rfl, hB, hb, Nat.le_refl _, hl, ?_, ?_⟩⟩
  · have := congrArg List.length hc; simpa using this
  · rw [hc]; exact List.take_of_length_le (by simp)
theorem BsO.at' {w : World} {B : Nat} {v : Value} {l : List UInt8} (h : BsO w B v l) (hl : l ≠ []) : ∃ b cap, v = .slice (some ⟨b, 0, none⟩) l.length cap ∧ B ≤ b ∧ BsAt w b 0 l := by
  rcases h.2 with ⟨_, h'⟩ | ⟨g, cap, cur, h1, h2, h3, h4, h5, h6, h7⟩
  · exact absurd (List.eq_nil_of_length_eq_zero h') hl
  · refine ⟨g, cap, h1, h2, ⟨fun i x hx => ?_, (Array.getElem?_eq_some_iff.1 h3).1⟩⟩
    have := h.cells (g := g) (by rw [h1]; rfl) i (bv x) (by simp [hx])
    rw [add_none] at this
    exact this
theorem BsAt.drop {w : World} {b off : Nat} {l : List UInt8} (h : BsAt w b off l) (k : Nat) : BsAt w b (off + k) (l.drop k) :=
  ⟨fun i x hx => by rw [List.getElem?_drop] at hx; have := h.cells _ x hx; rw [← Nat.add_assoc] at this; exact this, h.lt⟩
theorem BsAt.below {w w' : World} {b off : Nat} {l : List UInt8} (h : BsAt w b off l) (hb : Below w.heap.size w w') : BsAt w' b off l := h.of_block (hb.block b h.lt)
theorem BsO.nil (w : World) (B : Nat) : BsO w B (.slice none 0 0) [] := ⟨rfl, .inl ⟨rfl, rfl⟩⟩
theorem BsO.shape {w : World} {B : Nat} {v : Value} {l : List UInt8} (h : BsO w B v l) : ∃ a cap, v = .slice a l.length cap := by
  rcases h.2 with ⟨rfl, hl⟩ | ⟨g, cap, cur, rfl, _⟩
  · exact ⟨none, 0, by rw [hl]⟩
  · exact ⟨_, _, rfl⟩
end Go.Proofs.YtkhkdedjffkhdaaGreat
