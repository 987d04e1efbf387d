/- Rows of structs: slices of them, an element written, an element in a new block. Conditions: each law's own premises. Rows of structs: where an element's cells lie. Conditions: each law's own premises. Rows of structs: clear of what stands from a place on; the first place at which something is so. Conditions: each law's own premises. -/
import Derived.Test.YtkbmipmegljidaaGreatRow
import Derived.Deep.WholeRow
import Derived.Deep.MidRow
namespace Go.Proofs.YtkbmipmegljidaaGreat
open Go.RowKit Go.Maps

/-- a block's cells, some of them written -/
theorem blk_setCells {b : Nat} {t : TypeId} {z : Nat × Nat} : ∀ (vs : List Value) (o : Nat) (w : World) (c : Array Value), w.heap[b]? = some (.cells c t z) → ∃ c', (w.setCells b o vs).heap[b]? = some (.cells c' t z) ∧ c'.size = c.size ∧ ∀ j, c'[j]? = if o ≤ j ∧ j < o + vs.length ∧ j < c.size then vs[j - o]? else c[j]?
  | [], o, w, c, h => ⟨c, h, rfl, fun j => by rw [if_neg (by simp; omega)]⟩
  | v :: vs, o, w, c, h => by
    obtain ⟨c', h1, h2, h3⟩ := blk_setCells vs (o + 1) (w.setCell ⟨b, o, none⟩ v) _ (blk_setCell h v)
    refine ⟨c', h1, by rw [h2]; simp, fun j => ?_⟩
    rw [h3 j]
    simp only [Array.size_setIfInBounds, List.length_cons, Array.getElem?_setIfInBounds]
    by_cases e : o = j
    · subst e
      rw [if_neg (by omega), if_pos rfl]
      by_cases hl : o < c.size
      · rw [if_pos hl, if_pos ⟨Nat.le_refl _, by omega, hl⟩, Nat.sub_self]; rfl
      · rw [if_neg hl, if_neg (by omega), Array.getElem?_eq_none (by omega)]
    · rw [if_neg e]
      by_cases h4 : o + 1 ≤ j ∧ j < o + 1 + vs.length ∧ j < c.size
      · rw [if_pos h4, if_pos ⟨by omega, by omega, h4.2.2⟩, show j - o = (j - (o + 1)) + 1 by omega, List.getElem?_cons_succ]
      · rw [if_neg h4, if_neg (fun h5 => h4 ⟨by omega, by omega, h5.2.2⟩)]
namespace RowK
variable {P : Program} {α : Type} (k : RowK P α)
/-- x[i:], x[:i] -/
def sfx (a : Option Addr) (cap i : Nat) : Option Addr := if cap = i then a else a.map (·.add (i * k.size))
def pfx (a : Option Addr) (cap : Nat) : Option Addr := if cap = 0 then a else a.map (·.add (0 * k.size))
theorem run_sfx (a : Option Addr) (cap len i : Nat) (h1 : i ≤ len) (w : World) :
    (Instr.sliceAt k.t (.slice a len cap) (some (.int .i64 i)) none none).run P w = .ok (.slice (k.sfx a cap i) (len - i) (cap - i)) w := by
  obtain ⟨i0, hi, hz0, hz1, hz2⟩ := info_parts k.info
  have hz : (i : Int) ≤ (len : Int) := by omega
  have hu := run_underlying k.ht
  unfold sfx
  simp [Instr.sliceAt, go_sem, hu, k.ht, hi, hz, hz1, sizeOf, typeInfo]
theorem run_pfx (a : Option Addr) (cap len i : Nat) (h1 : i ≤ cap) (w : World) :
    (Instr.sliceAt k.t (.slice a len cap) none (some (.int .i64 i)) none).run P w = .ok (.slice (k.pfx a cap) i cap) w := by
  obtain ⟨i0, hi, hz0, hz1, hz2⟩ := info_parts k.info
  have hz : (i : Int) ≤ (cap : Int) := by omega
  have hu := run_underlying k.ht
  unfold pfx
  simp [Instr.sliceAt, go_sem, hu, k.ht, hi, hz, hz1, sizeOf, typeInfo]
theorem wpList_sfx {ops : Array Oper} {rest : List Oper} {o : Oper} {act : Act} {w : World} {Q : Exit → Act → World → Prop} (hgd : o.guard = none) (x i : Operand) (ho : o.op = .slice k.t x (some i) none none)
    (sa : Option Addr) (len cap n : Nat) (hx : act.eval x = .slice sa len cap) (hi : act.eval i = .int .i64 (n : Int)) (h1 : n ≤ len) {a1 : Option Addr} {n1 c1 : Nat} (e1 : k.sfx sa cap n = a1) (e2 : len - n = n1) (e3 : cap - n = c1)
    (hK : wpList P ops Q rest (act.put o.dst (.slice a1 n1 c1)) w) : wpList P ops Q (o :: rest) act w := by
  subst e1 e2 e3
  refine wpList_plain hgd fun K' hK' => ?_
  have hr := k.run_sfx sa cap len n h1 w
  unfold Oper.wp execOp
  simp only [ho, Option.map_some, Option.map_none, hx, hi, Sem.run_bind, Sem.run_pure, hr, Result.andThen_ok]
  exact hK' _ _ hK
theorem wpList_pfx {ops : Array Oper} {rest : List Oper} {o : Oper} {act : Act} {w : World} {Q : Exit → Act → World → Prop} (hgd : o.guard = none) (x i : Operand) (ho : o.op = .slice k.t x none (some i) none)
    (sa : Option Addr) (len cap n : Nat) (hx : act.eval x = .slice sa len cap) (hi : act.eval i = .int .i64 (n : Int)) (h1 : n ≤ cap) {a1 : Option Addr} (e1 : k.pfx sa cap = a1)
    (hK : wpList P ops Q rest (act.put o.dst (.slice a1 n cap)) w) : wpList P ops Q (o :: rest) act w := by
  subst e1
  refine wpList_plain hgd fun K' hK' => ?_
  have hr := k.run_pfx sa cap len n h1 w
  unfold Oper.wp execOp
  simp only [ho, Option.map_some, Option.map_none, hx, hi, Sem.run_bind, Sem.run_pure, hr, Result.andThen_ok]
  exact hK' _ _ hK
variable {k} {w w' : World} {B : Nat} {v : Value} {l : List α}
theorem V.take {a : Option Addr} (h : k.V w a l) (n cap : Nat) : k.V w (k.pfx a cap) (l.take n) := fun hn => by
  obtain ⟨b, off, e, hat⟩ := h (fun e => hn (by rw [e]; simp))
  refine ⟨b, off, ?_, ⟨fun i x hx => hat.cells i x (by
    rw [List.getElem?_take] at hx
    split at hx
    · exact hx
    · cases hx), hat.lt⟩⟩
  unfold pfx
  rw [e]
  split <;> simp [Addr.add]
theorem V.drop {a : Option Addr} (h : k.V w a l) {n cap : Nat} (hc : l.length ≤ cap) : k.V w (k.sfx a cap n) (l.drop n) := fun hn => by
  have hlt : n < l.length := Classical.byContradiction fun hh => hn (List.drop_eq_nil_of_le (by omega))
  obtain ⟨b, off, e, hat⟩ := h (fun e => by rw [e] at hlt; simp at hlt)
  refine ⟨b, off + n * k.size, ?_, ⟨fun i x hx j u hu => ?_, hat.lt⟩⟩
  · unfold sfx
    rw [if_neg (by omega), e]
    simp [Addr.add]
  · rw [List.getElem?_drop] at hx
    have := hat.cells (n + i) x hx j u hu
    rw [Nat.add_mul] at this
    rw [show off + n * k.size + i * k.size = off + (n * k.size + i * k.size) by omega]
    exact this
theorem pfx_none {a : Option Addr} {cap : Nat} (h : a = none → cap = 0) (e : k.pfx a cap = none) : cap = 0 := by
  unfold pfx at e
  split at e
  · assumption
  · cases a with
    | none => exact h rfl
    | some a => cases e
theorem sfx_none {a : Option Addr} {cap n : Nat} (h : a = none → cap = 0) (e : k.sfx a cap n = none) : cap - n = 0 := by
  unfold sfx at e
  split at e
  · omega
  · cases a with
    | none => have := h rfl; omega
    | some a => cases e
theorem Own.noneCap {n cap : Nat} (h : k.Own w B (.slice none n cap) l) : cap = 0 := by
  rcases h.2 with ⟨h1, _⟩ | ⟨g, cp, cur, h1, _⟩
  · injection h1
  · injection h1 with e1; cases e1
theorem Own.cap {n cap : Nat} {a : Option Addr} (h : k.Own w B (.slice a n cap) l) : l.length ≤ cap := by
  rcases h.2 with ⟨h1, h2⟩ | ⟨g, cp, cur, h1, _, _, h4, _⟩
  · injection h1 with e1 e2 e3; omega
  · injection h1 with e1 e2 e3; omega
/-- the cells of one element, as a range -/
theorem At.range {b off : Nat} (h : k.At w b off l) {i : Nat} {x : α} (hx : l[i]? = some x) : w.rangeAt b (off + i * k.size) (k.enc x) := fun j u hu => h.cells i x hx j u hu
/-- one element written -/
theorem Own.upd {g cap n : Nat} (h : k.Own w B (.slice (some ⟨g, 0, none⟩) n cap) l) {i r : Nat} {x x' : α} (hx : l[i]? = some x) (vs : List Value) (hr : r + vs.length ≤ k.size)
    (he : ∀ j, (k.enc x')[j]? = if r ≤ j ∧ j < r + vs.length then vs[j - r]? else (k.enc x)[j]?) :
    k.Own (w.setCells g (i * k.size + r) vs) B (.slice (some ⟨g, 0, none⟩) n cap) (l.set i x') := by
  rcases h.2 with ⟨h1, _⟩ | ⟨g', cp, cur, h1, hB, hg, hn, hm, hs, ht⟩
  · injection h1 with e1; cases e1
  · injection h1 with e1 e2 e3
    injection e1 with e1
    injection e1 with e1
    subst e1 e2 e3
    obtain ⟨c', q1, q2, q3⟩ := blk_setCells vs (i * k.size + r) w cur hg
    obtain ⟨hil, hie⟩ := List.getElem?_eq_some_iff.1 hx
    have hll : (l.set i x').length = l.length := List.length_set
    refine ⟨by rw [k.cells_len, hll], .inr ⟨g, cap, c', by rw [hll], hB, q1, by rw [hll]; exact hn, hm, by rw [q2]; exact hs, ?_⟩⟩
    rw [hll]
    have hcl : (k.cells l).length = l.length * k.size := k.cells_len l
    have hle : l.length * k.size ≤ cur.size := by rw [hs]; exact Nat.mul_le_mul_right _ hn
    apply List.ext_getElem?
    intro j
    by_cases hj : j < l.length * k.size
    · rw [List.getElem?_take_of_lt hj, Array.getElem?_toList, q3 j]
      have hp := k.pos
      have hdi : j / k.size < l.length := Nat.div_lt_of_lt_mul (by rw [Nat.mul_comm]; exact hj)
      have hmo : j % k.size < k.size := Nat.mod_lt _ hp
      have hje : j / k.size * k.size + j % k.size = j := by rw [Nat.mul_comm]; exact Nat.div_add_mod _ _
      have hold : cur[j]? = (k.enc l[j / k.size])[j % k.size]? := by
        have h5 : (cur.toList.take (l.length * k.size))[j]? = (k.cells l)[j]? := by rw [ht]
        rw [List.getElem?_take_of_lt hj, Array.getElem?_toList] at h5
        rw [h5]
        have hu : (k.enc l[j / k.size])[j % k.size]? = some ((k.enc l[j / k.size])[j % k.size]'(by rw [k.len]; exact hmo)) := List.getElem?_eq_getElem _
        have h1 := k.cells_at (l := l) (i := j / k.size) (List.getElem?_eq_getElem hdi) hu
        rw [hje] at h1
        rw [h1, hu]
      have hnew : ∀ y, (l.set i x')[j / k.size]? = some y → (k.cells (l.set i x'))[j]? = (k.enc y)[j % k.size]? := fun y hy => by
        have hu : (k.enc y)[j % k.size]? = some ((k.enc y)[j % k.size]'(by rw [k.len]; exact hmo)) := List.getElem?_eq_getElem _
        have h1 := k.cells_at (l := l.set i x') (i := j / k.size) hy hu
        rw [hje] at h1
        rw [h1, hu]
      by_cases e : j / k.size = i
      · rw [hnew x' (by rw [e, List.getElem?_set_self hil]), he]
        have e2 : (k.enc l[j / k.size])[j % k.size]? = (k.enc x)[j % k.size]? := by
          have : l[j / k.size] = x := by rw [← hie]; simp [e]
          rw [this]
        rw [hold, e2]
        rw [e] at hje
        by_cases h6 : r ≤ j % k.size ∧ j % k.size < r + vs.length
        · rw [if_pos h6, if_pos (by omega), show j - (i * k.size + r) = j % k.size - r by omega]
        · rw [if_neg h6, if_neg (by omega)]
      · rw [hnew l[j / k.size] (by rw [List.getElem?_set_ne (fun h => e h.symm)]; exact List.getElem?_eq_getElem hdi), hold, if_neg]
        intro h6
        have h7 : i * k.size ≤ j ∧ j < (i + 1) * k.size := by rw [Nat.succ_mul]; omega
        have : j / k.size = i := by
          apply Nat.div_eq_of_lt_le
          · exact h7.1
          · exact h7.2
        exact e this
    · rw [List.getElem?_eq_none (by simp; omega), List.getElem?_eq_none (by rw [k.cells_len, hll]; omega)]
end RowK
end Go.Proofs.YtkbmipmegljidaaGreat
namespace Go.Proofs.YtkbmipmegljidaaGreat
open Go.RowKit Go.Maps
namespace RowK
variable {P : Program} {α : Type} {k : RowK P α} {w w' : World} {B : Nat} {v : Value} {l : List α}
theorem Own.blk {g cap n : Nat} (h : k.Own w B (.slice (some ⟨g, 0, none⟩) n cap) l) : ∃ cur, w.heap[g]? = some (.cells cur k.e (0, 0)) ∧ cur.size = cap * k.size ∧ l.length ≤ cap ∧ B ≤ g ∧ n = l.length := by
  rcases h.2 with ⟨h1, _⟩ | ⟨g', cp, cur, h1, hB, hg, hn, hm, hs, ht⟩
  · injection h1 with e1; cases e1
  · injection h1 with e1 e2 e3
    injection e1 with e1
    injection e1 with e1
    subst e1 e2 e3
    exact ⟨cur, hg, hs, hn, hB, rfl⟩
end RowK
end Go.Proofs.YtkbmipmegljidaaGreat
namespace Go.Proofs.YtkbmipmegljidaaGreat
open Go.RowKit Go.Maps

/-- the first one's place -/
def idxG {α : Type} (p : α → Bool) : List α → Int → Int
  | [], _ => -1
  | r :: l, i => if p r = true then i else idxG p l (i + 1)
theorem idxG_drop {α : Type} {p : α → Bool} {l : List α} {k : Nat} {x : α} (hx : l[k]? = some x) : idxG p (l.drop k) k = if p x = true then (k : Int) else idxG p (l.drop (k + 1)) (k + 1) := by
  obtain ⟨hk, rfl⟩ := List.getElem?_eq_some_iff.1 hx
  rw [List.drop_eq_getElem_cons hk]
  rfl
theorem idxG_cases {α : Type} (p : α → Bool) : ∀ (l : List α) (i : Nat), (idxG p l i = -1 ∧ ∀ x ∈ l, p x = false) ∨ (∃ (k : Nat) (x : α), idxG p l i = ((i + k : Nat) : Int) ∧ l[k]? = some x ∧ p x = true ∧ (∀ y ∈ l.take k, p y = false))
  | [], _ => .inl ⟨rfl, fun x hx => by simp at hx⟩
  | r :: l, i => by
    cases h : p r
    · rcases idxG_cases p l (i + 1) with ⟨h1, h2⟩ | ⟨k, x, h1, h2, h3, h4⟩
      · refine .inl ⟨?_, fun x hx => ?_⟩
        · unfold idxG; rw [if_neg (by rw [h]; decide)]; exact h1
        · rcases List.mem_cons.1 hx with rfl | hx
          · exact h
          · exact h2 x hx
      · refine .inr ⟨k + 1, x, ?_, by simpa using h2, h3, fun y hy => ?_⟩
        · unfold idxG; rw [if_neg (by rw [h]; decide)]
          have : ((i : Int) + 1) = ((i + 1 : Nat) : Int) := by omega
          rw [this, h1]; congr 1; omega
        · rw [List.take_succ_cons] at hy
          rcases List.mem_cons.1 hy with rfl | hy
          · exact h
          · exact h4 y hy
    · exact .inr ⟨0, r, by unfold idxG; rw [if_pos h]; rfl, rfl, h, fun y hy => by simp at hy⟩
/-- what has been kept, and what is still to come -/
structure DelM {α : Type} (p : α → Bool) (l M : List α) (i j : Nat) : Prop where
  len : M.length = l.length
  lt : i < j
  le : j ≤ l.length
  kept : M.take i = (l.take j).filter (fun x => !p x)
  rest : M.drop j = l.drop j
theorem DelM.start {α : Type} {p : α → Bool} {l : List α} {k : Nat} {x : α} (hx : l[k]? = some x) (h1 : p x = true) (h2 : ∀ y ∈ l.take k, p y = false) : DelM p l l k (k + 1) :=
  ⟨rfl, by omega, (List.getElem?_eq_some_iff.1 hx).1, by
    rw [List.take_add_one, hx, List.filter_append, List.filter_eq_self.2 (fun y hy => by rw [h2 y hy]; rfl)]
    simp [h1], rfl⟩
namespace RowK
variable {P : Program} {α : Type} {k : RowK P α} {w w' : World} {B : Nat} {v : Value} {l : List α}
/-- the cells from a place on are written: what stands ahead stays -/
theorem Own.head {g cap n : Nat} (h : k.Own w B (.slice (some ⟨g, 0, none⟩) n cap) l) {i : Nat} (hi : i ≤ l.length) (vs : List Value) :
    k.Own (w.setCells g (i * k.size) vs) B (.slice (some ⟨g, 0, none⟩) i cap) (l.take i) := by
  rcases h.2 with ⟨h1, _⟩ | ⟨g', cp, cur, h1, hB, hg, hn, hm, hs, ht⟩
  · injection h1 with e1; cases e1
  · injection h1 with e1 e2 e3
    injection e1 with e1
    injection e1 with e1
    subst e1 e2 e3
    obtain ⟨c', q1, q2, q3⟩ := blk_setCells vs (i * k.size) w cur hg
    have hll : (l.take i).length = i := by rw [List.length_take]; omega
    refine ⟨by rw [k.cells_len, hll], .inr ⟨g, cap, c', by rw [hll], hB, q1, by rw [hll]; omega, hm, by rw [q2]; exact hs, ?_⟩⟩
    rw [hll]
    have hcl : (k.cells l).length = l.length * k.size := k.cells_len l
    have hil : i * k.size ≤ l.length * k.size := Nat.mul_le_mul_right _ hi
    have e0 : k.cells l = k.cells (l.take i) ++ k.cells (l.drop i) := by rw [← k.cells_append, List.take_append_drop]
    have hcl2 : (k.cells (l.take i)).length = i * k.size := by rw [k.cells_len, hll]
    apply List.ext_getElem?
    intro j
    by_cases hj : j < i * k.size
    · rw [List.getElem?_take_of_lt hj, Array.getElem?_toList, q3 j, if_neg (by omega)]
      have h5 : (cur.toList.take (l.length * k.size))[j]? = (k.cells l)[j]? := by rw [ht]
      rw [List.getElem?_take_of_lt (by omega), Array.getElem?_toList] at h5
      rw [h5, e0, List.getElem?_append_left (by omega)]
    · rw [List.getElem?_take_eq_none (by omega), List.getElem?_eq_none (by omega)]
end RowK
end Go.Proofs.YtkbmipmegljidaaGreat
