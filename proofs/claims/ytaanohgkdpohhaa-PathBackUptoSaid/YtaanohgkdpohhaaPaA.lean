/- Layer 19, plainly: levels of vertices from which a way leads to one; what steps cost. No program here beyond plain lists. Layer 19: a map of distances in memory; what path.back keeps. Conditions: each lemma's own premises. Layer 19, plainly: what path.back keeps of levels and steps, round by round. No program here beyond plain lists. Layer 19: path.back. Conditions: each contract's own premises. -/
import Derived.Test.YtaanohgkdpohhaaWk3
import Derived.Test.YtaanohgkdpohhaaPathPlain
import Derived.Deep.Cut
namespace Go.Proofs.Ytaanohgkdpohhaa
open Go.RowKit Go.Maps

/-- is there an edge of a label (any, if empty)? -/
def edB (E : List Eg) (lab : ByteArray) (a b : Int) : Prop := ∃ e ∈ E, e.fr = a ∧ e.to = b ∧ (lab.toList = [] ∨ e.label = lab)
theorem mem_nx {E : List Eg} (hs : SortB Eg.id E) {out : Bool} {lab : ByteArray} {n x : Int} : x ∈ (idsE E (sideP out n)).flatMap (nx E out lab) ↔ (if out then edB E lab n x else edB E lab x n) := by
  rw [List.mem_flatMap]
  constructor
  · rintro ⟨i, hi, hx⟩
    obtain ⟨e, he, hp, _, _, hg⟩ := ids_found hs hi
    unfold nx at hx
    rw [hg] at hx
    split at hx
    · rename_i hl
      rw [List.mem_singleton] at hx
      cases out
      · exact ⟨e, he, by simpa using hx.symm, by simpa [sideP, inP] using hp, hl⟩
      · exact ⟨e, he, by simpa [sideP, outP] using hp, by simpa using hx.symm, hl⟩
    · cases hx
  · intro h
    have h' : ∃ e ∈ E, sideP out n e = true ∧ (if out then e.to else e.fr) = x ∧ (lab.toList = [] ∨ e.label = lab) := by
      cases out
      · obtain ⟨e, he, h1, h2, h3⟩ := h
        exact ⟨e, he, by simp [sideP, inP, h2], h1, h3⟩
      · obtain ⟨e, he, h1, h2, h3⟩ := h
        exact ⟨e, he, by simp [sideP, outP, h1], h2, h3⟩
    obtain ⟨e, he, h1, h2, h3⟩ := h'
    have hid : e.id ∈ idsE E (sideP out n) := List.mem_map.2 ⟨e, List.mem_filter.2 ⟨he, h1⟩, rfl⟩
    refine ⟨e.id, hid, ?_⟩
    have hg : getE E e.id = e := by unfold getE; rw [findB_mem hs he]; rfl
    unfold nx
    rw [hg, if_pos h3, h2]
    simp
theorem mem_next {E : List Eg} (hs : SortB Eg.id E) {out : Bool} {lab : ByteArray} {n x : Int} : x ∈ nextL E out lab n ↔ (if out then edB E lab n x else edB E lab x n) := by
  unfold nextL
  rw [(setI_spec _).2, mem_nx hs]
theorem next_inc (E : List Eg) (out : Bool) (lab : ByteArray) (n : Int) : IncI (nextL E out lab n) := (setI_spec _).1
/-- what expanding vertices costs -/
def cost (E : List Eg) (out : Bool) : List Int → Nat
  | [] => 0
  | v :: l => 1 + (idsE E (sideP out v)).length + cost E out l
theorem cost_app (E : List Eg) (out : Bool) : ∀ a b : List Int, cost E out (a ++ b) = cost E out a + cost E out b
  | [], b => by simp [cost]
  | x :: a, b => by
    show 1 + _ + cost E out (a ++ b) = _
    rw [cost_app E out a b]
    show _ = 1 + _ + cost E out a + cost E out b
    omega
theorem cost_one (E : List Eg) (out : Bool) (v : Int) : cost E out [v] = 1 + (idsE E (sideP out v)).length := rfl
theorem ids_cons (e : Eg) (E : List Eg) (p : Eg → Bool) : (idsE (e :: E) p).length = (if p e then 1 else 0) + (idsE E p).length := by
  unfold idsE
  rw [List.filter_cons]
  split <;> simp; omega
theorem cost_nil (out : Bool) : ∀ l : List Int, cost [] out l = l.length
  | [] => rfl
  | v :: l => by
    show 1 + 0 + cost [] out l = l.length + 1
    rw [cost_nil out l]; omega
def sideV (out : Bool) (e : Eg) : Int := if out then e.fr else e.to
theorem sideP_iff (out : Bool) (v : Int) (e : Eg) : sideP out v e = true ↔ sideV out e = v := by
  cases out <;> simp [sideP, sideV, inP, outP]
theorem cost_cons (e : Eg) (E : List Eg) (out : Bool) : ∀ l : List Int, l.Nodup → cost (e :: E) out l ≤ cost E out l + (if sideV out e ∈ l then 1 else 0)
  | [], _ => by simp [cost]
  | v :: l, h => by
    obtain ⟨h1, h2⟩ := List.nodup_cons.1 h
    have ih := cost_cons e E out l h2
    show 1 + (idsE (e :: E) (sideP out v)).length + cost (e :: E) out l ≤ 1 + (idsE E (sideP out v)).length + cost E out l + _
    rw [ids_cons]
    by_cases hs : sideP out v e = true
    · have hv := (sideP_iff out v e).1 hs
      have hn : sideV out e ∉ l := by rw [hv]; exact h1
      rw [if_neg hn] at ih
      rw [if_pos hs, if_pos (by rw [hv]; simp)]
      omega
    · rw [if_neg hs]
      by_cases hm : sideV out e ∈ l
      · rw [if_pos hm] at ih
        rw [if_pos (List.mem_cons.2 (.inr hm))]
        omega
      · rw [if_neg hm] at ih
        split <;> omega
theorem cost_le (out : Bool) {l : List Int} (h : l.Nodup) : ∀ E : List Eg, cost E out l ≤ l.length + E.length
  | [] => by rw [cost_nil]; simp
  | e :: E => by
    have h1 := cost_cons e E out l h
    have h2 := cost_le out h E
    have : (if sideV out e ∈ l then 1 else 0) ≤ 1 := by split <;> omega
    simp only [List.length_cons]
    omega
/-- different numbers, all among some -/
theorem nodup_len {l m : List Int} (h : l.Nodup) (hs : ∀ x ∈ l, x ∈ m) : l.length ≤ m.length := by
  induction l generalizing m with
  | nil => simp
  | cons x l ih =>
    obtain ⟨h1, h2⟩ := List.nodup_cons.1 h
    have hx := hs x (List.mem_cons.2 (.inl rfl))
    have := ih (m := m.erase x) h2 (fun y hy => (List.mem_erase_of_ne (fun e => h1 (by rw [← e]; exact hy))).2 (hs y (List.mem_cons.2 (.inr hy))))
    rw [List.length_erase_of_mem hx] at this
    have := List.length_pos_of_mem hx
    simp; omega
/-- numbers by keys -/
abbrev DM := List (Int × Nat)
def lookD (d : DM) (n : Int) : Option Nat := (d.find? (fun p => p.1 == n)).map (·.2)
def keysD (d : DM) : List Int := d.map (·.1)
theorem lookD_none {d : DM} {n : Int} : lookD d n = none ↔ n ∉ keysD d := by
  unfold lookD keysD
  rw [Option.map_eq_none_iff, List.find?_eq_none]
  constructor
  · intro h hm
    obtain ⟨p, hp, e⟩ := List.mem_map.1 hm
    exact h p hp (by simp [e])
  · intro h p hp e
    exact h (List.mem_map.2 ⟨p, hp, by simpa using e⟩)
theorem lookD_some {d : DM} {n : Int} {k : Nat} (h : lookD d n = some k) : (n, k) ∈ d := by
  unfold lookD at h
  obtain ⟨p, hp, e⟩ := Option.map_eq_some_iff.1 h
  have h1 := List.mem_of_find?_eq_some hp
  have h2 := List.find?_some hp
  simp at h2
  rw [← h2, ← e]
  exact h1
theorem lookD_app {d : DM} {x n : Int} {k : Nat} (hx : x ∉ keysD d) : lookD (d ++ [(x, k)]) n = if n = x then some k else lookD d n := by
  unfold lookD
  rw [List.find?_append]
  by_cases e : n = x
  · subst e
    have := lookD_none.2 hx
    unfold lookD at this
    rw [Option.map_eq_none_iff] at this
    rw [this]
    simp
  · rw [if_neg e]
    cases hf : d.find? (fun p => p.1 == n) with
    | none => simp [Ne.symm e]
    | some p => simp
theorem lookD_mem {d : DM} (hn : (keysD d).Nodup) {n : Int} {k : Nat} (h : (n, k) ∈ d) : lookD d n = some k := by
  induction d with
  | nil => cases h
  | cons p d ih =>
    obtain ⟨h1, h2⟩ := List.nodup_cons.1 hn
    unfold lookD
    rw [List.find?_cons]
    rcases List.mem_cons.1 h with rfl | h
    · simp
    · have : ¬ p.1 = n := fun e => h1 (List.mem_map.2 ⟨_, h, e.symm⟩)
      have h3 : (p.1 == n) = false := by simpa using this
      rw [h3]
      exact ih h2 h
/-- levels that are whole: all from which a way of fewer than n edges leads to t; row: those of n - 1 edges -/
structure Lvl (R : Int → Int → Prop) (t : Int) (n : Nat) (X row : List Int) (d : DM) : Prop where
  keys : keysD d = X ++ row
  nd : (X ++ row).Nodup
  all : ∀ v k, k < n → (lookD d v = some k ↔ Dist R k v t)
  few : ∀ v k, lookD d v = some k → k < n
  rowF : ∀ v, v ∈ row ↔ Dist R (n - 1) v t
  pos : 1 ≤ n
theorem Lvl.start (R : Int → Int → Prop) (t : Int) : Lvl R t 1 [] [t] [(t, 0)] := by
  refine ⟨rfl, List.nodup_cons.2 ⟨by simp, List.nodup_nil⟩, fun v k hk => ?_, fun v k h => ?_, fun v => ?_, Nat.le_refl _⟩
  · obtain rfl : k = 0 := by omega
    rw [dist_zero]
    unfold lookD
    by_cases e : t = v
    · simp [e]
    · simp [e, Ne.symm e]
  · have := lookD_some h
    simp at this
    omega
  · rw [List.mem_singleton, Nat.sub_self, dist_zero]
/-- in the midst of a round: i of the row are expanded -/
structure Mid (R : Int → Int → Prop) (t : Int) (n : Nat) (X row next : List Int) (d : DM) (i : Nat) : Prop where
  keys : keysD d = X ++ row ++ next
  nd : (X ++ row ++ next).Nodup
  all : ∀ v k, k < n → (lookD d v = some k ↔ Dist R k v t)
  few : ∀ v k, lookD d v = some k → k ≤ n
  last : ∀ v, lookD d v = some n ↔ v ∈ next
  rowF : ∀ v, v ∈ row ↔ Dist R (n - 1) v t
  nextF : ∀ v ∈ next, Dist R n v t
  done : ∀ v y, y ∈ row.take i → R v y → v ∈ keysD d
  pos : 1 ≤ n
theorem Lvl.mid {R : Int → Int → Prop} {t : Int} {n : Nat} {X row : List Int} {d : DM} (h : Lvl R t n X row d) : Mid R t n X row [] d 0 :=
  ⟨by rw [h.keys, List.append_nil], by rw [List.append_nil]; exact h.nd, h.all, fun v k hk => Nat.le_of_lt (h.few v k hk), fun v => ⟨fun hl => absurd (h.few v n hl) (Nat.lt_irrefl _), fun hv => by cases hv⟩, h.rowF, (fun v hv => by cases hv), (fun v y hy => by simp at hy), h.pos⟩
theorem Mid.seen {R : Int → Int → Prop} {t : Int} {n : Nat} {X row next : List Int} {d : DM} {i : Nat} (h : Mid R t n X row next d i) {x y : Int} (hy : y ∈ row) (hR : R x y) (hx : x ∉ keysD d) : Mid R t n X row (next ++ [x]) (d ++ [(x, n)]) i := by
  have hno : ∀ k, k < n → ¬ Dist R k x t := fun k hk hd => by
    have := (h.all x k hk).2 hd
    rw [lookD_none.2 hx] at this
    cases this
  have hD : Dist R n x t := by
    have h1 := (h.rowF y).1 hy
    have := h1.more hR (fun k hk => hno k (by have := h.pos; omega))
    rw [Nat.sub_add_cancel h.pos] at this
    exact this
  have hxn : x ∉ next := fun e => hx (by rw [h.keys]; exact List.mem_append.2 (.inr e))
  have hk : keysD (d ++ [(x, n)]) = X ++ row ++ (next ++ [x]) := by
    unfold keysD
    rw [List.map_append]
    show keysD d ++ [x] = _
    rw [h.keys, List.append_assoc (X ++ row)]
  refine ⟨hk, ?_, fun v k hkn => ?_, fun v k hv => ?_, fun v => ?_, h.rowF, fun v hv => ?_, fun v z hz hR2 => ?_, h.pos⟩
  · rw [← List.append_assoc]
    refine List.nodup_append.2 ⟨h.nd, by simp, fun a ha b hb => ?_⟩
    obtain rfl : b = x := by simpa using hb
    intro e
    exact hx (by rw [h.keys, ← e]; exact ha)
  · rw [lookD_app hx]
    by_cases e : v = x
    · subst e
      rw [if_pos rfl]
      constructor
      · intro h2; injection h2 with h2; omega
      · intro h2; exact absurd h2 (hno k hkn)
    · rw [if_neg e]; exact h.all v k hkn
  · rw [lookD_app hx] at hv
    split at hv
    · injection hv with hv; omega
    · exact h.few v k hv
  · rw [lookD_app hx, List.mem_append, List.mem_singleton]
    by_cases e : v = x
    · simp [e]
    · rw [if_neg e, h.last]
      simp [e]
  · rcases List.mem_append.1 hv with hv | hv
    · exact h.nextF v hv
    · obtain rfl : v = x := by simpa using hv
      exact hD
  · have := h.done v z hz hR2
    rw [hk]
    rw [h.keys] at this
    rw [← List.append_assoc]
    exact List.mem_append.2 (.inl this)
theorem Mid.step {R : Int → Int → Prop} {t : Int} {n : Nat} {X row next : List Int} {d : DM} {i : Nat} {y : Int} (h : Mid R t n X row next d i) (hy : row[i]? = some y) (hall : ∀ v, R v y → v ∈ keysD d) : Mid R t n X row next d (i + 1) :=
  ⟨h.keys, h.nd, h.all, h.few, h.last, h.rowF, h.nextF, fun v z hz hR => by
    rw [List.take_add_one, hy] at hz
    rcases List.mem_append.1 hz with hz | hz
    · exact h.done v z hz hR
    · obtain rfl : z = y := by simpa using hz
      exact hall v hR, h.pos⟩
theorem mem_keysD {d : DM} {v : Int} : v ∈ keysD d ↔ ∃ k, lookD d v = some k := by
  cases hl : lookD d v with
  | none => exact ⟨fun hm => absurd hm (lookD_none.1 hl), fun ⟨k, hk⟩ => by cases hk⟩
  | some k => exact ⟨fun _ => ⟨k, rfl⟩, fun _ => Classical.byContradiction fun hn => by rw [lookD_none.2 hn] at hl; cases hl⟩
theorem Mid.lvl {R : Int → Int → Prop} {t : Int} {n : Nat} {X row next : List Int} {d : DM} (h : Mid R t n X row next d row.length) : Lvl R t (n + 1) (X ++ row) next d := by
  have hnext : ∀ v, Dist R n v t → v ∈ next := fun v hd => by
    have hp := h.pos
    obtain ⟨m, rfl⟩ : ∃ m, n = m + 1 := ⟨n - 1, by omega⟩
    obtain ⟨y, e, hy⟩ := hd.step
    have hyr : y ∈ row := (h.rowF y).2 (by simpa using hy)
    obtain ⟨k, hl⟩ := mem_keysD.1 (h.done v y (by rw [List.take_length]; exact hyr) e)
    have hle := h.few v k hl
    by_cases e2 : k = m + 1
    · subst e2
      exact (h.last v).1 hl
    · have h2 := (h.all v k (by omega)).1 hl
      have := h2.uniq hd
      omega
  refine ⟨h.keys, h.nd, fun v k hk => ?_, (fun v k hl => by have := h.few v k hl; omega), fun v => ?_, by omega⟩
  · by_cases e : k < n
    · exact h.all v k e
    · obtain rfl : k = n := by omega
      rw [h.last]
      exact ⟨h.nextF v, hnext v⟩
  · rw [Nat.add_sub_cancel]
    exact ⟨h.nextF v, hnext v⟩
/-- what back knows at its end -/
structure Whole (R : Int → Int → Prop) (t : Int) (m : Nat) (d : DM) : Prop where
  all : ∀ v k, lookD d v = some k ↔ k ≤ m ∧ Dist R k v t
theorem Lvl.whole {R : Int → Int → Prop} {t : Int} {n : Nat} {X row : List Int} {d : DM} (h : Lvl R t n X row d) : Whole R t (n - 1) d :=
  ⟨fun v k => ⟨fun hl => by
    have hk := h.few v k hl
    exact ⟨by omega, (h.all v k hk).1 hl⟩, fun ⟨hk, hd⟩ => (h.all v k (by have := h.pos; omega)).2 hd⟩⟩
/-- no vertex at a distance: none farther off -/
theorem dist_gap {R : Int → Int → Prop} {t : Int} {m : Nat} (h : ∀ v, ¬ Dist R m v t) : ∀ j v, ¬ Dist R (m + j) v t
  | 0, v => h v
  | j + 1, v => fun hd => by
    obtain ⟨y, _, hy⟩ := Dist.step (n := m + j) hd
    exact dist_gap h j y hy
end Go.Proofs.Ytaanohgkdpohhaa
namespace Go.Proofs.Ytaanohgkdpohhaa
open Go.RowKit Go.Maps

theorem zeroI (w : World) : (zeroValue 3).run Try.prog w = .ok (.int .i64 0) w := by kernel_rfl
/-- a map of distances in memory -/
def DmC (w : World) (db : Nat) (d : DM) : Prop := ∃ f : Lit → Option Value, mapR w Try.prog 3 db d.length f ∧ ∀ n, I64 n → f (.int .i64 n) = (lookD d n).map (fun k => Value.int .i64 ((k : Nat) : Int))
theorem DmC.lt {w : World} {db : Nat} {d : DM} (h : DmC w db d) : db < w.heap.size := by obtain ⟨_, m, _⟩ := h; exact m.lt
theorem DmC.of_block {w w' : World} {db : Nat} {d : DM} (h : DmC w db d) (hb : w'.heap[db]? = w.heap[db]?) : DmC w' db d := by
  obtain ⟨f, m, hf⟩ := h
  exact ⟨f, m.of_block hb, hf⟩
theorem DmC.look {w : World} {db : Nat} {d : DM} (h : DmC w db d) {n : Int} (hn : I64 n) :
    (Instr.lookup 153 (.map (some db)) (.int .i64 n) true).run Try.prog w = .ok (.tuple #[.int .i64 (((lookD d n).getD 0 : Nat) : Int), .bool (lookD d n).isSome]) w := by
  obtain ⟨f, m, hf⟩ := h
  have e := m.look_ok lawI Try.underlying153 (zeroI w) (keyI hn)
  rw [hf n hn] at e
  rw [e]
  cases lookD d n <;> rfl
open Classical in
theorem DmC.put {w2 : World} {db : Nat} {d : DM} {x : Int} {k : Nat} {f : Lit → Option Value} (hf : ∀ n, I64 n → f (.int .i64 n) = (lookD d n).map (fun k => Value.int .i64 ((k : Nat) : Int))) (hx : x ∉ keysD d) (hxi : I64 x)
    (m2 : mapR w2 Try.prog 3 db (if (f (.int .i64 x)).isSome then d.length else d.length + 1) (upd f (.int .i64 x) (some (.int .i64 (k : Int))))) : DmC w2 db (d ++ [(x, k)]) := by
  rw [hf x hxi, lookD_none.2 hx] at m2
  refine ⟨_, by simpa using m2, fun n hn => ?_⟩
  rw [lookD_app hx]
  unfold upd
  by_cases e : n = x
  · subst e; simp
  · rw [if_neg (fun e2 => e (lit_int.1 e2)), if_neg e]
    exact hf n hn
/-- what back keeps: the walk, the map, its argument's box -/
structure BkC (w0 w wr : World) (wb gb : Nat) (V : List Vt) (t : Int) (cs : Array Value) (st : Option Nat) (d : DM) : Prop where
  wk : WkS w0 wr wb gb st
  dm : DmC wr (w.heap.size + 1) d
  chg : Chg w wr (fun i => i = wb)
  nd : (keysD d).Nodup
  sub : ∀ v ∈ keysD d, v = t ∨ ∃ u ∈ V, u.id = v
  box : wr.heap[w.heap.size]? = some (.cells cs 107 (0, 0))
  lt : wb < w.heap.size
section
variable {w0 w wr w' : World} {wb gb : Nat} {V : List Vt} {t : Int} {cs : Array Value} {st st' : Option Nat} {d : DM}
theorem BkC.below (h : BkC w0 w wr wb gb V t cs st d) (hb : Below wr.heap.size wr w') : BkC w0 w w' wb gb V t cs st d :=
  ⟨h.wk.below hb, h.dm.of_block (hb.block _ h.dm.lt), h.chg.andBelow (hb.mono h.chg.size), h.nd, h.sub, (hb.block _ (Array.getElem?_eq_some_iff.1 h.box).1).trans h.box, h.lt⟩
theorem BkC.next (h : BkC w0 w wr wb gb V t cs st d) (hs : WkS w0 w' wb gb st') (hc : Chg wr w' (fun i => i = wb)) : BkC w0 w w' wb gb V t cs st' d :=
  ⟨hs, h.dm.of_block (hc.block _ h.dm.lt (by have := h.lt; omega)), h.chg.trans hc (fun _ _ e => e), h.nd, h.sub, (hc.block _ (Array.getElem?_eq_some_iff.1 h.box).1 (by have := h.lt; omega)).trans h.box, h.lt⟩
theorem BkC.grown (h : BkC w0 w wr wb gb V t cs st d) {r : Option Nat} (hg : wr.grownBy w' r) (hr : ∀ j, r = some j → w.heap.size + 2 ≤ j) : BkC w0 w w' wb gb V t cs st d := by
  have hl := h.lt
  have n1 : some wb ≠ r := fun e => by have := hr wb e.symm; omega
  have n2 : some (w.heap.size + 1) ≠ r := fun e => by have := hr _ e.symm; omega
  have n3 : some w.heap.size ≠ r := fun e => by have := hr _ e.symm; omega
  exact ⟨⟨h.wk.bel.grown hg h.wk.bel.size (fun j hj => by have := hr j hj; have := h.wk.new; omega), h.wk.new, (hg.block _ h.wk.lt n1).trans h.wk.blk, h.wk.small⟩,
    h.dm.of_block (hg.block _ h.dm.lt n2), h.chg.grown hg (fun m hm hml => by have := hr m hm; omega), h.nd, h.sub, (hg.block _ (Array.getElem?_eq_some_iff.1 h.box).1 n3).trans h.box, h.lt⟩
theorem BkC.turn (h : BkC w0 w wr wb gb V t cs st d) {d' : DM} (ht : wr.mapTurned w' (w.heap.size + 1)) (hd : DmC w' (w.heap.size + 1) d') (hn : (keysD d').Nodup) (hs : ∀ v ∈ keysD d', v = t ∨ ∃ u ∈ V, u.id = v) : BkC w0 w w' wb gb V t cs st d' := by
  have hl := h.lt
  have hg := ht.grown
  exact ⟨⟨h.wk.bel.grown hg h.wk.bel.size (fun j hj => by injection hj with hj; have := h.wk.new; omega), h.wk.new, (turned_block ht (by omega)).trans h.wk.blk, h.wk.small⟩,
    hd, h.chg.turned ht (fun hl2 => by omega), hn, hs, (turned_block ht (by omega)).trans h.box, h.lt⟩
theorem BkC.cnt (h : BkC w0 w wr wb gb V t cs st d) : d.length ≤ V.length + 1 := by
  have h1 := nodup_len (m := t :: V.map Vt.id) h.nd (fun v hv => by
    rcases h.sub v hv with e | ⟨u, hu, e⟩
    · exact List.mem_cons.2 (.inl e)
    · exact List.mem_cons.2 (.inr (List.mem_map.2 ⟨u, hu, e⟩)))
  unfold keysD at h1
  simpa using h1
end
/-- a walk that is spent had too few steps -/
def Sp (st0 : Option Nat) (cb : Nat) : Prop := ∀ k, st0 = some k → k < cb
theorem payS_none {k c : Nat} (h : payS (some k) c = none) : k < c := by
  by_cases hc : c ≤ k
  · simp [payS, hc] at h
  · omega
theorem Sp.of {st0 : Option Nat} {c cb : Nat} (h : payS st0 c = none) (hc : ∀ k, st0 = some k → c ≤ cb) : Sp st0 cb := fun k hk => by
  rw [hk] at h
  have := payS_none h
  have := hc k hk
  omega
theorem cost_cb {E : List Eg} {V : List Vt} {X : List Int} (out : Bool) (hn : X.Nodup) (hs : ∀ v ∈ X, ∃ u ∈ V, u.id = v) : cost E out X ≤ V.length + E.length := by
  have h1 := cost_le out hn E
  have h2 := nodup_len (m := V.map Vt.id) hn (fun v hv => by obtain ⟨u, hu, e⟩ := hs v hv; exact List.mem_map.2 ⟨u, hu, e⟩)
  rw [List.length_map] at h2
  omega
end Go.Proofs.Ytaanohgkdpohhaa
namespace Go.Proofs.Ytaanohgkdpohhaa
open Go.RowKit Go.Maps

/-- V holds a vertex -/
def HasV (V : List Vt) (v : Int) : Prop := ∃ u ∈ V, u.id = v
structure Bq where
  V : List Vt
  E : List Eg
  lab : ByteArray
  t : Int
  st0 : Option Nat
  ok : PGo V E
  tin : st0 = none ∨ HasV V t
/-- between rounds -/
def OutM (q : Bq) (row : List Int) (n : Nat) (st : Option Nat) (d : DM) : Prop := 1 ≤ n ∧ row.Nodup ∧ (∀ v ∈ row, v ∈ keysD d) ∧ (st = none → Sp q.st0 (q.V.length + q.E.length)) ∧ (st.isSome = true → ∃ X, payS q.st0 (cost q.E false X) = st ∧ Lvl (edB q.E q.lab) q.t n X row d ∧ ∀ v ∈ X ++ row, HasV q.V v)
/-- between vertices of a round -/
def InM (q : Bq) (X row : List Int) (n k : Nat) (st : Option Nat) (d : DM) (next : List Int) : Prop := 1 ≤ n ∧ next.Nodup ∧ (∀ v ∈ next, v ∈ keysD d) ∧ (st = none → Sp q.st0 (q.V.length + q.E.length)) ∧ (st.isSome = true → payS q.st0 (cost q.E false (X ++ row.take k)) = st ∧ Mid (edB q.E q.lab) q.t n X row next d k ∧ ∀ v ∈ X ++ row ++ next, HasV q.V v)
/-- between those next to one vertex -/
def InI (q : Bq) (X row : List Int) (n k : Nat) (st : Option Nat) (d : DM) (next L : List Int) (j : Nat) : Prop := 1 ≤ n ∧ next.Nodup ∧ (∀ v ∈ next, v ∈ keysD d) ∧ (st = none → Sp q.st0 (q.V.length + q.E.length)) ∧ (st.isSome = true → payS q.st0 (cost q.E false (X ++ row.take (k + 1))) = st ∧ Mid (edB q.E q.lab) q.t n X row next d k ∧ (∀ v ∈ X ++ row ++ next, HasV q.V v) ∧ ∀ v ∈ L.take j, v ∈ keysD d)
section
variable {q : Bq} {X row next L : List Int} {n k j : Nat} {st : Option Nat} {d : DM}
theorem payS_isSome {s : Option Nat} {c : Nat} (h : (payS s c).isSome = true) : s.isSome = true := by
  cases s with
  | none => exact h
  | some k => rfl
theorem Bq.start (q : Bq) : OutM q [q.t] 1 q.st0 [(q.t, 0)] :=
  ⟨Nat.le_refl _, by simp, (fun v hv => by simpa [keysD] using hv), (fun h k hk => by rw [h] at hk; cases hk), fun h => ⟨[], payS_zero _, Lvl.start _ _, fun v hv => by
    rcases q.tin with h2 | h2
    · rw [h2] at h; cases h
    · obtain rfl : v = q.t := by simpa using hv
      exact h2⟩⟩
theorem OutM.open' (h : OutM q row n st d) : ∃ X, InM q X row n 0 st d [] := by
  obtain ⟨h1, _, _, h2, h3⟩ := h
  cases st with
  | none => exact ⟨[], h1, List.nodup_nil, (fun v hv => by cases hv), h2, (fun e => by cases e)⟩
  | some s =>
    obtain ⟨X, a, b, c⟩ := h3 rfl
    exact ⟨X, h1, List.nodup_nil, (fun v hv => by cases hv), h2, fun _ => ⟨by simpa using a, b.mid, by simpa using c⟩⟩
theorem InM.open' {y : Int} (h : InM q X row n k st d next) (hy : row[k]? = some y) :
    InI q X row n k (payS st (1 + (idsE q.E (sideP false y)).length)) d next L 0 := by
  obtain ⟨h1, h0, h00, h2, h3⟩ := h
  have hc : ∀ {s}, payS q.st0 (cost q.E false (X ++ row.take k)) = s → payS s (1 + (idsE q.E (sideP false y)).length) = payS q.st0 (cost q.E false (X ++ row.take (k + 1))) := fun {s} e => by
    rw [← e, payS_add]
    congr 1
    rw [List.take_add_one, hy, Option.toList_some, ← List.append_assoc, cost_app _ _ _ [y], cost_one]
  refine ⟨h1, h0, h00, fun hn => ?_, fun hs => ?_⟩
  · cases hst : st with
    | none => exact h2 hst
    | some s =>
      obtain ⟨a, b, c⟩ := h3 (by rw [hst]; rfl)
      rw [hc a] at hn
      have hsub : (X ++ row.take (k + 1)).Sublist (X ++ row ++ next) := by
        rw [List.append_assoc]
        exact (List.Sublist.refl X).append ((List.take_sublist _ _).trans (List.sublist_append_left _ _))
      exact Sp.of hn (fun k' _ => cost_cb false (hsub.nodup b.nd) (fun v hv => c v (hsub.subset hv)))
  · obtain ⟨a, b, c⟩ := h3 (payS_isSome hs)
    exact ⟨(hc a).symm, b, c, fun v hv => by simp at hv⟩
theorem InI.seen {x : Int} (h : InI q X row n k st d next L j) (hx : L[j]? = some x) (hm : x ∈ keysD d) : InI q X row n k st d next L (j + 1) := by
  obtain ⟨h1, h0, h00, h2, h3⟩ := h
  refine ⟨h1, h0, h00, h2, fun hs => ?_⟩
  obtain ⟨a, b, c, e⟩ := h3 hs
  refine ⟨a, b, c, fun v hv => ?_⟩
  rw [List.take_add_one, hx] at hv
  rcases List.mem_append.1 hv with hv | hv
  · exact e v hv
  · obtain rfl : v = x := by simpa using hv
    exact hm
theorem InI.put {x y : Int} (h : InI q X row n k st d next L j) (hx : L[j]? = some x) (hm : x ∉ keysD d) (hy : row[k]? = some y) (hR : st.isSome = true → edB q.E q.lab x y) : InI q X row n k st (d ++ [(x, n)]) (next ++ [x]) L (j + 1) := by
  obtain ⟨h1, h0, h00, h2, h3⟩ := h
  have hk : keysD (d ++ [(x, n)]) = keysD d ++ [x] := by unfold keysD; rw [List.map_append]; rfl
  refine ⟨h1, List.nodup_append.2 ⟨h0, by simp, fun a ha b hb e => ?_⟩, fun v hv => ?_, h2, fun hs => ?_⟩
  · obtain rfl : b = x := by simpa using hb
    exact hm (e ▸ h00 a ha)
  · rw [hk]
    rcases List.mem_append.1 hv with hv | hv
    · exact List.mem_append.2 (.inl (h00 v hv))
    · exact List.mem_append.2 (.inr hv)
  obtain ⟨a, b, c, e⟩ := h3 hs
  refine ⟨a, b.seen (List.mem_of_getElem? hy) (hR hs) hm, fun v hv => ?_, fun v hv => ?_⟩
  · rw [← List.append_assoc] at hv
    rcases List.mem_append.1 hv with hv | hv
    · exact c v hv
    · obtain rfl : v = x := by simpa using hv
      obtain ⟨ed, he, e1, _, _⟩ := hR hs
      obtain ⟨⟨u, hu, e2⟩, _⟩ := q.ok.ends ed he
      exact ⟨u, hu, e2.trans e1⟩
  · rw [hk]
    rw [List.take_add_one, hx] at hv
    rcases List.mem_append.1 hv with hv | hv
    · exact List.mem_append.2 (.inl (e v hv))
    · exact List.mem_append.2 (.inr hv)
theorem InI.done {y : Int} (h : InI q X row n k st d next L L.length) (hy : row[k]? = some y) (hL : st.isSome = true → L = nextL q.E false q.lab y) : InM q X row n (k + 1) st d next := by
  obtain ⟨h1, h0, h00, h2, h3⟩ := h
  refine ⟨h1, h0, h00, h2, fun hs => ?_⟩
  obtain ⟨a, b, c, e⟩ := h3 hs
  refine ⟨a, b.step hy (fun v hR => e v ?_), c⟩
  rw [List.take_length, hL hs, mem_next q.ok.se]
  exact hR
theorem InM.done (h : InM q X row n row.length st d next) : OutM q next (n + 1) st d := by
  obtain ⟨h1, h0, h00, h2, h3⟩ := h
  refine ⟨by omega, h0, h00, h2, fun hs => ?_⟩
  obtain ⟨a, b, c⟩ := h3 hs
  exact ⟨X ++ row, by simpa using a, b.lvl, c⟩
/-- at the end -/
def BackM (q : Bq) (from' : Int) (most : Nat) (st : Option Nat) (d : DM) : Prop := (st = none → Sp q.st0 (q.V.length + q.E.length)) ∧ (st.isSome = true → ∃ c, payS q.st0 c = st ∧ c ≤ q.V.length + q.E.length ∧ ∃ m, m ≤ most ∧ Whole (edB q.E q.lab) q.t m d ∧ (from' ∉ keysD d → ∀ k, k ≤ most → ¬ Dist (edB q.E q.lab) k from' q.t))
theorem OutM.end' (h : OutM q row n st d) {from' : Int} {most : Nat} (hn : n ≤ most + 1) (hw : n = most + 1 ∨ row = [] ∨ from' ∈ keysD d) : BackM q from' most st d := by
  obtain ⟨h1, _, _, h2, h3⟩ := h
  refine ⟨h2, fun hs => ?_⟩
  obtain ⟨X, a, b, c⟩ := h3 hs
  have hsub : X.Sublist (X ++ row) := List.sublist_append_left _ _
  refine ⟨_, a, cost_cb false (hsub.nodup b.nd) (fun v hv => c v (hsub.subset hv)), n - 1, by omega, b.whole, fun hno k hk hd => ?_⟩
  by_cases hkn : k ≤ n - 1
  · have h5 := (b.whole.all from' k).2 ⟨hkn, hd⟩
    rw [lookD_none.2 hno] at h5
    cases h5
  · rcases hw with hw | hw | hw
    · omega
    · have hg := dist_gap (R := edB q.E q.lab) (t := q.t) (m := n - 1) (fun v hd2 => by have := (b.rowF v).2 hd2; rw [hw] at this; cases this) (k - (n - 1)) from'
      rw [show n - 1 + (k - (n - 1)) = k by omega] at hg
      exact hg hd
    · exact hno hw
end
end Go.Proofs.Ytaanohgkdpohhaa
namespace Go.Proofs.Ytaanohgkdpohhaa
open Go.RowKit Go.Maps

def pAsk (fr t : Int) (lab : ByteArray) (most : Nat) : Array Value := #[.int .i64 fr, .int .i64 t, .string lab, .int .i64 (most : Int)]
/-- what back has in memory: its walk, its map, its rows -/
structure InC (w0 w wr : World) (wb gb : Nat) (V : List Vt) (t : Int) (cs : Array Value) (st : Option Nat) (d : DM) (rv : Value) (row : List Int) (nv : Value) (next : List Int) (lv : Value) (L : List Int) : Prop where
  bk : BkC w0 w wr wb gb V t cs st d
  or : kI.Own wr (w.heap.size + 2) rv row
  on : kI.Own wr (w.heap.size + 2) nv next
  ol : kI.Own wr (w.heap.size + 2) lv L
  s1 : ∀ j, nv.ownBlock = some j → rv.ownBlock ≠ some j
  s2 : ∀ j, nv.ownBlock = some j → lv.ownBlock ≠ some j
section
variable {w0 w wr w' : World} {wb gb : Nat} {V : List Vt} {t : Int} {cs : Array Value} {st st' : Option Nat} {d d' : DM} {rv nv lv lv' v8 : Value} {row next L L' : List Int}
theorem BkC.size (h : BkC w0 w wr wb gb V t cs st d) : w.heap.size + 2 ≤ wr.heap.size := by
  have := h.dm.lt
  omega
theorem InC.put (h : InC w0 w wr wb gb V t cs st d rv row nv next lv L) (ht : wr.mapTurned w' (w.heap.size + 1)) (hd : DmC w' (w.heap.size + 1) d') (hn : (keysD d').Nodup) (hs : ∀ v ∈ keysD d', v = t ∨ ∃ u ∈ V, u.id = v) : InC w0 w w' wb gb V t cs st d' rv row nv next lv L := by
  have key : ∀ {v : Value} {l : List Int}, kI.Own wr (w.heap.size + 2) v l → kI.Own w' (w.heap.size + 2) v l := fun {v l} o => o.grown ht.grown (fun j hj e => by
    have := (o.lt j hj).1
    injection e with e
    omega)
  exact ⟨h.bk.turn ht hd hn hs, key h.or, key h.on, key h.ol, h.s1, h.s2⟩
theorem InC.alloc (h : InC w0 w wr wb gb V t cs st d rv row nv next lv L) (X : Obj) : InC w0 w (wr.alloc X) wb gb V t cs st d rv row nv next lv L :=
  ⟨h.bk.below (below_box wr X), h.or.alloc X, h.on.alloc X, h.ol.alloc X, h.s1, h.s2⟩
theorem InC.app {X : List Int} (h : InC w0 w wr wb gb V t cs st d rv row nv next lv L) (ho : kI.Own w' (w.heap.size + 2) v8 X) (hg : wr.grownBy w' nv.ownBlock) (hk : v8.ownBlock = nv.ownBlock ∨ v8.ownBlock = some wr.heap.size) : InC w0 w w' wb gb V t cs st d rv row v8 X lv L := by
  refine ⟨h.bk.grown hg (fun j hj => (h.on.lt j hj).1), h.or.grown hg (fun j hj e => h.s1 j e.symm hj), ho, h.ol.grown hg (fun j hj e => h.s2 j e.symm hj), fun j hj e => ?_, fun j hj e => ?_⟩
  · rcases hk with hk | hk
    · exact h.s1 j (hk ▸ hj) e
    · rw [hk] at hj
      injection hj with hj
      have := (h.or.lt j e).2
      omega
  · rcases hk with hk | hk
    · exact h.s2 j (hk ▸ hj) e
    · rw [hk] at hj
      injection hj with hj
      have := (h.ol.lt j e).2
      omega
theorem InC.call (h : InC w0 w wr wb gb V t cs st d rv row nv next lv L) (hs : WkS w0 w' wb gb st') (hc : Chg wr w' (fun i => i = wb)) (ho : kI.Own w' wr.heap.size lv' L') : InC w0 w w' wb gb V t cs st' d rv row nv next lv' L' := by
  have hl := h.bk.lt
  have key : ∀ {v : Value} {l : List Int}, kI.Own wr (w.heap.size + 2) v l → kI.Own w' (w.heap.size + 2) v l := fun {v l} o => o.chg hc (fun j hj e => by
    have := (o.lt j hj).1
    omega)
  refine ⟨h.bk.next hs hc, key h.or, key h.on, ho.mono h.bk.size, h.s1, fun j hj e => ?_⟩
  have h1 := (h.on.lt j hj).2
  have h2 := (ho.lt j e).1
  omega
theorem InC.noL (h : InC w0 w wr wb gb V t cs st d rv row nv next lv L) : InC w0 w wr wb gb V t cs st d rv row nv next (.slice none 0 0) [] :=
  ⟨h.bk, h.or, h.on, RowK.Own.nil kI _ _, h.s1, fun j _ e => by cases e⟩
theorem InC.turn (h : InC w0 w wr wb gb V t cs st d rv row nv next lv L) : InC w0 w wr wb gb V t cs st d nv next (.slice none 0 0) [] (.slice none 0 0) [] :=
  ⟨h.bk, h.on, RowK.Own.nil kI _ _, RowK.Own.nil kI _ _, (fun j e => by cases e), fun j e => by cases e⟩
theorem BkC.cells {fr t' : Int} {lab : ByteArray} {most : Nat} (h : BkC w0 w wr wb gb V t (pAsk fr t' lab most) st d) :
    wr.cell? ⟨w.heap.size, 0, none⟩ = some (.int .i64 fr) ∧ wr.cell? ⟨w.heap.size, 1, none⟩ = some (.int .i64 t') ∧ wr.cell? ⟨w.heap.size, 2, none⟩ = some (.string lab) ∧ wr.cell? ⟨w.heap.size, 3, none⟩ = some (.int .i64 (most : Int)) :=
  ⟨by rw [cell_of_blk h.box]; rfl, by rw [cell_of_blk h.box]; rfl, by rw [cell_of_blk h.box]; rfl, by rw [cell_of_blk h.box]; rfl⟩
/-- a map's store, and what is then kept -/
theorem InC.store {x : Int} {n : Nat} (h : InC w0 w wr wb gb V t cs st d rv row nv next lv L) (hx : x ∉ keysD d) (hi : I64 x) (hin : ∃ u ∈ V, u.id = x) (hV : V.length ≤ 1000000) :
    ∃ w', (Instr.mapUpdate 153 (.map (some (w.heap.size + 1))) (.int .i64 x) (.int .i64 (n : Int))).run Try.prog wr = .ok () w' ∧ InC w0 w w' wb gb V t cs st (d ++ [(x, n)]) rv row nv next lv L ∧ w'.heap.size = wr.heap.size := by
  obtain ⟨f, m, hf⟩ := h.bk.dm
  have hlt : d.length < maxLen := by
    have h1 := h.bk.cnt
    have h2 : (1000001 : Nat) < maxLen := by decide
    omega
  obtain ⟨w', hst, m2, t2⟩ := m.store (val := .int .i64 (n : Int)) lawI Try.underlying153 hlt (keyI hi)
  have hk : keysD (d ++ [(x, n)]) = keysD d ++ [x] := by unfold keysD; rw [List.map_append]; rfl
  refine ⟨w', hst, h.put t2 (DmC.put hf hx hi m2) ?_ ?_, turned_size t2⟩
  · rw [hk]
    refine List.nodup_append.2 ⟨h.bk.nd, by simp, fun a ha b hb e => hx ?_⟩
    obtain rfl : b = x := by simpa using hb
    exact e ▸ ha
  · intro v hv
    rw [hk] at hv
    rcases List.mem_append.1 hv with hv | hv
    · exact h.bk.sub v hv
    · obtain rfl : v = x := by simpa using hv
      exact .inr hin
end
def BkPost (w0 w : World) (wb gb : Nat) (q : Bq) (fr : Int) (most : Nat) (e : Ending) (w' : World) : Prop :=
  ∃ d st, e = .returned (.map (some (w.heap.size + 1))) ∧ DmC w' (w.heap.size + 1) d ∧ WkS w0 w' wb gb st ∧ Chg w w' (fun i => i = wb) ∧ BackM q fr most st d
def OutR (w0 w : World) (wb gb : Nat) (q : Bq) (fr : Int) (most : Nat) (rv nv : Value) (wr : World) : Prop :=
  ∃ (row : List Int) (n : Nat) (st : Option Nat) (d : DM), nv = .int .i64 (n : Int) ∧ n ≤ most + 1 ∧ InC w0 w wr wb gb q.V q.t (pAsk fr q.t q.lab most) st d rv row (.slice none 0 0) [] (.slice none 0 0) [] ∧ OutM q row n st d
def MidR (w0 w : World) (wb gb : Nat) (q : Bq) (fr : Int) (most : Nat) (X row : List Int) (n : Nat) (rv nv iv : Value) (wr : World) : Prop :=
  ∃ (k : Nat) (next : List Int) (st : Option Nat) (d : DM), iv = .int .i64 (k : Int) ∧ k ≤ row.length ∧ InC w0 w wr wb gb q.V q.t (pAsk fr q.t q.lab most) st d rv row nv next (.slice none 0 0) [] ∧ InM q X row n k st d next
def InnR (w0 w : World) (wb gb : Nat) (q : Bq) (fr : Int) (most : Nat) (X row : List Int) (n k : Nat) (st : Option Nat) (L : List Int) (rv lv nv jv : Value) (wr : World) : Prop :=
  ∃ (j : Nat) (next : List Int) (d : DM), jv = .int .i64 (j : Int) ∧ j ≤ L.length ∧ InC w0 w wr wb gb q.V q.t (pAsk fr q.t q.lab most) st d rv row nv next lv L ∧ InI q X row n k st d next L j
end Go.Proofs.Ytaanohgkdpohhaa
