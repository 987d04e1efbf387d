/- Layer 19, plainly: levels of vertices from which a way leads to one; what steps cost. No program here beyond plain lists. -/
import Derived.Test.YtaanohgkdpohhaaWk3
import Derived.Test.YtaanohgkdpohhaaPathPlain
namespace Go.Proofs.Ytaanohgkdpohhaa
open Go.RowKit Go.Maps

/-- is there an edge of a label (any, if empty)? -/
def edB (E : List Eg) (lab : ByteArray) (a b : Int) : Prop := ∃ e ∈ E, e.fr = a ∧ e.to = b ∧ (lab.toList = [] ∨ e.label = lab)
theorem mem_nx {E : List Eg} (hs : SortB Eg.id E) {out : Bool} {lab : ByteArray} {n x : Int} : x ∈ (idsE E (sideP out n)).flatMap (nx E out lab) ↔ (if out then edB E lab n x else edB E lab x n) := by
  rw [List.mem_flatMap]
  constructor
  · rintro ⟨i, hi, hx⟩
    obtain ⟨e, he, hp, _, _, hg⟩ := ids_found hs hi
    unfold nx at hx
    rw [hg] at hx
    split at hx
    · rename_i hl
      rw [List.mem_singleton] at hx
      cases out
      · exact ⟨e, he, by simpa using hx.symm, by simpa [sideP, inP] using hp, hl⟩
      · exact ⟨e, he, by simpa [sideP, outP] using hp, by simpa using hx.symm, hl⟩
    · cases hx
  · intro h
    have h' : ∃ e ∈ E, sideP out n e = true ∧ (if out then e.to else e.fr) = x ∧ (lab.toList = [] ∨ e.label = lab) := by
      cases out
      · obtain ⟨e, he, h1, h2, h3⟩ := h
        exact ⟨e, he, by simp [sideP, inP, h2], h1, h3⟩
      · obtain ⟨e, he, h1, h2, h3⟩ := h
        exact ⟨e, he, by simp [sideP, outP, h1], h2, h3⟩
    obtain ⟨e, he, h1, h2, h3⟩ := h'
    have hid : e.id ∈ idsE E (sideP out n) := List.mem_map.2 ⟨e, List.mem_filter.2 ⟨he, h1⟩, rfl⟩
    refine ⟨e.id, hid, ?_⟩
    have hg : getE E e.id = e := by unfold getE; rw [findB_mem hs he]; rfl
    unfold nx
    rw [hg, if_pos h3, h2]
    simp
theorem mem_next {E : List Eg} (hs : SortB Eg.id E) {out : Bool} {lab : ByteArray} {n x : Int} : x ∈ nextL E out lab n ↔ (if out then edB E lab n x else edB E lab x n) := by
  unfold nextL
  rw [(setI_spec _).2, mem_nx hs]
theorem next_inc (E : List Eg) (out : Bool) (lab : ByteArray) (n : Int) : IncI (nextL E out lab n) := (setI_spec _).1
/-- what expanding vertices costs -/
def cost (E : List Eg) (out : Bool) : List Int → Nat
  | [] => 0
  | v :: l => 1 + (idsE E (sideP out v)).length + cost E out l
theorem cost_app (E : List Eg) (out : Bool) : ∀ a b : List Int, cost E out (a ++ b) = cost E out a + cost E out b
  | [], b => by simp [cost]
  | x :: a, b => by
    show 1 + _ + cost E out (a ++ b) = _
    rw [cost_app E out a b]
    show _ = 1 + _ + cost E out a + cost E out b
    omega
theorem cost_one (E : List Eg) (out : Bool) (v : Int) : cost E out [v] = 1 + (idsE E (sideP out v)).length := rfl
theorem ids_cons (e : Eg) (E : List Eg) (p : Eg → Bool) : (idsE (e :: E) p).length = (if p e then 1 else 0) + (idsE E p).length := by
  unfold idsE
  rw [List.filter_cons]
  split <;> simp; omega
theorem cost_nil (out : Bool) : ∀ l : List Int, cost [] out l = l.length
  | [] => rfl
  | v :: l => by
    show 1 + 0 + cost [] out l = l.length + 1
    rw [cost_nil out l]; omega
def sideV (out : Bool) (e : Eg) : Int := if out then e.fr else e.to
theorem sideP_iff (out : Bool) (v : Int) (e : Eg) : sideP out v e = true ↔ sideV out e = v := by
  cases out <;> simp [sideP, sideV, inP, outP]
theorem cost_cons (e : Eg) (E : List Eg) (out : Bool) : ∀ l : List Int, l.Nodup → cost (e :: E) out l ≤ cost E out l + (if sideV out e ∈ l then 1 else 0)
  | [], _ => by simp [cost]
  | v :: l, h => by
    obtain ⟨h1, h2⟩ := List.nodup_cons.1 h
    have ih := cost_cons e E out l h2
    show 1 + (idsE (e :: E) (sideP out v)).length + cost (e :: E) out l ≤ 1 + (idsE E (sideP out v)).length + cost E out l + _
    rw [ids_cons]
    by_cases hs : sideP out v e = true
    · have hv := (sideP_iff out v e).1 hs
      have hn : sideV out e ∉ l := by rw [hv]; exact h1
      rw [if_neg hn] at ih
      rw [if_pos hs, if_pos (by rw [hv]; simp)]
      omega
    · rw [if_neg hs]
      by_cases hm : sideV out e ∈ l
      · rw [if_pos hm] at ih
        rw [if_pos (List.mem_cons.2 (.inr hm))]
        omega
      · rw [if_neg hm] at ih
        split <;> omega
theorem cost_le (out : Bool) {l : List Int} (h : l.Nodup) : ∀ E : List Eg, cost E out l ≤ l.length + E.length
  | [] => by rw [cost_nil]; simp
  | e :: E => by
    have h1 := cost_cons e E out l h
    have h2 := cost_le out h E
    have : (if sideV out e ∈ l then 1 else 0) ≤ 1 := by split <;> omega
    simp only [List.length_cons]
    omega
/-- different numbers, all among some -/
theorem nodup_len {l m : List Int} (h : l.Nodup) (hs : ∀ x ∈ l, x ∈ m) : l.length ≤ m.length := by
  induction l generalizing m with
  | nil => simp
  | cons x l ih =>
    obtain ⟨h1, h2⟩ := List.nodup_cons.1 h
    have hx := hs x (List.mem_cons.2 (.inl rfl))
    have := ih (m := m.erase x) h2 (fun y hy => (List.mem_erase_of_ne (fun e => h1 (by rw [← e]; exact hy))).2 (hs y (List.mem_cons.2 (.inr hy))))
    rw [List.length_erase_of_mem hx] at this
    have := List.length_pos_of_mem hx
    simp; omega
/-- numbers by keys -/
abbrev DM := List (Int × Nat)
def lookD (d : DM) (n : Int) : Option Nat := (d.find? (fun p => p.1 == n)).map (·.2)
def keysD (d : DM) : List Int := d.map (·.1)
theorem lookD_none {d : DM} {n : Int} : lookD d n = none ↔ n ∉ keysD d := by
  unfold lookD keysD
  rw [Option.map_eq_none_iff, List.find?_eq_none]
  constructor
  · intro h hm
    obtain ⟨p, hp, e⟩ := List.mem_map.1 hm
    exact h p hp (by simp [e])
  · intro h p hp e
    exact h (List.mem_map.2 ⟨p, hp, by simpa using e⟩)
theorem lookD_some {d : DM} {n : Int} {k : Nat} (h : lookD d n = some k) : (n, k) ∈ d := by
  unfold lookD at h
  obtain ⟨p, hp, e⟩ := Option.map_eq_some_iff.1 h
  have h1 := List.mem_of_find?_eq_some hp
  have h2 := List.find?_some hp
  simp at h2
  rw [← h2, ← e]
  exact h1
theorem lookD_app {d : DM} {x n : Int} {k : Nat} (hx : x ∉ keysD d) : lookD (d ++ [(x, k)]) n = if n = x then some k else lookD d n := by
  unfold lookD
  rw [List.find?_append]
  by_cases e : n = x
  · subst e
    have := lookD_none.2 hx
    unfold lookD at this
    rw [Option.map_eq_none_iff] at this
    rw [this]
    simp
  · rw [if_neg e]
    cases hf : d.find? (fun p => p.1 == n) with
    | none => simp [Ne.symm e]
    | some p => simp
theorem lookD_mem {d : DM} (hn : (keysD d).Nodup) {n : Int} {k : Nat} (h : (n, k) ∈ d) : lookD d n = some k := by
  induction d with
  | nil => cases h
  | cons p d ih =>
    obtain ⟨h1, h2⟩ := List.nodup_cons.1 hn
    unfold lookD
    rw [List.find?_cons]
    rcases List.mem_cons.1 h with rfl | h
    · simp
    · have : ¬ p.1 = n := fun e => h1 (List.mem_map.2 ⟨_, h, e.symm⟩)
      have h3 : (p.1 == n) = false := by simpa using this
      rw [h3]
      exact ih h2 h
/-- levels that are whole: all from which a way of fewer than n edges leads to t; row: those of n - 1 edges -/
structure Lvl (R : Int → Int → Prop) (t : Int) (n : Nat) (X row : List Int) (d : DM) : Prop where
  keys : keysD d = X ++ row
  nd : (X ++ row).Nodup
  all : ∀ v k, k < n → (lookD d v = some k ↔ Dist R k v t)
  few : ∀ v k, lookD d v = some k → k < n
  rowF : ∀ v, v ∈ row ↔ Dist R (n - 1) v t
  pos : 1 ≤ n
theorem Lvl.start (R : Int → Int → Prop) (t : Int) : Lvl R t 1 [] [t] [(t, 0)] := by
  refine ⟨rfl, List.nodup_cons.2 ⟨by simp, List.nodup_nil⟩, fun v k hk => ?_, fun v k h => ?_, fun v => ?_, Nat.le_refl _⟩
  · obtain rfl : k = 0 := by omega
    rw [dist_zero]
    unfold lookD
    by_cases e : t = v
    · simp [e]
    · simp [e, Ne.symm e]
  · have := lookD_some h
    simp at this
    omega
  · rw [List.mem_singleton, Nat.sub_self, dist_zero]
/-- in the midst of a round: i of the row are expanded -/
structure Mid (R : Int → Int → Prop) (t : Int) (n : Nat) (X row next : List Int) (d : DM) (i : Nat) : Prop where
  keys : keysD d = X ++ row ++ next
  nd : (X ++ row ++ next).Nodup
  all : ∀ v k, k < n → (lookD d v = some k ↔ Dist R k v t)
  few : ∀ v k, lookD d v = some k → k ≤ n
  last : ∀ v, lookD d v = some n ↔ v ∈ next
  rowF : ∀ v, v ∈ row ↔ Dist R (n - 1) v t
  nextF : ∀ v ∈ next, Dist R n v t
  done : ∀ v y, y ∈ row.take i → R v y → v ∈ keysD d
  pos : 1 ≤ n
theorem Lvl.mid {R : Int → Int → Prop} {t : Int} {n : Nat} {X row : List Int} {d : DM} (h : Lvl R t n X row d) : Mid R t n X row [] d 0 :=
  ⟨by rw [h.keys, List.append_nil], by rw [List.append_nil]; exact h.nd, h.all, fun v k hk => Nat.le_of_lt (h.few v k hk), fun v => ⟨fun hl => absurd (h.few v n hl) (Nat.lt_irrefl _), fun hv => by cases hv⟩, h.rowF, (fun v hv => by cases hv), (fun v y hy => by simp at hy), h.pos⟩
theorem Mid.seen {R : Int → Int → Prop} {t : Int} {n : Nat} {X row next : List Int} {d : DM} {i : Nat} (h : Mid R t n X row next d i) {x y : Int} (hy : y ∈ row) (hR : R x y) (hx : x ∉ keysD d) : Mid R t n X row (next ++ [x]) (d ++ [(x, n)]) i := by
  have hno : ∀ k, k < n → ¬ Dist R k x t := fun k hk hd => by
    have := (h.all x k hk).2 hd
    rw [lookD_none.2 hx] at this
    cases this
  have hD : Dist R n x t := by
    have h1 := (h.rowF y).1 hy
    have := h1.more hR (fun k hk => hno k (by have := h.pos; omega))
    rw [Nat.sub_add_cancel h.pos] at this
    exact this
  have hxn : x ∉ next := fun e => hx (by rw [h.keys]; exact List.mem_append.2 (.inr e))
  have hk : keysD (d ++ [(x, n)]) = X ++ row ++ (next ++ [x]) := by
    unfold keysD
    rw [List.map_append]
    show keysD d ++ [x] = _
    rw [h.keys, List.append_assoc (X ++ row)]
  refine ⟨hk, ?_, fun v k hkn => ?_, fun v k hv => ?_, fun v => ?_, h.rowF, fun v hv => ?_, fun v z hz hR2 => ?_, h.pos⟩
  · rw [← List.append_assoc]
    refine List.nodup_append.2 ⟨h.nd, by simp, fun a ha b hb => ?_⟩
    obtain rfl : b = x := by simpa using hb
    intro e
    exact hx (by rw [h.keys, ← e]; exact ha)
  · rw [lookD_app hx]
    by_cases e : v = x
    · subst e
      rw [if_pos rfl]
      constructor
      · intro h2; injection h2 with h2; omega
      · intro h2; exact absurd h2 (hno k hkn)
    · rw [if_neg e]; exact h.all v k hkn
  · rw [lookD_app hx] at hv
    split at hv
    · injection hv with hv; omega
    · exact h.few v k hv
  · rw [lookD_app hx, List.mem_append, List.mem_singleton]
    by_cases e : v = x
    · simp [e]
    · rw [if_neg e, h.last]
      simp [e]
  · rcases List.mem_append.1 hv with hv | hv
    · exact h.nextF v hv
    · obtain rfl : v = x := by simpa using hv
      exact hD
  · have := h.done v z hz hR2
    rw [hk]
    rw [h.keys] at this
    rw [← List.append_assoc]
    exact List.mem_append.2 (.inl this)
theorem Mid.step {R : Int → Int → Prop} {t : Int} {n : Nat} {X row next : List Int} {d : DM} {i : Nat} {y : Int} (h : Mid R t n X row next d i) (hy : row[i]? = some y) (hall : ∀ v, R v y → v ∈ keysD d) : Mid R t n X row next d (i + 1) :=
  ⟨h.keys, h.nd, h.all, h.few, h.last, h.rowF, h.nextF, fun v z hz hR => by
    rw [List.take_add_one, hy] at hz
    rcases List.mem_append.1 hz with hz | hz
    · exact h.done v z hz hR
    · obtain rfl : z = y := by simpa using hz
      exact hall v hR, h.pos⟩
theorem mem_keysD {d : DM} {v : Int} : v ∈ keysD d ↔ ∃ k, lookD d v = some k := by
  cases hl : lookD d v with
  | none => exact ⟨fun hm => absurd hm (lookD_none.1 hl), fun ⟨k, hk⟩ => by cases hk⟩
  | some k => exact ⟨fun _ => ⟨k, rfl⟩, fun _ => Classical.byContradiction fun hn => by rw [lookD_none.2 hn] at hl; cases hl⟩
theorem Mid.lvl {R : Int → Int → Prop} {t : Int} {n : Nat} {X row next : List Int} {d : DM} (h : Mid R t n X row next d row.length) : Lvl R t (n + 1) (X ++ row) next d := by
  have hnext : ∀ v, Dist R n v t → v ∈ next := fun v hd => by
    have hp := h.pos
    obtain ⟨m, rfl⟩ : ∃ m, n = m + 1 := ⟨n - 1, by omega⟩
    obtain ⟨y, e, hy⟩ := hd.step
    have hyr : y ∈ row := (h.rowF y).2 (by simpa using hy)
    obtain ⟨k, hl⟩ := mem_keysD.1 (h.done v y (by rw [List.take_length]; exact hyr) e)
    have hle := h.few v k hl
    by_cases e2 : k = m + 1
    · subst e2
      exact (h.last v).1 hl
    · have h2 := (h.all v k (by omega)).1 hl
      have := h2.uniq hd
      omega
  refine ⟨h.keys, h.nd, fun v k hk => ?_, (fun v k hl => by have := h.few v k hl; omega), fun v => ?_, by omega⟩
  · by_cases e : k < n
    · exact h.all v k e
    · obtain rfl : k = n := by omega
      rw [h.last]
      exact ⟨h.nextF v, hnext v⟩
  · rw [Nat.add_sub_cancel]
    exact ⟨h.nextF v, hnext v⟩
/-- what back knows at its end -/
structure Whole (R : Int → Int → Prop) (t : Int) (m : Nat) (d : DM) : Prop where
  all : ∀ v k, lookD d v = some k ↔ k ≤ m ∧ Dist R k v t
theorem Lvl.whole {R : Int → Int → Prop} {t : Int} {n : Nat} {X row : List Int} {d : DM} (h : Lvl R t n X row d) : Whole R t (n - 1) d :=
  ⟨fun v k => ⟨fun hl => by
    have hk := h.few v k hl
    exact ⟨by omega, (h.all v k hk).1 hl⟩, fun ⟨hk, hd⟩ => (h.all v k (by have := h.pos; omega)).2 hd⟩⟩
/-- no vertex at a distance: none farther off -/
theorem dist_gap {R : Int → Int → Prop} {t : Int} {m : Nat} (h : ∀ v, ¬ Dist R m v t) : ∀ j v, ¬ Dist R (m + j) v t
  | 0, v => h v
  | j + 1, v => fun hd => by
    obtain ⟨y, _, hy⟩ := Dist.step (n := m + j) hd
    exact dist_gap h j y hy
end Go.Proofs.Ytaanohgkdpohhaa
