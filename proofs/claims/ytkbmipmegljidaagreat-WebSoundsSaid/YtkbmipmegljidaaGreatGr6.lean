/- Rows of ints that a call lays for itself; what the library's sort leaves of them. Conditions: each lemma's own premises. -/
import Derived.Test.YtkbmipmegljidaaGreatWsE
import Derived.Sort.Row
import Derived.Sort.Grow
namespace Go.Proofs.YtkbmipmegljidaaGreat
open Go.RowKit Go.Maps Go.Sort

theorem infoI : (Tryz.prog.info? 3).map (fun i => (i.zero, i.size, i.bytes)) = some (some (.int .i64 0), 1, 8) := by kernel_rfl
/-- ints, as elements -/
def kI : RowK Tryz.prog Int where
  t := 72
  e := 3
  size := 1
  bytes := 8
  z := .int .i64 0
  enc := fun x => [.int .i64 x]
  ht := Tryz.underlying72
  info := infoI
  hz := rfl
  pos := by decide
  small := by decide
  len := fun _ => rfl
  one := fun x u hu => by
    simp at hu
    subst hu
    rfl
theorem kI_cells (l : List Int) : kI.cells l = l.map (Value.int .i64) := by
  induction l with
  | nil => rfl
  | cons x l ih =>
    show Value.int .i64 x :: kI.cells l = _
    rw [ih]; rfl
theorem ownI_blk {w : World} {B n cap g : Nat} {l : List Int} (h : kI.Own w B (.slice (some ⟨g, 0, none⟩) n cap) l) : ∃ cur, w.heap[g]? = some (.cells cur 3 (0, 0)) ∧ cur.size = cap ∧ l.length ≤ cap ∧ cap ≤ maxLen ∧ B ≤ g ∧ n = l.length ∧ cur.toList.take l.length = l.map (Value.int .i64) := by
  rcases h.2 with ⟨h1, _⟩ | ⟨g', cp, cur, h1, hB, hg, hn, hm, hs, ht⟩
  · injection h1 with e1; cases e1
  · injection h1 with e1 e2 e3
    injection e1 with e1
    injection e1 with e1
    subst e1 e2 e3
    refine ⟨cur, hg, by rw [hs]; exact Nat.mul_one _, hn, hm, hB, rfl, ?_⟩
    rw [kI_cells] at ht
    have e : l.length * kI.size = l.length := Nat.mul_one _
    rw [e] at ht
    exact ht
theorem ownI_mk {w : World} {B cap g : Nat} {l : List Int} {cur : Array Value} (hg : w.heap[g]? = some (.cells cur 3 (0, 0))) (hB : B ≤ g) (hs : cur.size = cap) (hn : l.length ≤ cap) (hm : cap ≤ maxLen) (ht : cur.toList.take l.length = l.map (Value.int .i64)) : kI.Own w B (.slice (some ⟨g, 0, none⟩) l.length cap) l := by
  refine ⟨kI.cells_len l, .inr ⟨g, cap, cur, rfl, hB, hg, hn, hm, by rw [hs]; exact (Nat.mul_one _).symm, ?_⟩⟩
  rw [kI_cells]
  have e : l.length * kI.size = l.length := Nat.mul_one _
  rw [e]
  exact ht
theorem ownI_holds {w : World} {B n cap g : Nat} {l : List Int} (h : kI.Own w B (.slice (some ⟨g, 0, none⟩) n cap) l) : Holds (Value.int .i64) w g 0 l.toArray ∧ g < w.heap.size := by
  obtain ⟨cur, hg, hs, hn, hm, hB, rfl, ht⟩ := ownI_blk h
  refine ⟨fun j hj => ?_, (Array.getElem?_eq_some_iff.1 hg).1⟩
  simp only [List.size_toArray] at hj
  refine ⟨?_, frozen_of_blk hg _⟩
  rw [cell_of_blk hg, Nat.zero_add]
  have h1 : (cur.toList.take l.length)[j]? = (l.map (Value.int .i64))[j]? := by rw [ht]
  rw [List.getElem?_take_of_lt hj, Array.getElem?_toList] at h1
  rw [h1]
  simp [hj]
theorem own_putI {w : World} {B n cap g q : Nat} {l d : List Int} {os : Array Obj} (h : kI.Own w B (.slice (some ⟨g, 0, none⟩) n cap) l) (hd : d.length ≤ l.length) (m : Nat) (hm : m ≤ d.length) :
    kI.Own (grow (putRow (Value.int .i64) (Sort.ahead w q) g 0 d.toArray) os) B (.slice (some ⟨g, 0, none⟩) m cap) (d.take m) ∧ Below B w (grow (putRow (Value.int .i64) (Sort.ahead w q) g 0 d.toArray) os) := by
  obtain ⟨cur, hg, hs, hn, hcm, hB, rfl, ht⟩ := ownI_blk h
  have hlt := (Array.getElem?_eq_some_iff.1 hg).1
  have hheap : ∀ i, i < w.heap.size → (grow (putRow (Value.int .i64) (Sort.ahead w q) g 0 d.toArray) os).heap[i]? = if i = g then some (.cells (putCells (Value.int .i64) 0 d.toArray cur) 3 (0, 0)) else w.heap[i]? := fun i hi => by
    unfold grow putRow mapBlock Sort.ahead
    simp only
    rw [Array.getElem?_append_left (by simpa using hi), Array.getElem?_modify]
    by_cases e : i = g
    · subst e
      rw [if_pos rfl, if_pos rfl, hg]
      rfl
    · rw [if_neg (fun e2 => e e2.symm), if_neg e]
  have hsz : w.heap.size ≤ (grow (putRow (Value.int .i64) (Sort.ahead w q) g 0 d.toArray) os).heap.size := by
    unfold grow putRow mapBlock Sort.ahead
    simp
  have hlm : (d.take m).length = m := by rw [List.length_take]; omega
  have hcur : (putCells (Value.int .i64) 0 d.toArray cur).size = cap := by rw [← hs]; simp [putCells]
  refine ⟨?_, ⟨rfl, rfl, rfl, hsz, fun i hi => ?_⟩⟩
  · have := ownI_mk (w := grow (putRow (Value.int .i64) (Sort.ahead w q) g 0 d.toArray) os) (B := B) (g := g) (l := d.take m) (by rw [hheap g hlt, if_pos rfl]) hB hcur (by omega) hcm (by
      rw [hlm]
      apply List.ext_getElem?
      intro t
      by_cases htl : t < m
      · rw [List.getElem?_take_of_lt htl, Array.getElem?_toList]
        unfold putCells
        rw [Array.getElem?_mapIdx, Array.getElem?_eq_getElem (by omega)]
        simp [htl, show t < d.length by omega]
      · rw [List.getElem?_eq_none (by simp; omega), List.getElem?_eq_none (by simp; omega)])
    rw [hlm] at this
    exact this
  · rw [hheap i (by omega), if_neg (by omega)]
/-- sorted, each but once -/
def IncI (l : List Int) : Prop := l.Pairwise (· < ·)
theorem incI_uniq : ∀ {a b : List Int}, IncI a → IncI b → (∀ k, k ∈ a ↔ k ∈ b) → a = b
  | [], [], _, _, _ => rfl
  | [], y :: b, _, _, h => absurd ((h y).2 (List.mem_cons.2 (.inl rfl))) (fun e => by cases e)
  | x :: a, [], _, _, h => absurd ((h x).1 (List.mem_cons.2 (.inl rfl))) (fun e => by cases e)
  | x :: a, y :: b, ha, hb, h => by
    obtain ⟨ha1, ha2⟩ := List.pairwise_cons.1 ha
    obtain ⟨hb1, hb2⟩ := List.pairwise_cons.1 hb
    have e : x = y := Classical.byContradiction fun hn => by
      have h1 : x ∈ b := (List.mem_cons.1 ((h x).1 (List.mem_cons.2 (.inl rfl)))).resolve_left hn
      have h2 : y ∈ a := (List.mem_cons.1 ((h y).2 (List.mem_cons.2 (.inl rfl)))).resolve_left (fun e => hn e.symm)
      have := ha1 y h2
      have := hb1 x h1
      omega
    subst e
    rw [incI_uniq ha2 hb2 (fun k => ⟨fun hk => (List.mem_cons.1 ((h k).1 (List.mem_cons.2 (.inr hk)))).resolve_left (fun e => by have := ha1 k hk; omega),
      fun hk => (List.mem_cons.1 ((h k).2 (List.mem_cons.2 (.inr hk)))).resolve_left (fun e => by have := hb1 k hk; omega)⟩)]
def sortI (l : List Int) : List Int := l.mergeSort fun x y => decide (x ≤ y)
theorem sortI_perm (l : List Int) : (sortI l).Perm l := List.mergeSort_perm l _
theorem sortI_le (l : List Int) : (sortI l).Pairwise (· ≤ ·) := by
  have h := List.pairwise_mergeSort (le := fun x y : Int => decide (x ≤ y)) (fun a b c h1 h2 => by simp only [decide_eq_true_eq] at *; omega) (fun a b => by simp only [Bool.or_eq_true, decide_eq_true_eq]; omega) l
  exact h.imp (fun h => by simpa using h)
theorem sortI_inc {l : List Int} (hn : l.Nodup) : IncI (sortI l) := by
  have h1 := sortI_le l
  have h2 : (sortI l).Pairwise (· ≠ ·) := (sortI_perm l).nodup_iff.2 hn
  exact (h1.and h2).imp (fun ⟨a, b⟩ => by omega)
end Go.Proofs.YtkbmipmegljidaaGreat
