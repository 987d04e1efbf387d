/- RedoReplays: the plain law. No program here beyond plain records. RedoReplays: the walk. Conditions: each contract's own premises. -/
import Derived.Test.YtcghgnncmnoalaaRp7
import Derived.Test.YtcghgnncmnoalaaCutPlain
import Derived.Test.YtcghgnncmnoalaaAw
import Derived.Test.YtcghgnncmnoalaaSx7
import Derived.Test.YtcghgnncmnoalaaRdMem
import Derived.Deep.QuietTactic
import Derived.BigQuiet
namespace Go.Proofs.Ytcghgnncmnoalaa
open Go.RowKit Go.Maps

theorem asc_unique : ∀ (a b : List Rv), Srt.Asc Rv.stamp a → Srt.Asc Rv.stamp b → a.Perm b → (a.map Rv.stamp).Nodup → a = b
  | [], b, _, _, hp, _ => (List.Perm.nil_eq hp)
  | x :: a, [], _, _, hp, _ => by have := hp.length_eq; simp at this
  | x :: a, y :: b, ha, hb, hp, hn => by
    have ha' := List.pairwise_cons.1 ha
    have hb' := List.pairwise_cons.1 hb
    have hnb : ((y :: b).map Rv.stamp).Nodup := ((hp.map Rv.stamp).nodup_iff).1 hn
    have e : x = y := by
      refine Classical.byContradiction fun hne => ?_
      have h1 : x ∈ b := by
        rcases List.mem_cons.1 (hp.mem_iff.1 (by simp : x ∈ x :: a)) with h | h
        · exact absurd h hne
        · exact h
      have h2 : y ∈ a := by
        rcases List.mem_cons.1 (hp.mem_iff.2 (by simp : y ∈ y :: b)) with h | h
        · exact absurd h.symm hne
        · exact h
      have h3 := ha'.1 y h2
      have h4 := hb'.1 x h1
      have h5 : x.stamp = y.stamp := Nat.le_antisymm h3 h4
      rw [List.map_cons, List.nodup_cons] at hn
      exact hn.1 (List.mem_map.2 ⟨y, h2, h5.symm⟩)
    subst e
    rw [asc_unique a b ha'.2 hb'.2 (List.Perm.cons_inv hp) (by rw [List.map_cons, List.nodup_cons] at hn; exact hn.2)]
theorem sortK_same {a b : List Rv} (hp : a.Perm b) (hn : (a.map Rv.stamp).Nodup) : Srt.sortK Rv.stamp a = Srt.sortK Rv.stamp b := by
  have h1 := Srt.sortK_perm Rv.stamp a
  have h2 := Srt.sortK_perm Rv.stamp b
  exact asc_unique _ _ (Srt.sortK_asc Rv.stamp a) (Srt.sortK_asc Rv.stamp b) (h1.trans (hp.trans h2.symm)) (((h1.map Rv.stamp).nodup_iff).2 hn)
theorem mod2 {x n : Nat} (h : x < 2 * n) : x % n = if x < n then x else x - n := by
  by_cases hl : x < n
  · rw [if_pos hl, Nat.mod_eq_of_lt hl]
  · rw [if_neg hl, Nat.mod_eq_sub_mod (by omega), Nat.mod_eq_of_lt (by omega)]
/-- places, turned about -/
def turnP (n k t : Nat) : Nat := (n - 1 - t + k) % n
theorem turnP_lt {n k t : Nat} (hn : 0 < n) : turnP n k t < n := Nat.mod_lt _ hn
theorem turn_perm {n k : Nat} (hk : k < n) : ((List.range n).map (turnP n k)).Perm (List.range n) := by
  have hnd : ((List.range n).map (turnP n k)).Nodup := by
    show List.Pairwise _ _
    rw [List.pairwise_map]
    refine (List.nodup_range (n := n)).imp_of_mem (fun {a b} ha hb hab => ?_)
    simp only [List.mem_range] at ha hb
    unfold turnP
    rw [mod2 (by omega), mod2 (by omega)]
    intro e
    apply hab
    split at e <;> split at e <;> omega
  rw [List.perm_ext_iff_of_nodup hnd List.nodup_range]
  intro j
  simp only [List.mem_map, List.mem_range]
  constructor
  · rintro ⟨t, ht, rfl⟩
    exact turnP_lt (by omega)
  · intro hj
    by_cases h : k ≤ j
    · refine ⟨k + n - 1 - j, by omega, ?_⟩
      unfold turnP
      rw [mod2 (by omega)]
      split <;> omega
    · refine ⟨k - 1 - j, by omega, ?_⟩
      unfold turnP
      rw [mod2 (by omega)]
      split <;> omega
/-- records, turned about -/
def turnL (rs : List Rv) (k c : Nat) : List Rv := (List.range c).filterMap (fun t => rs[turnP rs.length k t]?)
theorem turnL_perm {rs : List Rv} {k : Nat} (hk : k < rs.length) : (turnL rs k rs.length).Perm rs := by
  have h1 : (List.range rs.length).filterMap (fun i => rs[i]?) = rs := by
    have : ∀ l : List Rv, (List.range l.length).filterMap (fun i => l[i]?) = l := by
      intro l
      induction l with
      | nil => rfl
      | cons x l ih =>
        rw [List.length_cons, List.range_succ_eq_map, List.filterMap_cons]
        simp only [List.getElem?_cons_zero]
        rw [List.filterMap_map]
        congr 1
    exact this rs
  have h2 := (turn_perm hk).filterMap (fun i => rs[i]?)
  rw [h1, List.filterMap_map] at h2
  exact h2
theorem turnL_step {rs : List Rv} {k c : Nat} {x : Rv} (hx : rs[turnP rs.length k c]? = some x) : turnL rs k (c + 1) = turnL rs k c ++ [x] := by
  unfold turnL
  rw [List.range_succ, List.filterMap_append, List.filterMap_cons, hx]
  rfl
end Go.Proofs.Ytcghgnncmnoalaa
namespace Go.Proofs.Ytcghgnncmnoalaa
open Go.RowKit Go.Maps Go.WideMaps

/-- records as they come in -/
def RmV (w : World) (a : Option Addr) (l : List Rv) : Prop := l ≠ [] → ∃ b off, a = some ⟨b, off, none⟩ ∧ b < w.heap.size ∧ ∀ (i : Nat) (x : Rv), l[i]? = some x → (x.stamp < 18446744073709551616 ∧ WsV w x.a x.ws ∧ x.ws.length ≤ maxLen) ∧ w.cell? ⟨b, off + i * 2, none⟩ = some (.int .u64 x.stamp) ∧ w.cell? ⟨b, off + i * 2 + 1, none⟩ = some (.slice x.a x.ws.length x.cap)
theorem RmV.below {w w' : World} {a : Option Addr} {l : List Rv} (h : RmV w a l) (hb : Below w.heap.size w w') : RmV w' a l := fun hn => by
  obtain ⟨b, off, e, hl, hc⟩ := h hn
  refine ⟨b, off, e, Nat.lt_of_lt_of_le hl hb.size, fun i x hx => ?_⟩
  obtain ⟨⟨h1, h2, h3⟩, h4, h5⟩ := hc i x hx
  exact ⟨⟨h1, h2.below hb, h3⟩, (hb.cell (p := ⟨b, off + i * 2, none⟩) hl).trans h4, (hb.cell (p := ⟨b, off + i * 2 + 1, none⟩) hl).trans h5⟩
/-- small ones -/
def SmallTo (l : List Rv) (i : Nat) : Prop := ∀ j x, j < i → l[j]? = some x → smallW 20 300 x.ws = true
theorem smallW_parts {ws : List Wr} (h : smallW 20 300 ws = true) : ws.length ≤ 20 ∧ ∀ y ∈ ws, y.k.s.size ≤ 300 ∧ y.val.size ≤ 300 := by
  unfold smallW at h
  simp at h
  exact ⟨h.1, fun y hy => h.2 y hy⟩
theorem RmV.rsV {w : World} {a : Option Addr} {l : List Rv} (h : RmV w a l) (hs : SmallTo l l.length) : RsV w a l := fun hn => by
  obtain ⟨b, off, e, hl, hc⟩ := h hn
  refine ⟨b, off, e, ⟨fun i x hx => ?_, hl⟩⟩
  obtain ⟨⟨h1, h2, h3⟩, h4, h5⟩ := hc i x hx
  have := (smallW_parts (hs i x (List.getElem?_eq_some_iff.1 hx).1 hx)).1
  exact ⟨⟨h1, h2, by omega⟩, h4, h5⟩
/-- stamps that differ -/
def ApartTo (l : List Rv) (i : Nat) : Prop := ∀ (p q : Nat) (x y : Rv), q < p → p < i → l[p]? = some x → l[q]? = some y → y.stamp ≠ x.stamp
def ApartAt (l : List Rv) (i k : Nat) : Prop := ∀ (q : Nat) (x y : Rv), q < k → l[i]? = some x → l[q]? = some y → y.stamp ≠ x.stamp
theorem apart_nodup {l : List Rv} (h : ApartTo l l.length) : (l.map Rv.stamp).Nodup := by
  show List.Pairwise _ _
  rw [List.pairwise_map, List.pairwise_iff_getElem]
  intro q p hq hp hqp
  exact h p q l[p] l[q] hqp hp (List.getElem?_eq_getElem hp) (List.getElem?_eq_getElem hq)
theorem apart_next {l : List Rv} {i : Nat} (h : ApartTo l i) (h2 : ApartAt l i i) : ApartTo l (i + 1) := fun p q x y hqp hp hx hy => by
  rcases Nat.lt_succ_iff_lt_or_eq.1 hp with hp | rfl
  · exact h p q x y hqp hp hx hy
  · exact h2 q x y hqp hx hy
/-- of small records the writes are few, and right -/
theorem all_small {l : List Rv} (h : SmallTo l l.length) (hl : l.length ≤ 12) : (wsAll (Srt.sortK Rv.stamp l)).length ≤ 1000000 ∧ ∀ y ∈ wsAll (Srt.sortK Rv.stamp l), y.k.s.size ≤ maxLen ∧ y.val.size ≤ maxLen := by
  have hp := Srt.sortK_perm Rv.stamp l
  have hm : ∀ x ∈ l, x.ws.length ≤ 20 ∧ ∀ y ∈ x.ws, y.k.s.size ≤ 300 ∧ y.val.size ≤ 300 := fun x hx => by
    obtain ⟨i, hi⟩ := List.getElem?_of_mem hx
    exact smallW_parts (h i x (List.getElem?_eq_some_iff.1 hi).1 hi)
  refine ⟨?_, fun y hy => ?_⟩
  · have : ∀ m : List Rv, (∀ x ∈ m, x.ws.length ≤ 20) → (wsAll m).length ≤ 20 * m.length := by
      intro m hm
      induction m with
      | nil => simp [wsAll]
      | cons x m ih =>
        have h1 := ih (fun z hz => hm z (by simp [hz]))
        have h2 := hm x (by simp)
        unfold wsAll at *
        rw [List.flatMap_cons, List.length_append, List.length_cons]
        omega
    have h1 := this (Srt.sortK Rv.stamp l) (fun x hx => (hm x (hp.mem_iff.1 hx)).1)
    rw [hp.length_eq] at h1
    omega
  · obtain ⟨x, hx, hyx⟩ := List.mem_flatMap.1 hy
    have := (hm x (hp.mem_iff.1 hx)).2 y hyx
    unfold maxLen
    omega
set_option maxRecDepth 100000 in
theorem records_inR {w : World} {cs : List Value} (h : Mem Try.prog w 24 cs) : ∃ (a : Option Addr) (l : List Rv) (cap : Nat), cs = [.slice a l.length cap] ∧ l.length ≤ cap ∧ cap ≤ maxLen ∧ RmV w a l := by
  obtain ⟨a, n, cap, rfl, h1, h2, h3⟩ := h.slice Try.underlying24 (of_decide_eq_true (by kernel_rfl))
  have e6 : Try.prog.cellsOf 35 = 2 := by kernel_rfl
  rw [e6] at h3
  obtain ⟨xs, hlen, hx⟩ := list_of (n := n) (Q := fun i (x : Rv) => (x.stamp < 18446744073709551616 ∧ WsV w x.a x.ws ∧ x.ws.length ≤ maxLen) ∧ ∀ b off, a = some ⟨b, off, none⟩ → w.cell? ⟨b, off + i * 2, none⟩ = some (.int .u64 x.stamp) ∧ w.cell? ⟨b, off + i * 2 + 1, none⟩ = some (.slice x.a x.ws.length x.cap)) (fun i hi => by
    obtain ⟨b, off, rfl, _, hat⟩ := h3 (by omega)
    obtain ⟨es, hl, hc, hm⟩ := hat i hi
    obtain ⟨st, ra, ws, rc, rfl, g1, g2, g3⟩ := record_in hm
    refine ⟨⟨st, ra, rc, ws⟩, ⟨g1, g3, g2⟩, fun b' off' e => ?_⟩
    injection e with e
    injection e with e1 e2
    subst e1 e2
    exact ⟨hc 0 (by omega), hc 1 (by omega)⟩)
  subst hlen
  refine ⟨a, xs, cap, rfl, h1, h2, fun hne => ?_⟩
  obtain ⟨b, off, rfl, hb, _⟩ := h3 (List.length_pos_iff.2 hne)
  exact ⟨b, off, rfl, hb, fun i x hi => ⟨(hx i x hi).1, (hx i x hi).2 b off rfl⟩⟩
end Go.Proofs.Ytcghgnncmnoalaa
