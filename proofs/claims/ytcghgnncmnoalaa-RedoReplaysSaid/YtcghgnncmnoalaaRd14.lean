/- The reference of layer 14: what its Parse lays. Conditions: each contract's own premises. -/
import Derived.Test.YtcghgnncmnoalaaRd13
namespace Go.Proofs.Ytcghgnncmnoalaa
open Go.RowKit Go.Maps

/-- what has been read, as long as nothing was lacking -/
def Inv {β : Type} (R : Option β) (bad : Bool) (c : Option β) : Prop := (bad = false → R = c) ∧ (bad = true → R = none)
theorem inv_step {α β : Type} {R : Option β} {bad bad' : Bool} {o : Option (α × List UInt8)} {x : α × List UInt8} (F : Option (α × List UInt8) → Option β) (h : Inv R bad (F o)) (hF : F none = none) (hor : (bad' = bad ∧ o = some x) ∨ (bad' = true ∧ o = none)) : Inv R bad' (F (some x)) := by
  rcases hor with ⟨rfl, ho⟩ | ⟨rfl, ho⟩
  · rw [ho] at h; exact h
  · refine ⟨fun e => (by cases e), fun _ => ?_⟩
    cases bad
    · rw [h.1 rfl, ho, hF]
    · exact h.2 rfl
theorem inv_bad {β : Type} {R : Option β} {bad : Bool} {c c' : Option β} (h : Inv R bad c) (hb : bad = true ∨ c = none) : Inv R true c' := by
  refine ⟨fun e => (by cases e), fun _ => ?_⟩
  cases bad
  · rcases hb with hb | hb
    · cases hb
    · rw [h.1 rfl, hb]
  · exact h.2 rfl
theorem hor_num {l x l' : List UInt8} {bad bad' : Bool} {n : Nat} (h : (n ≤ l.length ∧ x = l.take n ∧ l' = l.drop n ∧ bad' = bad) ∨ (l.length < n ∧ x = [] ∧ l' = l ∧ bad' = true)) : (bad' = bad ∧ nuN l n = some (numL x, l')) ∨ (bad' = true ∧ nuN l n = none) := by
  rcases h with ⟨h1, rfl, rfl, rfl⟩ | ⟨h1, rfl, rfl, rfl⟩
  · exact .inl ⟨rfl, if_pos h1⟩
  · exact .inr ⟨rfl, if_neg (by omega)⟩
theorem hor_txt {l x l' : List UInt8} {bad bad' : Bool} {n : Nat} (h : (n ≤ l.length ∧ x = l.take n ∧ l' = l.drop n ∧ bad' = bad) ∨ (l.length < n ∧ x = [] ∧ l' = l ∧ bad' = true)) : (bad' = bad ∧ txN l n = some (⟨x.toArray⟩, l')) ∨ (bad' = true ∧ txN l n = none) := by
  rcases h with ⟨h1, rfl, rfl, rfl⟩ | ⟨h1, rfl, rfl, rfl⟩
  · exact .inl ⟨rfl, if_pos h1⟩
  · exact .inr ⟨rfl, if_neg (by omega)⟩
theorem hor_len {l x l' : List UInt8} {bad bad' : Bool} {n : Nat} (h : (n ≤ l.length ∧ x = l.take n ∧ l' = l.drop n ∧ bad' = bad) ∨ (l.length < n ∧ x = [] ∧ l' = l ∧ bad' = true)) : x.length ≤ n := by
  rcases h with ⟨h1, rfl, _⟩ | ⟨_, rfl, _⟩
  · simp; omega
  · simp
/-- bytes as a string -/
theorem conv_any {w : World} {a : Option Addr} {x : List UInt8} {cap tb D : Nat} (h : BsV w a x) (hc : x.length ≤ cap) (hs : (a = none ∧ cap = 0) ∨ ∃ b off, a = some ⟨b, off, none⟩ ∧ b ≠ tb ∧ b < D) :
    (convert 22 9 (.slice a x.length cap)).run Try.prog w = .ok (.string ⟨x.toArray⟩) w := by
  rcases hs with ⟨rfl, rfl⟩ | ⟨b, off, rfl, _, _⟩
  · obtain rfl : x = [] := List.eq_nil_of_length_eq_zero (by omega)
    exact conv_nil w
  · refine run_convert_bytes_back (P := Try.prog) w 22 9 5 ⟨b, off, none⟩ cap x Try.underlying22 Try.underlying5 Try.underlying9 ?_
    intro j hj
    obtain ⟨b', off', e, hat⟩ := h (fun e => by rw [e] at hj; simp at hj)
    injection e with e
    injection e with e1 e2
    subst e1 e2
    exact hat.conv j hj
theorem bsv_set {w : World} {a : Option Addr} {x : List UInt8} {cap tb D b0 i : Nat} {u : Value} (h : BsV w a x) (hs : (a = none ∧ cap = 0) ∨ ∃ b off, a = some ⟨b, off, none⟩ ∧ b ≠ tb ∧ b < D) (hb : D ≤ b0) : BsV (w.setCell ⟨b0, i, none⟩ u) a x := fun hn => by
  obtain ⟨b, off, e, hat⟩ := h hn
  refine ⟨b, off, e, hat.of_block (set_other _ ?_)⟩
  rcases hs with ⟨e2, _⟩ | ⟨b', off', e2, _, hl⟩
  · rw [e2] at e; cases e
  · rw [e2] at e; injection e with e; injection e with e; omega
/-- what the reference has laid of a record -/
structure TrS (V : World) (tb ob B : Nat) (st : Nat) (v : Value) (acc : List Wr) (wr : World) : Prop where
  chg : Chg V wr (· = tb)
  eo : wr.heap[ob]? = some (.cells #[.int .u64 st, v] 35)
  own : kW.Own wr B v acc
  lt : tb < V.heap.size ∧ V.heap.size ≤ ob ∧ ob < B ∧ B ≤ wr.heap.size
section
variable {V wr w' : World} {tb ob B st : Nat} {v : Value} {acc : List Wr}
theorem TrS.step (h : TrS V tb ob B st v acc wr) (hc : Chg wr w' (· = tb)) : TrS V tb ob B st v acc w' := by
  obtain ⟨l1, l2, l3, l4⟩ := h.lt
  exact ⟨h.chg.trans hc (fun i _ hi => hi), (hc.block _ (by omega) (by omega)).trans h.eo, h.own.chg hc (fun j hj e => by have := (h.own.lt j hj).1; omega), l1, l2, l3, Nat.le_trans l4 hc.size⟩
theorem TrS.drew (h : TrS V tb ob B st v acc wr) : TrS V tb ob B st v acc wr.drew := h.step (chg_bel (Below.refl _ _).drew)
theorem TrS.set0 (h : TrS V tb ob B st v acc wr) (n : Nat) : TrS V tb ob B n v acc (wr.setCell ⟨ob, 0, none⟩ (.int .u64 (n : Nat))) := by
  obtain ⟨l1, l2, l3, l4⟩ := h.lt
  refine ⟨⟨h.chg.os, h.chg.tape, h.chg.output, by rw [size_setCell]; exact h.chg.size, fun i hi hn => (set_other _ (by omega)).trans (h.chg.block i hi hn)⟩, ?_, ?_, l1, l2, l3, by rw [size_setCell]; exact l4⟩
  · rw [setB h.eo]; rfl
  · exact ownsRow_of_block h.own (fun j hj => set_other _ (by have := (h.own.lt j hj).1; omega))
theorem trs_next {u w9 : World} {X : Obj} {v9 : Value} {acc9 : List Wr} (h : TrS V tb ob B st v acc u) (hg : ∀ i, i < u.heap.size → v.ownBlock ≠ some i → w9.heap[i]? = u.heap[i]?)
    (g : (u.alloc X).grownBy w9 v.ownBlock) (o : kW.Own w9 B v9 acc9) : TrS V tb ob B st v9 acc9 (w9.setCell ⟨ob, 1, none⟩ v9) := by
  obtain ⟨l1, l2, l3, l4⟩ := h.lt
  have hown : ∀ i, i < B → v.ownBlock ≠ some i := fun i hi e => by have := (h.own.lt i e).1; omega
  have hs : u.heap.size ≤ w9.heap.size := by have := g.size; simp at this; omega
  have hcs := h.chg.size
  have hset : ∀ i, i ≠ ob → (w9.setCell ⟨ob, 1, none⟩ v9).heap[i]? = w9.heap[i]? := fun i hi => set_other _ hi
  refine ⟨⟨g.os.trans h.chg.os, g.tape.trans h.chg.tape, g.output.trans h.chg.output, by rw [size_setCell]; exact Nat.le_trans h.chg.size hs, fun i hi hn => ?_⟩, ?_, ?_, l1, l2, l3, by rw [size_setCell]; omega⟩
  · rw [hset i (by omega), hg i (by omega) (hown i (by omega))]
    exact h.chg.block i hi hn
  · have e : w9.heap[ob]? = some (.cells #[.int .u64 (st : Int), v] 35) := (hg ob (by omega) (hown ob l3)).trans h.eo
    rw [setB e]; rfl
  · exact ownsRow_of_block o (fun j hj => hset j (by have := (o.lt j hj).1; omega))
end
theorem tps_next {u w9 : World} {tb D ob B : Nat} {l : List UInt8} {bad : Bool} {v v9 : Value} (h : TpS u tb D l bad) (hg : ∀ i, i < u.heap.size → v.ownBlock ≠ some i → w9.heap[i]? = u.heap[i]?) (hown : ∀ i, v.ownBlock = some i → B ≤ i) (h1 : tb < ob) (h2 : D ≤ ob) (h3 : ob < B) (h4 : B ≤ u.heap.size) :
    TpS (w9.setCell ⟨ob, 1, none⟩ v9) tb D l bad := by
  have hh : ∀ i, i < ob → w9.heap[i]? = u.heap[i]? := fun i hi => hg i (by omega) (fun e => by have := hown i e; omega)
  exact (h.of (hh tb h1) (fun i hi _ => hh i (by omega))).set (by omega) h2
/-- a tape told that it is bad, or left so -/
theorem TpS.mark {w : World} {tb D : Nat} {l : List UInt8} {bad : Bool} (h : TpS w tb D l bad) (c : Bool) : TpS (w.setCell ⟨tb, 1, none⟩ (.bool c)) tb D l c := by
  obtain ⟨a, cap, hb, hcap, hv, ha⟩ := h.ex
  refine ⟨a, cap, by rw [blk_setCell hb]; rfl, hcap, hv.chg (chg_set2 _) ?_, ha⟩
  intro b off e
  rcases ha with ⟨e2, _⟩ | ⟨b', off', e2, hne, _⟩
  · rw [e2] at e; cases e
  · rw [e2] at e; injection e with e; injection e with e; rw [← e]; exact hne
/-- the box of the reference's result -/
structure QB (w u : World) (b1 b2 : Nat) (x0 x1 r0 r1 : Value) : Prop where
  bel : Below w.heap.size w u
  e1 : u.heap[b1]? = some (.cells #[x0, x1] 43)
  e2 : u.heap[b2]? = some (.cells #[r0, r1] 35)
  lt : w.heap.size ≤ b1 ∧ b1 < b2
section
variable {w u u' : World} {b1 b2 : Nat} {x0 x1 r0 r1 : Value}
theorem QB.chg {rb : Nat} (h : QB w u b1 b2 x0 x1 r0 r1) (hc : Chg u u' (· = rb)) (hr : b2 < rb) : QB w u' b1 b2 x0 x1 r0 r1 := by
  obtain ⟨l1, l2⟩ := h.lt
  have hz := (Array.getElem?_eq_some_iff.1 h.e2).1
  exact ⟨h.bel.trans (hc.below h.bel.size (fun i hi => by omega)), (hc.block _ (by omega) (by omega)).trans h.e1, (hc.block _ (by omega) (by omega)).trans h.e2, h.lt⟩
theorem QB.below (h : QB w u b1 b2 x0 x1 r0 r1) (hb : Below u.heap.size u u') : QB w u' b1 b2 x0 x1 r0 r1 := by
  obtain ⟨l1, l2⟩ := h.lt
  have hz := (Array.getElem?_eq_some_iff.1 h.e2).1
  exact ⟨below_then h.bel hb, (hb.block _ (by omega)).trans h.e1, (hb.block _ (by omega)).trans h.e2, h.lt⟩
theorem QB.set2 (h : QB w u b1 b2 x0 x1 r0 r1) (y0 y1 : Value) : QB w ((u.setCell ⟨b2, 0, none⟩ y0).setCell ⟨b2, 1, none⟩ y1) b1 b2 x0 x1 y0 y1 := by
  obtain ⟨l1, l2⟩ := h.lt
  refine ⟨below_set (below_set h.bel (by omega) _) (by omega) _, ?_, ?_, h.lt⟩
  · rw [set_other _ (by omega), set_other _ (by omega)]; exact h.e1
  · rw [setB (setB h.e2 _) _]; rfl
theorem QB.cells (h : QB w u b1 b2 x0 x1 r0 r1) : u.cell? ⟨b1, 0, none⟩ = some x0 ∧ u.cell? ⟨b1, 1, none⟩ = some x1 ∧ u.cell? ⟨b2, 0, none⟩ = some r0 ∧ u.cell? ⟨b2, 1, none⟩ = some r1 ∧ u.frozen? ⟨b2, 0, none⟩ = false ∧ u.frozen? ⟨b2, 1, none⟩ = false :=
  ⟨by rw [cell_of_blk h.e1]; rfl, by rw [cell_of_blk h.e1]; rfl, by rw [cell_of_blk h.e2]; rfl, by rw [cell_of_blk h.e2]; rfl, frozen_of_blk h.e2 0, frozen_of_blk h.e2 1⟩
theorem qb_new (w : World) (x0 x1 : Value) : QB w ((w.alloc (.cells #[x0, x1] 43)).alloc (.cells #[.int .u64 0, .slice none 0 0] 35)) w.heap.size (w.heap.size + 1) x0 x1 (.int .u64 0) (.slice none 0 0) := by
  refine ⟨(below_box w _).alloc (by (try simp only [size_alloc]); omega) _, ?_, ?_, by omega⟩
  · rw [Below.heap_alloc _ _ _ (by (try simp only [size_alloc]); omega)]; exact heap_new w _
  · have := heap_new (w.alloc (.cells #[x0, x1] 43)) (.cells #[.int .u64 0, .slice none 0 0] 35)
    simpa using this
end
end Go.Proofs.Ytcghgnncmnoalaa
