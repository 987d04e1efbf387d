/- Plain facts on arenas for the laws of layer 5: what Take and Free do to the handles that are live and to those that are gone. No program here beyond the plain arena. -/
import Derived.Test.YtaanohgkdpohhaaWb0
import Derived.Test.YtaanohgkdpohhaaArenaMore
namespace Go.Proofs.Ytaanohgkdpohhaa
open Go.RowKit Go.Maps

theorem Ar.take_cases {s : Ar} {c : Nat} (h : s.Ok c) :
    (s.free = [] ∧ s.fresh = s.room ∧ s.takeRes = (0, 0, 50) ∧ s.take = s) ∨
    (∃ x, s.takeRes = (x, s.gens x, 0) ∧ s.taken x = false ∧ 0 ≤ x ∧ x < s.room ∧ (∀ y, s.take.taken y = (decide (y = x) || s.taken y)) ∧ s.take.gens = s.gens ∧ s.take.room = s.room ∧ s.take.free.length + s.fresh + 1 = s.free.length + s.take.fresh ∧ s.take.Ok c ∧ (s.free.length : Int) - s.fresh + s.room > 0) := by
  have hro := h.fresh
  rcases List.eq_nil_or_concat s.free with hs | ⟨l, x, hs⟩
  · have e1 : s.free.getLast? = none := by rw [hs]; rfl
    by_cases hr : s.fresh = s.room
    · left
      refine ⟨hs, hr, ?_, ?_⟩
      · unfold Ar.takeRes; rw [e1]; simp [hr]
      · unfold Ar.take; rw [e1]; simp [hr]
    · right
      have et : s.take = s.grow := by unfold Ar.take; rw [e1]; simp [hr]
      refine ⟨s.fresh, ?_, ?_, by omega, by omega, ?_, ?_, ?_, ?_, ?_, ?_⟩
      · unfold Ar.takeRes; rw [e1]; simp [hr]
      · rw [Bool.eq_false_iff]; intro e; have := (Ar.taken_iff.1 e).2.1; omega
      · rw [et]; exact Ar.taken_grow h
      · rw [et]; rfl
      · rw [et]; rfl
      · rw [et]; simp [Ar.grow]; omega
      · rw [et]; exact h.grow (by omega)
      · rw [hs]; simp; omega
  · rw [List.concat_eq_append] at hs
    have e1 : s.free.getLast? = some x := by rw [hs]; simp
    have hm := h.mem x (by rw [hs]; simp)
    have et : s.take = s.pop := by unfold Ar.take; rw [e1]
    right
    refine ⟨x, ?_, ?_, hm.1, by omega, ?_, ?_, ?_, ?_, ?_, ?_⟩
    · unfold Ar.takeRes; rw [e1]
    · rw [Bool.eq_false_iff]; intro e; exact (Ar.taken_iff.1 e).2.2 (by rw [hs]; simp)
    · rw [et]; exact Ar.taken_pop h hs
    · rw [et]; rfl
    · rw [et]; rfl
    · rw [et]; simp [Ar.pop, hs]; omega
    · rw [et]; exact h.pop
    · rw [hs]; simp; omega

/-- live: all handles that are live; gone: some that never will be again -/
structure OnceInv (s : Ar) (L G : List (Int × Int)) : Prop where
  live : ∀ p ∈ L, s.taken p.1 = true ∧ p.2 = s.gens p.1
  apart : (L.map (·.1)).Nodup
  len : L.length + s.free.length = s.fresh
  gone : ∀ p ∈ G, p.2 < s.gens p.1

theorem OnceInv.start (rm : Nat) : OnceInv (Ar.made rm) [] [] := ⟨by simp, by simp, rfl, by simp⟩

theorem OnceInv.full {s : Ar} {live gone : List (Int × Int)} (h : OnceInv s live gone) (hf : s.free = []) (hr : s.fresh = s.room) : live.length = s.room := by
  have := h.len; rw [hf] at this; simp at this; omega

theorem OnceInv.took {s : Ar} {live gone : List (Int × Int)} (h : OnceInv s live gone) {x : Int} (hx : s.taken x = false) (ht : ∀ y, s.take.taken y = (decide (y = x) || s.taken y)) (hg : s.take.gens = s.gens) (hl : s.take.free.length + s.fresh + 1 = s.free.length + s.take.fresh) :
    OnceInv s.take (live ++ [(x, s.gens x)]) gone ∧ ∀ p ∈ live, p.1 ≠ x := by
  have hne : ∀ p ∈ live, p.1 ≠ x := fun p hp e => by have := (h.live p hp).1; rw [e, hx] at this; cases this
  refine ⟨⟨?_, ?_, ?_, ?_⟩, hne⟩
  · intro p hp
    rw [List.mem_append, List.mem_singleton] at hp
    rw [ht, hg]
    rcases hp with hp | rfl
    · exact ⟨by rw [(h.live p hp).1]; simp, (h.live p hp).2⟩
    · simp
  · rw [List.map_append, List.nodup_append]
    refine ⟨h.apart, by simp, ?_⟩
    intro a ha b hb
    simp at hb ha
    obtain ⟨g, hp⟩ := ha
    rw [hb]
    exact hne _ hp
  · have := h.len; simp; omega
  · rw [hg]; exact h.gone

theorem OnceInv.freed {s : Ar} {live gone : List (Int × Int)} (h : OnceInv s live gone) {k : Nat} {x g : Int} (he : live[k]? = some (x, g)) :
    s.live x g = true ∧ OnceInv (s.put x) (live.eraseIdx k) (gone ++ [(x, g)]) ∧ (s.put x).live x g = false := by
  have hmem := List.mem_of_getElem? he
  have hlt := (List.getElem?_eq_some_iff.1 he).1
  obtain ⟨h1, h2⟩ := h.live _ hmem
  have hlive : s.live x g = true := by
    simp only at h2
    simp [Ar.live, h1, h2]
  have hnot : ∀ p ∈ live.eraseIdx k, p.1 ≠ x := by
    intro p hp e
    obtain ⟨i, hi⟩ := List.mem_iff_getElem?.1 hp
    rw [List.getElem?_eraseIdx] at hi
    have hne : ∀ j, j ≠ k → live[j]? = some p → False := by
      intro j hj hjp
      have hnd := h.apart
      have a1 : (live.map (·.1))[j]? = some x := by rw [List.getElem?_map, hjp]; simp [e]
      have a2 : (live.map (·.1))[k]? = some x := by rw [List.getElem?_map, he]; rfl
      have := List.pairwise_iff_getElem.1 hnd
      obtain ⟨b1, c1⟩ := List.getElem?_eq_some_iff.1 a1
      obtain ⟨b2, c2⟩ := List.getElem?_eq_some_iff.1 a2
      rcases Nat.lt_or_gt_of_ne hj with hlt' | hgt'
      · exact this j k b1 b2 hlt' (by rw [c1, c2])
      · exact this k j b2 b1 hgt' (by rw [c1, c2])
    split at hi
    · exact hne i (by omega) hi
    · exact hne (i + 1) (by omega) hi
  refine ⟨hlive, ⟨?_, ?_, ?_, ?_⟩, ?_⟩
  · intro p hp
    obtain ⟨a1, a2⟩ := h.live p ((List.eraseIdx_sublist _ _).subset hp)
    have hn := hnot p hp
    rw [Ar.taken_put, a1]
    simp [hn, Ar.put, a2]
  · exact ((List.eraseIdx_sublist _ _).map _).nodup h.apart
  · have := h.len
    rw [List.length_eraseIdx]
    simp [hlt, Ar.put]; omega
  · intro p hp
    rw [List.mem_append, List.mem_singleton] at hp
    simp only [Ar.put]
    rcases hp with hp | rfl
    · have := h.gone p hp
      split
      · rename_i e; rw [e] at this; omega
      · exact this
    · simp at h2; simp; omega
  · simp [Ar.live, Ar.taken_put]

theorem OnceInv.dead {s : Ar} {live gone : List (Int × Int)} (h : OnceInv s live gone) {k : Nat} {x g : Int} (he : gone[k]? = some (x, g)) : s.live x g = false := by
  have := h.gone _ (List.mem_of_getElem? he)
  simp only [Ar.live, Bool.and_eq_false_iff]
  right
  simp at this ⊢
  omega

/-- handles as cells -/
def hcells (l : List (Int × Int)) : List Value := l.flatMap fun p => [.int .i64 p.1, .int .i64 p.2]
theorem hcells_length (l : List (Int × Int)) : (hcells l).length = l.length * 2 := by
  induction l with
  | nil => rfl
  | cons p l ih => simp [hcells] at ih ⊢; omega
theorem hcells_append (a b : List (Int × Int)) : hcells (a ++ b) = hcells a ++ hcells b := by simp [hcells]
theorem hcells_get : ∀ (l : List (Int × Int)) (i : Nat) (x g : Int), l[i]? = some (x, g) → (hcells l)[i * 2]? = some (.int .i64 x) ∧ (hcells l)[i * 2 + 1]? = some (.int .i64 g)
  | [], i, x, g, h => by simp at h
  | p :: l, 0, x, g, h => by simp at h; subst h; simp [hcells]
  | p :: l, i + 1, x, g, h => by
    simp at h
    obtain ⟨h1, h2⟩ := hcells_get l i x g h
    have e : hcells (p :: l) = [.int .i64 p.1, .int .i64 p.2] ++ hcells l := by simp [hcells]
    rw [e]
    refine ⟨?_, ?_⟩
    · rw [List.getElem?_append_right (by simp; omega)]
      simp only [List.length_cons, List.length_nil]
      rw [show (i + 1) * 2 - (0 + 1 + 1) = i * 2 by omega]; exact h1
    · rw [List.getElem?_append_right (by simp; omega)]
      simp only [List.length_cons, List.length_nil]
      rw [show (i + 1) * 2 + 1 - (0 + 1 + 1) = i * 2 + 1 by omega]; exact h2
theorem hcells_one (l : List (Int × Int)) : ∀ u ∈ hcells l, u.oneCell' = true := by
  intro u hu
  simp [hcells] at hu
  obtain ⟨a, b, _, rfl | rfl⟩ := hu <;> rfl
theorem hcells_take (l : List (Int × Int)) (k : Nat) : (hcells l).take (k * 2) = hcells (l.take k) := by
  induction l generalizing k with
  | nil => simp [hcells]
  | cons p l ih =>
    cases k with
    | zero => simp [hcells]
    | succ k =>
      have e : hcells (p :: l) = .int .i64 p.1 :: .int .i64 p.2 :: hcells l := by simp [hcells]
      rw [e, show (k + 1) * 2 = k * 2 + 1 + 1 by omega, List.take_succ_cons, List.take_succ_cons, ih]
      simp [hcells]
theorem hcells_drop (l : List (Int × Int)) (k : Nat) : (hcells l).drop (k * 2) = hcells (l.drop k) := by
  induction l generalizing k with
  | nil => simp [hcells]
  | cons p l ih =>
    cases k with
    | zero => simp
    | succ k =>
      have e : hcells (p :: l) = .int .i64 p.1 :: .int .i64 p.2 :: hcells l := by simp [hcells]
      rw [e, show (k + 1) * 2 = k * 2 + 1 + 1 by omega, List.drop_succ_cons, List.drop_succ_cons, ih]
      simp

theorem ownsRow_hs {w : World} {base g n cap : Nat} {l : List (Int × Int)} {t : TypeId} (h : w.ownsRow base t 2 (.slice (some ⟨g, 0, none⟩) n cap) n (hcells l)) (hi : ∀ p ∈ l, I64 p.1 ∧ I64 p.2) : HsAt w g 0 l := by
  refine ⟨hi, fun i x y he => ?_, (h.lt g rfl).2⟩
  obtain ⟨h1, h2⟩ := hcells_get l i x y he
  have c := h.cells (g := g) rfl
  have e : ∀ j, (⟨g, 0, none⟩ : Addr).add j = ⟨g, 0 + j, none⟩ := fun j => by unfold Addr.add; split <;> simp_all
  refine ⟨?_, ?_⟩
  · have := c _ _ h1; rw [e] at this; exact this
  · have := c _ _ h2; rw [e] at this; rw [show 0 + i * 2 + 1 = 0 + (i * 2 + 1) by omega]; exact this

/-- a slice of handles that the call owns -/
structure RowH (w wr : World) (v : Value) (l : List (Int × Int)) : Prop where
  row : wr.ownsRow w.heap.size 44 2 v l.length (hcells l)
  i64 : ∀ p ∈ l, I64 p.1 ∧ I64 p.2

/-- two slices of handles beside an arena -/
structure Rows2 (w wr : World) (ab bg bt : Nat) (v lv gv : Value) (L G : List (Int × Int)) : Prop where
  hL : RowH w wr lv L
  hG : RowH w wr gv G
  oL : ∀ k, lv.ownBlock = some k → ¬ arFp ab bg bt v k
  oG : ∀ k, gv.ownBlock = some k → ¬ arFp ab bg bt v k
  oLG : ∀ k, lv.ownBlock = some k → gv.ownBlock ≠ some k

theorem RowH.of_block {w wr w' : World} {v : Value} {l : List (Int × Int)} (h : RowH w wr v l) (hb : ∀ k, v.ownBlock = some k → w'.heap[k]? = wr.heap[k]?) : RowH w w' v l := ⟨ownsRow_of_block h.row hb, h.i64⟩
theorem RowH.lt {w wr : World} {v : Value} {l : List (Int × Int)} (h : RowH w wr v l) {k : Nat} (hk : v.ownBlock = some k) : w.heap.size ≤ k ∧ k < wr.heap.size := h.row.lt k hk
theorem RowH.shape {w wr : World} {v : Value} {l : List (Int × Int)} (h : RowH w wr v l) : ∃ a cap, v = .slice a l.length cap := by
  rcases h.row.2 with ⟨rfl, h0⟩ | ⟨g, cap, cur, h0, _⟩
  · exact ⟨none, 0, by rw [h0]⟩
  · exact ⟨_, _, h0⟩
theorem RowH.shape_pos {w wr : World} {v : Value} {l : List (Int × Int)} (h : RowH w wr v l) (hl : 0 < l.length) : ∃ g cap, v = .slice (some ⟨g, 0, none⟩) l.length cap := by
  rcases h.row.2 with ⟨rfl, h0⟩ | ⟨g, cap, cur, h0, _⟩
  · omega
  · exact ⟨_, _, h0⟩
theorem RowH.at {w wr : World} {g n cap : Nat} {l : List (Int × Int)} (h : RowH w wr (.slice (some ⟨g, 0, none⟩) n cap) l) : HsAt wr g 0 l := by
  have hr := h.row
  have e : n = l.length := by
    rcases hr.2 with ⟨h0, _⟩ | ⟨g, cap, cur, h0, _⟩
    · cases h0
    · cases h0; rfl
  subst e
  exact ownsRow_hs hr h.i64

theorem Rows2.of_block {w wr w' : World} {ab bg bt : Nat} {v lv gv : Value} {L G : List (Int × Int)} (h : Rows2 w wr ab bg bt v lv gv L G) (hb : ∀ k, k < wr.heap.size → ¬ arFp ab bg bt v k → w'.heap[k]? = wr.heap[k]?) : Rows2 w w' ab bg bt v lv gv L G :=
  ⟨h.hL.of_block (fun k hk => hb k (h.hL.lt hk).2 (h.oL k hk)), h.hG.of_block (fun k hk => hb k (h.hG.lt hk).2 (h.oG k hk)), h.oL, h.oG, h.oLG⟩
theorem Rows2.alloc {w wr : World} {ab bg bt : Nat} {v lv gv : Value} {L G : List (Int × Int)} (h : Rows2 w wr ab bg bt v lv gv L G) (X : Obj) : Rows2 w (wr.alloc X) ab bg bt v lv gv L G :=
  h.of_block (fun _ hk _ => Below.heap_alloc _ _ _ hk)
theorem Rows2.below {w wr w' : World} {ab bg bt : Nat} {v lv gv : Value} {L G : List (Int × Int)} (h : Rows2 w wr ab bg bt v lv gv L G) (hb : Below wr.heap.size wr w') : Rows2 w w' ab bg bt v lv gv L G :=
  h.of_block (fun _ hk _ => hb.block _ hk)
theorem Rows2.step {w wr w' : World} {ab bg bt : Nat} {v v' lv gv : Value} {L G : List (Int × Int)} (h : Rows2 w wr ab bg bt v lv gv L G) (hc : Chg wr w' (arFp ab bg bt v)) (ho : ∀ k, v'.ownBlock = some k → v.ownBlock = some k ∨ wr.heap.size ≤ k) : Rows2 w w' ab bg bt v' lv gv L G := by
  have h1 := h.of_block (w' := w') (fun k hk hn => hc.block k hk hn)
  exact ⟨h1.hL, h1.hG, fun k hk => arFp_step (h.oL k hk) (h.hL.lt hk).2 ho, fun k hk => arFp_step (h.oG k hk) (h.hG.lt hk).2 ho, h.oLG⟩

theorem ArS.grown {w W W' : World} {ab bg bt : Nat} {v : Value} {s : Ar} {c : Nat} {r : Option Nat} (h : ArS w W ab bg bt v s c) (hg : W.grownBy W' r) (hr : ∀ k, r = some k → ¬ arFp ab bg bt v k ∧ w.heap.size ≤ k) : ArS w W' ab bg bt v s c := by
  refine ⟨h.ar.keep (fun k hk => hg.block k (h.ar.lt hk) (fun e => (hr k e.symm).1 hk)), ?_, h.own⟩
  exact h.bel.trans ⟨hg.os, hg.tape, hg.output, hg.size, fun k hk => hg.block k (Nat.lt_of_lt_of_le hk h.bel.size) (fun e => by have := (hr k e.symm).2; omega)⟩

/-- append to the first of the two -/
theorem Rows2.more {w W W' : World} {ab bg bt : Nat} {v lv lv' gv : Value} {L L' G : List (Int × Int)} {s : Ar} {c : Nat} (hA : ArC W ab bg bt v s c) (h : Rows2 w W ab bg bt v lv gv L G) (hg : W.grownBy W' lv.ownBlock)
    (hrow : W'.ownsRow w.heap.size 44 2 lv' L'.length (hcells L')) (hi : ∀ p ∈ L', I64 p.1 ∧ I64 p.2) (hat : lv'.ownBlock = lv.ownBlock ∨ lv'.ownBlock = some W.heap.size) : Rows2 w W' ab bg bt v lv' gv L' G := by
  refine ⟨⟨hrow, hi⟩, h.hG.of_block (fun k hk => hg.block k (h.hG.lt hk).2 (fun e => h.oLG k e.symm hk)), ?_, h.oG, ?_⟩
  · intro k hk
    rcases hat with e | e
    · exact h.oL k (e ▸ hk)
    · rw [e] at hk; cases hk
      exact fun hf => Nat.lt_irrefl _ (hA.lt hf)
  · intro k hk hk'
    rcases hat with e | e
    · exact h.oLG k (e ▸ hk) hk'
    · rw [e] at hk; cases hk
      exact Nat.lt_irrefl _ (h.hG.lt hk').2
theorem Rows2.swap {w wr : World} {ab bg bt : Nat} {v lv gv : Value} {L G : List (Int × Int)} (h : Rows2 w wr ab bg bt v lv gv L G) : Rows2 w wr ab bg bt v gv lv G L :=
  ⟨h.hG, h.hL, h.oG, h.oL, fun k hk hk' => h.oLG k hk' hk⟩

def OnceAt (w : World) (N ab bg bt c : Nat) (lv gv : Value) (wr : World) : Prop :=
  ∃ v s L G, ArS w wr ab bg bt v s c ∧ s.room = N ∧ OnceInv s L G ∧ Rows2 w wr ab bg bt v lv gv L G ∧ G.length ≤ c

def OnceRel (w : World) (N ab bg bt pn : Nat) (lv gv i : Value) (wr : World) : Prop :=
  ∃ k : Nat, k ≤ pn ∧ i = .int .i64 k ∧ OnceAt w N ab bg bt (2 * k) lv gv wr

theorem OnceAt.below {w W W' : World} {N ab bg bt c : Nat} {lv gv : Value} (h : OnceAt w N ab bg bt c lv gv W) (hb : Below W.heap.size W W') : OnceAt w N ab bg bt c lv gv W' := by
  obtain ⟨v, s, L, G, h1, h2, h3, h4, h5⟩ := h
  exact ⟨v, s, L, G, h1.below hb, h2, h3, h4.below hb, h5⟩
theorem ArS.mono {w W : World} {ab bg bt : Nat} {v : Value} {s : Ar} {c c' : Nat} (h : ArS w W ab bg bt v s c) (hc : c ≤ c') (hl : c' ≤ 1099511627776) : ArS w W ab bg bt v s c' := ⟨h.ar.mono hc hl, h.bel, h.own⟩
theorem ArC.genI {w : World} {ab bg bt : Nat} {v : Value} {s : Ar} {c : Nat} (h : ArC w ab bg bt v s c) (x : Int) : I64 (s.gens x) := by
  have := h.ok.gens x; have := h.ok.cnt; constructor <;> omega

/-- Take found no slot -/
theorem OnceAt.full {w wr w3 : World} {N ab bg bt c : Nat} {v v3 lv gv : Value} {s : Ar} {L G : List (Int × Int)} (hS : ArS w wr ab bg bt v s c) (hroom : s.room = N) (hinv : OnceInv s L G) (hR : Rows2 w wr ab bg bt v lv gv L G) (hG : G.length ≤ c)
    (hsame : s.take = s) (hA : ArC w3 ab bg bt v3 s.take c) (hc : Chg wr w3 (arFp ab bg bt v)) (ho : ∀ k, v3.ownBlock = some k → v.ownBlock = some k ∨ wr.heap.size ≤ k) (X : Obj) (hcn : c + 2 ≤ 1099511627776) : OnceAt w N ab bg bt (c + 2) lv gv (w3.alloc X) := by
  rw [hsame] at hA
  exact ⟨v3, s, L, G, ((hS.step hA hc ho).alloc X).mono (by omega) hcn, hroom, hinv, (hR.step hc ho).alloc X, by omega⟩

/-- Take found one: the handle is appended -/
theorem OnceAt.took {w wr w3 W W' : World} {N ab bg bt c : Nat} {v v3 lv lv' gv : Value} {s : Ar} {L G : List (Int × Int)} {x : Int} {X Y : Obj} (hS : ArS w wr ab bg bt v s c) (hroom : s.room = N) (hinv : OnceInv s L G) (hR : Rows2 w wr ab bg bt v lv gv L G) (hG : G.length ≤ c)
    (hx : s.taken x = false) (hx0 : 0 ≤ x) (hxr : x < s.room) (ht : ∀ y, s.take.taken y = (decide (y = x) || s.taken y)) (hg : s.take.gens = s.gens) (hrm : s.take.room = s.room) (hl : s.take.free.length + s.fresh + 1 = s.free.length + s.take.fresh)
    (hA : ArC w3 ab bg bt v3 s.take c) (hc : Chg wr w3 (arFp ab bg bt v)) (ho : ∀ k, v3.ownBlock = some k → v.ownBlock = some k ∨ wr.heap.size ≤ k) (hW : Below (w3.alloc X).heap.size (w3.alloc X) W)
    (hrow : W'.ownsRow w.heap.size 44 2 lv' (L.length + 1) (hcells L ++ [.int .i64 x, .int .i64 (s.gens x)])) (hgr : (W.alloc Y).grownBy W' lv.ownBlock) (hat : lv'.ownBlock = lv.ownBlock ∨ lv'.ownBlock = some (W.alloc Y).heap.size) (hcn : c + 2 ≤ 1099511627776) : OnceAt w N ab bg bt (c + 2) lv' gv W' := by
  have hS1 := (((hS.step hA hc ho).alloc X).below hW).alloc Y
  have hR1 := (((hR.step hc ho).alloc X).below hW).alloc Y
  obtain ⟨hi, hne⟩ := hinv.took hx ht hg hl
  have hxi : I64 x := by have := hS.ar.ok.room; constructor <;> omega
  have e : hcells (L ++ [(x, s.gens x)]) = hcells L ++ [.int .i64 x, .int .i64 (s.gens x)] := by rw [hcells_append]; rfl
  have hR2 := Rows2.more hS1.ar hR1 hgr (L' := L ++ [(x, s.gens x)]) (by rw [e]; simpa using hrow) (by
    intro p hp
    rw [List.mem_append, List.mem_singleton] at hp
    rcases hp with hp | rfl
    · exact hR.hL.i64 p hp
    · exact ⟨hxi, hS.ar.genI x⟩) hat
  exact ⟨v3, s.take, _, G, (hS1.grown hgr (fun k hk => ⟨hR1.oL k hk, (hR1.hL.lt hk).1⟩)).mono (by omega) hcn, hrm.trans hroom, hi, hR2, by omega⟩

theorem row_shape2 {w : World} {base n size : Nat} {e : TypeId} {v : Value} {xs : List Value} (h : w.ownsRow base e size v (n + 1) xs) : ∃ g cap, v = .slice (some ⟨g, 0, none⟩) (n + 1) cap := by
  rcases h.2 with ⟨_, h0⟩ | ⟨g, cap, cur, h0, _⟩
  · omega
  · exact ⟨g, cap, h0⟩
theorem infoHandle : (Try.prog.info? 44).map (fun i => (i.zero, i.size, i.bytes)) = some (some (.agg #[.int .i64 0, .int .i64 0]), 2, 16) := by kernel_rfl

/-- the ways through a round of ArenaOnce -/
theorem once_cases {w wr : World} {N ab bg bt c : Nat} {v lv gv : Value} {s : Ar} {L G : List (Int × Int)} (z : Int) (hS : ArS w wr ab bg bt v s c) (hroom : s.room = N) (hN : 1 ≤ N) (hinv : OnceInv s L G) (hR : Rows2 w wr ab bg bt v lv gv L G) :
    (∃ a cap, lv = .slice a L.length cap ∧ (z.tmod 3 != 0) = true ∧ N ≤ L.length ∧ s.takeRes = (0, 0, 50) ∧ s.take = s) ∨
    (∃ a cap x, lv = .slice a L.length cap ∧ (z.tmod 3 != 0) = true ∧ L.length < N ∧ s.takeRes = (x, s.gens x, 0) ∧ s.taken x = false ∧ 0 ≤ x ∧ x < s.room ∧ (∀ y, s.take.taken y = (decide (y = x) || s.taken y)) ∧ s.take.gens = s.gens ∧ s.take.room = s.room ∧ s.take.free.length + s.fresh + 1 = s.free.length + s.take.fresh) ∨
    (∃ a cap x, lv = .slice a L.length cap ∧ ((z.tmod 3 != 0) = false ∧ ((L.length : Int) == 0) = true) ∧ L.length < N ∧ s.takeRes = (x, s.gens x, 0) ∧ s.taken x = false ∧ 0 ≤ x ∧ x < s.room ∧ (∀ y, s.take.taken y = (decide (y = x) || s.taken y)) ∧ s.take.gens = s.gens ∧ s.take.room = s.room ∧ s.take.free.length + s.fresh + 1 = s.free.length + s.take.fresh) ∨
    (∃ g cap, lv = .slice (some ⟨g, 0, none⟩) L.length cap ∧ (z.tmod 3 != 0) = false ∧ ((L.length : Int) == 0) = false ∧ 0 < L.length) := by
  have hlen := hinv.len
  obtain ⟨a, cap, hl⟩ := hR.hL.shape
  cases ht : (z.tmod 3 != 0)
  · rcases Nat.eq_zero_or_pos L.length with h0 | h0
    · rcases Ar.take_cases hS.ar.ok with ⟨hf, hfr, hres, hsame⟩ | ⟨x, hres, hx, hx0, hxr, htk, hgens, hrm, hcnt, hok, hroomy⟩
      · have := hinv.full hf hfr; omega
      · exact .inr (.inr (.inl ⟨a, cap, x, hl, ⟨rfl, by rw [h0]; rfl⟩, by omega, hres, hx, hx0, hxr, htk, hgens, hrm, hcnt⟩))
    · obtain ⟨g, cap, hl⟩ := hR.hL.shape_pos h0
      exact .inr (.inr (.inr ⟨g, cap, hl, rfl, by rw [beq_eq_false_iff_ne]; omega, h0⟩))
  · rcases Ar.take_cases hS.ar.ok with ⟨hf, hfr, hres, hsame⟩ | ⟨x, hres, hx, hx0, hxr, htk, hgens, hrm, hcnt, hok, hroomy⟩
    · exact .inl ⟨a, cap, hl, rfl, by have := hinv.full hf hfr; omega, hres, hsame⟩
    · exact .inr (.inl ⟨a, cap, x, hl, rfl, by omega, hres, hx, hx0, hxr, htk, hgens, hrm, hcnt⟩)

theorem addr_add (g o j : Nat) : (⟨g, o, none⟩ : Addr).add j = ⟨g, o + j, none⟩ := by unfold Addr.add; split <;> simp_all
/-- the cells of the first of some handles -/
theorem RowH.news_take {w wr W : World} {g n cap : Nat} {l : List (Int × Int)} (h : RowH w wr (.slice (some ⟨g, 0, none⟩) n cap) l) (hb : W.heap[g]? = wr.heap[g]?) (q : Nat) : ∀ j u, (hcells (l.take q))[j]? = some u → W.cell? ((⟨g, 0, none⟩ : Addr).add j) = some u := by
  intro j u hu
  rw [← hcells_take, List.getElem?_take] at hu
  split at hu
  · rw [World.cell?_of_block (w := wr) (by rw [addr_add]; exact hb)]
    exact h.row.cells (g := g) rfl j u hu
  · cases hu
theorem RowH.news_drop {w wr W : World} {g n cap : Nat} {l : List (Int × Int)} (h : RowH w wr (.slice (some ⟨g, 0, none⟩) n cap) l) (hb : W.heap[g]? = wr.heap[g]?) (q : Nat) : ∀ j u, (hcells (l.drop q))[j]? = some u → W.cell? ((⟨g, q * 2, none⟩ : Addr).add j) = some u := by
  intro j u hu
  rw [← hcells_drop, List.getElem?_drop] at hu
  rw [World.cell?_of_block (w := wr) (by rw [addr_add]; exact hb), addr_add]
  have := h.row.cells (g := g) rfl _ u hu
  rwa [addr_add, Nat.zero_add] at this

theorem Rows2.fresh {w w4 w6 : World} {ab bg bt : Nat} {v lv gv v6 : Value} {L G L' : List (Int × Int)} {s : Ar} {c : Nat} (hA : ArC w4 ab bg bt v s c) (R : Rows2 w w4 ab bg bt v lv gv L G) (hb : Below w4.heap.size w4 w6)
    (row : w6.ownsRow w.heap.size 44 2 v6 L'.length (hcells L')) (hi : ∀ p ∈ L', I64 p.1 ∧ I64 p.2) (hnew : ∀ k, v6.ownBlock = some k → w4.heap.size ≤ k) : Rows2 w w6 ab bg bt v v6 gv L' G := by
  have R' := R.below hb
  refine ⟨⟨row, hi⟩, R'.hG, fun k hk hf => ?_, R'.oG, fun k hk hk' => ?_⟩
  · have := hnew k hk; have := hA.lt hf; omega
  · have := hnew k hk; have := (R.hG.lt hk').2; omega

/-- two appends of parts of the live ones, one behind the other, to a new slice -/
theorem erase_rows {w w4 w5 w6 : World} {q : Nat} {L : List (Int × Int)} {v5 v6 : Value} {X : Obj} (hq : q < L.length)
    (g5 : (w4.alloc X).drew.grownBy w5 (some w4.heap.size)) (a5 : v5.ownBlock = some w4.heap.size ∨ v5.ownBlock = some (w4.alloc X).drew.heap.size)
    (row6 : w6.ownsRow w.heap.size 44 2 v6 (0 + q + (L.length - (q + 1))) ([] ++ hcells (L.take q) ++ hcells (L.drop (q + 1)))) (g6 : w5.grownBy w6 v5.ownBlock) (a6 : v6.ownBlock = v5.ownBlock ∨ v6.ownBlock = some w5.heap.size) :
    Below w4.heap.size w4 w6 ∧ w6.ownsRow w.heap.size 44 2 v6 (L.eraseIdx q).length (hcells (L.eraseIdx q)) ∧ ∀ k, v6.ownBlock = some k → w4.heap.size ≤ k := by
  have z4 : (w4.alloc X).drew.heap.size = w4.heap.size + 1 := size_alloc _ _
  have z5 := g5.size
  have b5 : Below w4.heap.size w4 w5 := ((Below.refl w4.heap.size w4).alloc (Nat.le_refl _) X).drew.grown g5 (by rw [z4]; omega) (fun k hk => by cases hk; exact Nat.le_refl _)
  have n5 : ∀ k, v5.ownBlock = some k → w4.heap.size ≤ k := fun k hk => by
    rcases a5 with e | e
    · rw [e] at hk; cases hk; exact Nat.le_refl _
    · rw [e] at hk; cases hk; omega
  refine ⟨b5.grown g6 b5.size (fun k hk => n5 k hk), ?_, ?_⟩
  · have e1 : L.eraseIdx q = L.take q ++ L.drop (q + 1) := List.eraseIdx_eq_take_drop_succ _ _
    have e2 : (L.eraseIdx q).length = 0 + q + (L.length - (q + 1)) := by rw [List.length_eraseIdx, if_pos hq]; omega
    rw [e2, e1, hcells_append]
    simpa using row6
  · intro k hk
    rcases a6 with e | e
    · exact n5 k (e ▸ hk)
    · rw [e] at hk; cases hk; exact b5.size

theorem OnceAt.freed {w w4 w6 W' : World} {N ab bg bt c q : Nat} {v lv gv v6 gv' : Value} {s : Ar} {L G : List (Int × Int)} {x g : Int} {Y : Obj} (hS : ArS w w4 ab bg bt v (s.put x) (c + 1 + 1)) (hroom : s.room = N) (hinv : OnceInv (s.put x) (L.eraseIdx q) (G ++ [(x, g)])) (hR : Rows2 w w4 ab bg bt v lv gv L G) (hG : G.length ≤ c) (hxi : I64 x) (hgi : I64 g)
    (b6 : Below w4.heap.size w4 w6) (row6 : w6.ownsRow w.heap.size 44 2 v6 (L.eraseIdx q).length (hcells (L.eraseIdx q))) (n6 : ∀ k, v6.ownBlock = some k → w4.heap.size ≤ k)
    (hrow : W'.ownsRow w.heap.size 44 2 gv' (G.length + 1) (hcells G ++ [.int .i64 x, .int .i64 g])) (hgr : (w6.alloc Y).grownBy W' gv.ownBlock) (hat : gv'.ownBlock = gv.ownBlock ∨ gv'.ownBlock = some (w6.alloc Y).heap.size) : OnceAt w N ab bg bt (c + 2) v6 gv' W' := by
  have hS1 := (hS.below b6).alloc Y
  have hR1 := (Rows2.fresh hS.ar hR b6 row6 (fun p hp => hR.hL.i64 p ((List.eraseIdx_sublist _ _).subset hp)) n6).alloc Y
  have e : hcells (G ++ [(x, g)]) = hcells G ++ [.int .i64 x, .int .i64 g] := by rw [hcells_append]; rfl
  have hR2 := Rows2.more hS1.ar hR1.swap hgr (L' := G ++ [(x, g)]) (by rw [e]; simpa using hrow) (by
    intro p hp
    rw [List.mem_append, List.mem_singleton] at hp
    rcases hp with hp | rfl
    · exact hR.hG.i64 p hp
    · exact ⟨hxi, hgi⟩) hat
  exact ⟨v, s.put x, _, _, hS1.grown hgr (fun k hk => ⟨hR1.oG k hk, (hR1.hG.lt hk).1⟩), hroom, hinv, hR2.swap, by simp; omega⟩

end Go.Proofs.Ytaanohgkdpohhaa
