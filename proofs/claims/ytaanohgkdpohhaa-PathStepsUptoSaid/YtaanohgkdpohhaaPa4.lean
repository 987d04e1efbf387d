/- Layer 19: path.back. Conditions: each contract's own premises. -/
import Derived.Test.YtaanohgkdpohhaaPa3
import Derived.Deep.Cut
namespace Go.Proofs.Ytaanohgkdpohhaa
open Go.RowKit Go.Maps

def pAsk (fr t : Int) (lab : ByteArray) (most : Nat) : Array Value := #[.int .i64 fr, .int .i64 t, .string lab, .int .i64 (most : Int)]
/-- what back has in memory: its walk, its map, its rows -/
structure InC (w0 w wr : World) (wb gb : Nat) (V : List Vt) (t : Int) (cs : Array Value) (st : Option Nat) (d : DM) (rv : Value) (row : List Int) (nv : Value) (next : List Int) (lv : Value) (L : List Int) : Prop where
  bk : BkC w0 w wr wb gb V t cs st d
  or : kI.Own wr (w.heap.size + 2) rv row
  on : kI.Own wr (w.heap.size + 2) nv next
  ol : kI.Own wr (w.heap.size + 2) lv L
  s1 : ∀ j, nv.ownBlock = some j → rv.ownBlock ≠ some j
  s2 : ∀ j, nv.ownBlock = some j → lv.ownBlock ≠ some j
section
variable {w0 w wr w' : World} {wb gb : Nat} {V : List Vt} {t : Int} {cs : Array Value} {st st' : Option Nat} {d d' : DM} {rv nv lv lv' v8 : Value} {row next L L' : List Int}
theorem BkC.size (h : BkC w0 w wr wb gb V t cs st d) : w.heap.size + 2 ≤ wr.heap.size := by
  have := h.dm.lt
  omega
theorem InC.put (h : InC w0 w wr wb gb V t cs st d rv row nv next lv L) (ht : wr.mapTurned w' (w.heap.size + 1)) (hd : DmC w' (w.heap.size + 1) d') (hn : (keysD d').Nodup) (hs : ∀ v ∈ keysD d', v = t ∨ ∃ u ∈ V, u.id = v) : InC w0 w w' wb gb V t cs st d' rv row nv next lv L := by
  have key : ∀ {v : Value} {l : List Int}, kI.Own wr (w.heap.size + 2) v l → kI.Own w' (w.heap.size + 2) v l := fun {v l} o => o.grown ht.grown (fun j hj e => by
    have := (o.lt j hj).1
    injection e with e
    omega)
  exact ⟨h.bk.turn ht hd hn hs, key h.or, key h.on, key h.ol, h.s1, h.s2⟩
theorem InC.alloc (h : InC w0 w wr wb gb V t cs st d rv row nv next lv L) (X : Obj) : InC w0 w (wr.alloc X) wb gb V t cs st d rv row nv next lv L :=
  ⟨h.bk.below (below_box wr X), h.or.alloc X, h.on.alloc X, h.ol.alloc X, h.s1, h.s2⟩
theorem InC.app {X : List Int} (h : InC w0 w wr wb gb V t cs st d rv row nv next lv L) (ho : kI.Own w' (w.heap.size + 2) v8 X) (hg : wr.grownBy w' nv.ownBlock) (hk : v8.ownBlock = nv.ownBlock ∨ v8.ownBlock = some wr.heap.size) : InC w0 w w' wb gb V t cs st d rv row v8 X lv L := by
  refine ⟨h.bk.grown hg (fun j hj => (h.on.lt j hj).1), h.or.grown hg (fun j hj e => h.s1 j e.symm hj), ho, h.ol.grown hg (fun j hj e => h.s2 j e.symm hj), fun j hj e => ?_, fun j hj e => ?_⟩
  · rcases hk with hk | hk
    · exact h.s1 j (hk ▸ hj) e
    · rw [hk] at hj
      injection hj with hj
      have := (h.or.lt j e).2
      omega
  · rcases hk with hk | hk
    · exact h.s2 j (hk ▸ hj) e
    · rw [hk] at hj
      injection hj with hj
      have := (h.ol.lt j e).2
      omega
theorem InC.call (h : InC w0 w wr wb gb V t cs st d rv row nv next lv L) (hs : WkS w0 w' wb gb st') (hc : Chg wr w' (fun i => i = wb)) (ho : kI.Own w' wr.heap.size lv' L') : InC w0 w w' wb gb V t cs st' d rv row nv next lv' L' := by
  have hl := h.bk.lt
  have key : ∀ {v : Value} {l : List Int}, kI.Own wr (w.heap.size + 2) v l → kI.Own w' (w.heap.size + 2) v l := fun {v l} o => o.chg hc (fun j hj e => by
    have := (o.lt j hj).1
    omega)
  refine ⟨h.bk.next hs hc, key h.or, key h.on, ho.mono h.bk.size, h.s1, fun j hj e => ?_⟩
  have h1 := (h.on.lt j hj).2
  have h2 := (ho.lt j e).1
  omega
theorem InC.noL (h : InC w0 w wr wb gb V t cs st d rv row nv next lv L) : InC w0 w wr wb gb V t cs st d rv row nv next (.slice none 0 0) [] :=
  ⟨h.bk, h.or, h.on, RowK.Own.nil kI _ _, h.s1, fun j _ e => by cases e⟩
theorem InC.turn (h : InC w0 w wr wb gb V t cs st d rv row nv next lv L) : InC w0 w wr wb gb V t cs st d nv next (.slice none 0 0) [] (.slice none 0 0) [] :=
  ⟨h.bk, h.on, RowK.Own.nil kI _ _, RowK.Own.nil kI _ _, (fun j e => by cases e), fun j e => by cases e⟩
theorem BkC.cells {fr t' : Int} {lab : ByteArray} {most : Nat} (h : BkC w0 w wr wb gb V t (pAsk fr t' lab most) st d) :
    wr.cell? ⟨w.heap.size, 0, none⟩ = some (.int .i64 fr) ∧ wr.cell? ⟨w.heap.size, 1, none⟩ = some (.int .i64 t') ∧ wr.cell? ⟨w.heap.size, 2, none⟩ = some (.string lab) ∧ wr.cell? ⟨w.heap.size, 3, none⟩ = some (.int .i64 (most : Int)) :=
  ⟨by rw [cell_of_blk h.box]; rfl, by rw [cell_of_blk h.box]; rfl, by rw [cell_of_blk h.box]; rfl, by rw [cell_of_blk h.box]; rfl⟩
/-- a map's store, and what is then kept -/
theorem InC.store {x : Int} {n : Nat} (h : InC w0 w wr wb gb V t cs st d rv row nv next lv L) (hx : x ∉ keysD d) (hi : I64 x) (hin : ∃ u ∈ V, u.id = x) (hV : V.length ≤ 1000000) :
    ∃ w', (Instr.mapUpdate 153 (.map (some (w.heap.size + 1))) (.int .i64 x) (.int .i64 (n : Int))).run Try.prog wr = .ok () w' ∧ InC w0 w w' wb gb V t cs st (d ++ [(x, n)]) rv row nv next lv L ∧ w'.heap.size = wr.heap.size := by
  obtain ⟨f, m, hf⟩ := h.bk.dm
  have hlt : d.length < maxLen := by
    have h1 := h.bk.cnt
    have h2 : (1000001 : Nat) < maxLen := by decide
    omega
  obtain ⟨w', hst, m2, t2⟩ := m.store (val := .int .i64 (n : Int)) lawI Try.underlying153 hlt (keyI hi)
  have hk : keysD (d ++ [(x, n)]) = keysD d ++ [x] := by unfold keysD; rw [List.map_append]; rfl
  refine ⟨w', hst, h.put t2 (DmC.put hf hx hi m2) ?_ ?_, turned_size t2⟩
  · rw [hk]
    refine List.nodup_append.2 ⟨h.bk.nd, by simp, fun a ha b hb e => hx ?_⟩
    obtain rfl : b = x := by simpa using hb
    exact e ▸ ha
  · intro v hv
    rw [hk] at hv
    rcases List.mem_append.1 hv with hv | hv
    · exact h.bk.sub v hv
    · obtain rfl : v = x := by simpa using hv
      exact .inr hin
end
def BkPost (w0 w : World) (wb gb : Nat) (q : Bq) (fr : Int) (most : Nat) (e : Ending) (w' : World) : Prop :=
  ∃ d st, e = .returned (.map (some (w.heap.size + 1))) ∧ DmC w' (w.heap.size + 1) d ∧ WkS w0 w' wb gb st ∧ Chg w w' (fun i => i = wb) ∧ BackM q fr most st d
def OutR (w0 w : World) (wb gb : Nat) (q : Bq) (fr : Int) (most : Nat) (rv nv : Value) (wr : World) : Prop :=
  ∃ (row : List Int) (n : Nat) (st : Option Nat) (d : DM), nv = .int .i64 (n : Int) ∧ n ≤ most + 1 ∧ InC w0 w wr wb gb q.V q.t (pAsk fr q.t q.lab most) st d rv row (.slice none 0 0) [] (.slice none 0 0) [] ∧ OutM q row n st d
def MidR (w0 w : World) (wb gb : Nat) (q : Bq) (fr : Int) (most : Nat) (X row : List Int) (n : Nat) (rv nv iv : Value) (wr : World) : Prop :=
  ∃ (k : Nat) (next : List Int) (st : Option Nat) (d : DM), iv = .int .i64 (k : Int) ∧ k ≤ row.length ∧ InC w0 w wr wb gb q.V q.t (pAsk fr q.t q.lab most) st d rv row nv next (.slice none 0 0) [] ∧ InM q X row n k st d next
def InnR (w0 w : World) (wb gb : Nat) (q : Bq) (fr : Int) (most : Nat) (X row : List Int) (n k : Nat) (st : Option Nat) (L : List Int) (rv lv nv jv : Value) (wr : World) : Prop :=
  ∃ (j : Nat) (next : List Int) (d : DM), jv = .int .i64 (j : Int) ∧ j ≤ L.length ∧ InC w0 w wr wb gb q.V q.t (pAsk fr q.t q.lab most) st d rv row nv next lv L ∧ InI q X row n k st d next L j
end Go.Proofs.Ytaanohgkdpohhaa
