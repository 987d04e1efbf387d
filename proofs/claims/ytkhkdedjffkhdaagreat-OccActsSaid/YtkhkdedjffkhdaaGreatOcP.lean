/- A transaction in memory; (*occ.Txn).to, .done. Conditions: each contract's own premises. (*occ.Txn).to, .done; occ.New. Conditions: each contract's own premises. (*occ.Txn).Fetch. Conditions: the contract's own premises. -/
import Derived.Test.YtkhkdedjffkhdaaGreatOc1
import Derived.Test.YtkhkdedjffkhdaaGreatRdX
import Derived.Test.YtkhkdedjffkhdaaGreatKqA
import Derived.Test.YtkhkdedjffkhdaaGreatCeA
import Derived.Test.YtkhkdedjffkhdaaGreatSxA
import Derived.Deep.Cut
import Derived.BigRegion
import Derived.Deep.CutRange
import Derived.Deep.RegionHeld3
namespace Go.Proofs.YtkhkdedjffkhdaaGreat
open Go.RowKit Go.Maps

/-- a transaction, plainly: who, its phase, what it commits, the same as it is installed, what is checked, which one is next, the greatest stamp, its stamp, its steps -/
structure Tn where
  who : Int
  ph : Int
  W : List Wr
  L : List Wr
  R : List Ky
  i : Nat
  most : Nat
  st : Nat
  n : Nat
/-- where it lies: its block, its sets, its store, its slices -/
structure Tm where
  tb : Nat
  sb : Nat
  cb : Nat
  wa : Option Addr
  la : Option Addr
  ra : Option Addr
  wc : Nat
  lc : Nat
  rc : Nat
def Tm.cells (m : Tm) (T : Tn) : Array Value := #[.pointer (some ⟨m.sb, 0, none⟩), .pointer (some ⟨m.cb, 0, none⟩), .int .i64 T.who, .int .i64 T.ph, .slice m.wa T.W.length m.wc, .slice m.la T.L.length m.lc, .slice m.ra T.R.length m.rc, .int .i64 T.i, .int .u64 T.most, .int .u64 T.st, .int .i64 T.n]
structure TxC (w : World) (m : Tm) (T : Tn) : Prop where
  blk : w.heap[m.tb]? = some (.cells (m.cells T) 71 (0, 0))
  wo : kW.Own w 0 (.slice m.wa T.W.length m.wc) T.W
  lo : kW.Own w 0 (.slice m.la T.L.length m.lc) T.L
  ro : kK.Own w 0 (.slice m.ra T.R.length m.rc) T.R
section
variable {w w' : World} {m : Tm} {T T' : Tn}
theorem TxC.lt (h : TxC w m T) : m.tb < w.heap.size := (Array.getElem?_eq_some_iff.1 h.blk).1
theorem TxC.cell (h : TxC w m T) : w.cell? ⟨m.tb, 0, none⟩ = some (.pointer (some ⟨m.sb, 0, none⟩)) ∧ w.cell? ⟨m.tb, 1, none⟩ = some (.pointer (some ⟨m.cb, 0, none⟩)) ∧ w.cell? ⟨m.tb, 2, none⟩ = some (.int .i64 T.who) ∧ w.cell? ⟨m.tb, 3, none⟩ = some (.int .i64 T.ph) ∧ w.cell? ⟨m.tb, 4, none⟩ = some (.slice m.wa T.W.length m.wc) ∧ w.cell? ⟨m.tb, 5, none⟩ = some (.slice m.la T.L.length m.lc) ∧ w.cell? ⟨m.tb, 6, none⟩ = some (.slice m.ra T.R.length m.rc) ∧ w.cell? ⟨m.tb, 7, none⟩ = some (.int .i64 T.i) ∧ w.cell? ⟨m.tb, 8, none⟩ = some (.int .u64 T.most) ∧ w.cell? ⟨m.tb, 9, none⟩ = some (.int .u64 T.st) ∧ w.cell? ⟨m.tb, 10, none⟩ = some (.int .i64 T.n) ∧ m.tb < w.heap.size :=
  ⟨by rw [cell_of_blk h.blk]; rfl, by rw [cell_of_blk h.blk]; rfl, by rw [cell_of_blk h.blk]; rfl, by rw [cell_of_blk h.blk]; rfl, by rw [cell_of_blk h.blk]; rfl, by rw [cell_of_blk h.blk]; rfl, by rw [cell_of_blk h.blk]; rfl, by rw [cell_of_blk h.blk]; rfl, by rw [cell_of_blk h.blk]; rfl, by rw [cell_of_blk h.blk]; rfl, by rw [cell_of_blk h.blk]; rfl, h.lt⟩
/-- blocks of writes, and of keys, stay -/
def RowsStay (w w' : World) : Prop := ∀ (g : Nat) (cur : Array Value), (w.heap[g]? = some (.cells cur 94 (0, 0)) ∨ w.heap[g]? = some (.cells cur 47 (0, 0))) → w'.heap[g]? = w.heap[g]?
theorem ownW_typed {B : Nat} {v : Value} {l : List Wr} (h : kW.Own w B v l) {j : Nat} (hj : v.ownBlock = some j) : ∃ cur, w.heap[j]? = some (.cells cur 94 (0, 0)) := by
  rcases h.2 with ⟨h1, _⟩ | ⟨g, cp, cur, h1, _, hg, _⟩
  · rw [h1] at hj; cases hj
  · rw [h1] at hj
    injection hj with hj
    subst hj
    exact ⟨cur, hg⟩
theorem ownK_typed {B : Nat} {v : Value} {l : List Ky} (h : kK.Own w B v l) {j : Nat} (hj : v.ownBlock = some j) : ∃ cur, w.heap[j]? = some (.cells cur 47 (0, 0)) := by
  rcases h.2 with ⟨h1, _⟩ | ⟨g, cp, cur, h1, _, hg, _⟩
  · rw [h1] at hj; cases hj
  · rw [h1] at hj
    injection hj with hj
    subst hj
    exact ⟨cur, hg⟩
theorem TxC.keep (h : TxC w m T) (hb : w'.heap[m.tb]? = w.heap[m.tb]?) (hr : RowsStay w w') : TxC w' m T :=
  ⟨hb.trans h.blk, ownsRow_of_block h.wo (fun j hj => by obtain ⟨cur, hg⟩ := ownW_typed h.wo hj; exact hr j cur (.inl hg)), ownsRow_of_block h.lo (fun j hj => by obtain ⟨cur, hg⟩ := ownW_typed h.lo hj; exact hr j cur (.inl hg)), ownsRow_of_block h.ro (fun j hj => by obtain ⟨cur, hg⟩ := ownK_typed h.ro hj; exact hr j cur (.inr hg))⟩
theorem RowsStay.below (hb : Below w.heap.size w w') : RowsStay w w' := fun g cur hg => hb.block g (by rcases hg with hg | hg <;> exact (Array.getElem?_eq_some_iff.1 hg).1)
theorem RowsStay.trans {w2 : World} (h : RowsStay w w') (k : RowsStay w' w2) : RowsStay w w2 := fun g cur hg => by
  have e := h g cur hg
  exact (k g cur (by rw [e]; exact hg)).trans e
theorem TxC.below (h : TxC w m T) (hb : Below w.heap.size w w') : TxC w' m T := h.keep (hb.block _ h.lt) (RowsStay.below hb)
theorem TxC.rows (h : TxC w m T) (hc : Chg w w' (fun j => j = m.tb)) : RowsStay w w' := fun g cur hg => hc.block g (by rcases hg with hg | hg <;> exact (Array.getElem?_eq_some_iff.1 hg).1) (fun e => by
  subst e
  have hb := h.blk
  rcases hg with hg | hg <;> rw [hg] at hb <;> injection hb with hb <;> injection hb with e1 e2 <;> exact absurd e2 (by decide))
/-- its own cells have changed, its slices haven't -/
theorem TxC.upd (h : TxC w m T) (hc : Chg w w' (fun j => j = m.tb)) (hb : w'.heap[m.tb]? = some (.cells (m.cells T') 71 (0, 0))) (h1 : T'.W = T.W) (h2 : T'.L = T.L) (h3 : T'.R = T.R) : TxC w' m T' := by
  have hr := h.rows hc
  have k := h.wo
  refine ⟨hb, ?_, ?_, ?_⟩
  · rw [h1]; exact ownsRow_of_block h.wo (fun j hj => by obtain ⟨cur, hg⟩ := ownW_typed h.wo hj; exact hr j cur (.inl hg))
  · rw [h2]; exact ownsRow_of_block h.lo (fun j hj => by obtain ⟨cur, hg⟩ := ownW_typed h.lo hj; exact hr j cur (.inl hg))
  · rw [h3]; exact ownsRow_of_block h.ro (fun j hj => by obtain ⟨cur, hg⟩ := ownK_typed h.ro hj; exact hr j cur (.inr hg))
theorem TxC.to2 (h : TxC w m T) (ph : Int) (i : Nat) : TxC ((w.setCell ⟨m.tb, 3, none⟩ (.int .i64 ph)).setCell ⟨m.tb, 7, none⟩ (.int .i64 i)) m { T with ph := ph, i := i } ∧ Chg w ((w.setCell ⟨m.tb, 3, none⟩ (.int .i64 ph)).setCell ⟨m.tb, 7, none⟩ (.int .i64 i)) (fun j => j = m.tb) := by
  have hc : Chg w ((w.setCell ⟨m.tb, 3, none⟩ (.int .i64 ph)).setCell ⟨m.tb, 7, none⟩ (.int .i64 i)) (fun j => j = m.tb) := ((Chg.refl w (fun j => j = m.tb)).setCell (p := ⟨m.tb, 3, none⟩) (fun _ => rfl) _).setCell (p := ⟨m.tb, 7, none⟩) (fun _ => rfl) _
  refine ⟨h.upd hc ?_ rfl rfl rfl, hc⟩
  rw [blk_setCell (blk_setCell h.blk _) _]
  simp [Tm.cells]
end
/-- the phase that one comes to -/
def phT (T : Tn) (ph : Int) : Int :=
  if ph = 1 then (if T.W = [] then 2 else 1)
  else if ph = 3 then (if T.R = [] then (if T.W = [] then 5 else 4) else 3)
  else if ph = 4 then (if T.W = [] then 5 else 4)
  else ph
def toT (T : Tn) (ph : Int) : Tn := { T with ph := phT T ph, i := 0 }
def ToPost (w : World) (m : Tm) (T : Tn) (e : Ending) (w' : World) : Prop := e = .returned (.tuple #[]) ∧ TxC w' m T ∧ Chg w w' (fun j => j = m.tb)
section
variable {w : World} {m : Tm} {T : Tn}
set_option maxRecDepth 100000 in
theorem to_plain (h : TxC w m T) (ph : Int) (hp : ph ≠ 1 ∧ ph ≠ 3 ∧ ph ≠ 4 ∨ (ph = 1 ∧ T.W ≠ []) ∨ (ph = 3 ∧ T.R ≠ []) ∨ (ph = 4 ∧ T.W ≠ [])) : Calls Tryz.prog 47 #[.pointer (some ⟨m.tb, 0, none⟩), .int .i64 ph] w (ToPost w m { T with ph := ph, i := 0 }) := by
  obtain ⟨c0, c1, c2, c3, c4, c5, c6, c7, c8, c9, c10, cl⟩ := h.cell
  have f3 := frozen_of_blk h.blk 3
  have f7 := frozen_of_blk h.blk 7
  have HT := Lib.hid (h.to2 ph 0)
  obtain ⟨nw, hnw⟩ : ∃ n, n = T.W.length := ⟨_, rfl⟩
  obtain ⟨nr, hnr⟩ : ∃ n, n = T.R.length := ⟨_, rfl⟩
  rw [← hnw] at c4
  rw [← hnr] at c6
  have hw0 : T.W ≠ [] → ((nw : Int) == 0) = false := fun h => by
    have := List.length_pos_iff.2 h
    simp; omega
  have hr0 : T.R ≠ [] → ((nr : Int) == 0) = false := fun h => by
    have := List.length_pos_iff.2 h
    simp; omega
  clear h hnw hnr
  rcases hp with ⟨h1, h2, h3⟩ | ⟨rfl, h1⟩ | ⟨rfl, h1⟩ | ⟨rfl, h1⟩
  · have t1 : (ph == 1) = false := by simpa using h1
    have t2 : (ph == 3) = false := by simpa using h2
    have t3 : (ph == 4) = false := by simpa using h3
    clear hw0 hr0 h1 h2 h3
    go_enter Tryz.func47, Tryz.ntmps47
    go_wp2_with fail
    go_end0
    exact ⟨rfl, HT.out⟩
  · have t1 := hw0 h1
    clear hw0 hr0 h1
    go_enter Tryz.func47, Tryz.ntmps47
    go_wp2_with fail
    go_end0
    exact ⟨rfl, HT.out⟩
  · have t1 := hr0 h1
    clear hw0 hr0 h1
    go_enter Tryz.func47, Tryz.ntmps47
    go_wp2_with fail
    go_end0
    exact ⟨rfl, HT.out⟩
  · have t1 := hw0 h1
    clear hw0 hr0 h1
    go_enter Tryz.func47, Tryz.ntmps47
    go_wp2_with fail
    go_end0
    exact ⟨rfl, HT.out⟩
end
end Go.Proofs.YtkhkdedjffkhdaaGreat
namespace Go.Proofs.YtkhkdedjffkhdaaGreat
open Go.RowKit Go.Maps

section
variable {w : World} {m : Tm} {T : Tn}
theorem TxC.twice {w1 w2 : World} {T1 T2 : Tn} (_ : TxC w m T) (h1 : TxC w1 m T1 ∧ Chg w w1 (fun j => j = m.tb)) (h2 : TxC w2 m T2 ∧ Chg w1 w2 (fun j => j = m.tb)) : TxC w2 m T2 ∧ Chg w w2 (fun j => j = m.tb) := ⟨h2.1, h1.2.trans h2.2 (fun _ _ e => e)⟩
set_option maxRecDepth 100000 in
/-- one goes on to the next phase, as there is nothing to do in this one -/
theorem to_skip (h : TxC w m T) (ph nx : Int) (T2 : Tn) (hp : (ph = 1 ∧ T.W = [] ∧ nx = 2) ∨ (ph = 3 ∧ T.R = [] ∧ nx = 4) ∨ (ph = 4 ∧ T.W = [] ∧ nx = 5))
    (hn : ∀ w', TxC w' m { T with ph := ph, i := 0 } → Calls Tryz.prog 47 #[.pointer (some ⟨m.tb, 0, none⟩), .int .i64 nx] w' (ToPost w' m T2)) : Calls Tryz.prog 47 #[.pointer (some ⟨m.tb, 0, none⟩), .int .i64 ph] w (ToPost w m T2) := by
  obtain ⟨c0, c1, c2, c3, c4, c5, c6, c7, c8, c9, c10, cl⟩ := h.cell
  have f3 := frozen_of_blk h.blk 3
  have f7 := frozen_of_blk h.blk 7
  have ht := h.to2 ph 0
  have HT := Lib.hid ht
  have HN := Lib.hid (hn _ ht.1)
  have HH := Lib.hid h
  clear hn ht h
  rcases hp with ⟨rfl, h1, rfl⟩ | ⟨rfl, h1, rfl⟩ | ⟨rfl, h1, rfl⟩
  all_goals
    have hz := congrArg List.length h1
    rw [List.length_nil] at hz
    first | rw [hz] at c4 | rw [hz] at c6
    clear h1 hz
    go_enter Tryz.func47, Tryz.ntmps47
    go_wp2_with (go_at_call 47; refine HN.out.mono ?_; rintro e w2 ⟨rfl, h2⟩; have H2 := Lib.hid h2; clear h2)
    go_end0
    exact ⟨rfl, HH.out.twice HT.out H2.out⟩
theorem to_any (h : TxC w m T) (ph : Int) : Calls Tryz.prog 47 #[.pointer (some ⟨m.tb, 0, none⟩), .int .i64 ph] w (ToPost w m (toT T ph)) := by
  have h5 : ∀ w', TxC w' m { T with ph := 4, i := 0 } → Calls Tryz.prog 47 #[.pointer (some ⟨m.tb, 0, none⟩), .int .i64 5] w' (ToPost w' m { T with ph := 5, i := 0 }) := fun w' h' => to_plain h' 5 (.inl ⟨by decide, by decide, by decide⟩)
  unfold toT phT
  by_cases h1 : ph = 1
  · subst h1
    rw [if_pos rfl]
    by_cases hw : T.W = []
    · rw [if_pos hw]
      exact to_skip h 1 2 _ (.inl ⟨rfl, hw, rfl⟩) (fun w' h' => to_plain h' 2 (.inl ⟨by decide, by decide, by decide⟩))
    · rw [if_neg hw]
      exact to_plain h 1 (.inr (.inl ⟨rfl, hw⟩))
  rw [if_neg h1]
  by_cases h3 : ph = 3
  · subst h3
    rw [if_pos rfl]
    by_cases hr : T.R = []
    · rw [if_pos hr]
      refine to_skip h 3 4 _ (.inr (.inl ⟨rfl, hr, rfl⟩)) (fun w' h' => ?_)
      by_cases hw : T.W = []
      · rw [if_pos hw]
        exact to_skip h' 4 5 _ (.inr (.inr ⟨rfl, hw, rfl⟩)) (fun w'' h'' => to_plain h'' 5 (.inl ⟨by decide, by decide, by decide⟩))
      · rw [if_neg hw]
        exact to_plain h' 4 (.inr (.inr (.inr ⟨rfl, hw⟩)))
    · rw [if_neg hr]
      exact to_plain h 3 (.inr (.inr (.inl ⟨rfl, hr⟩)))
  rw [if_neg h3]
  by_cases h4 : ph = 4
  · subst h4
    rw [if_pos rfl]
    by_cases hw : T.W = []
    · rw [if_pos hw]
      exact to_skip h 4 5 _ (.inr (.inr ⟨rfl, hw, rfl⟩)) (fun w' h' => to_plain h' 5 (.inl ⟨by decide, by decide, by decide⟩))
    · rw [if_neg hw]
      exact to_plain h 4 (.inr (.inr (.inr ⟨rfl, hw⟩)))
  rw [if_neg h4]
  exact to_plain h ph (.inl ⟨h1, h3, h4⟩)
/-- one of so many is done -/
def doneT (T : Tn) (of : Nat) (nx : Int) : Tn := if T.i + 1 = of then toT { T with i := T.i + 1 } nx else { T with i := T.i + 1 }
theorem TxC.at1 (h : TxC w m T) (i : Nat) : TxC (w.setCell ⟨m.tb, 7, none⟩ (.int .i64 i)) m { T with i := i } ∧ Chg w (w.setCell ⟨m.tb, 7, none⟩ (.int .i64 i)) (fun j => j = m.tb) := by
  have hc : Chg w (w.setCell ⟨m.tb, 7, none⟩ (.int .i64 i)) (fun j => j = m.tb) := (Chg.refl w (fun j => j = m.tb)).setCell (p := ⟨m.tb, 7, none⟩) (fun _ => rfl) _
  refine ⟨h.upd hc ?_ rfl rfl rfl, hc⟩
  rw [blk_setCell h.blk _]
  simp [Tm.cells]
set_option maxRecDepth 100000 in
theorem done_any (h : TxC w m T) (of : Nat) (nx : Int) (hi : T.i ≤ 1000000) : Calls Tryz.prog 86 #[.pointer (some ⟨m.tb, 0, none⟩), .int .i64 of, .int .i64 nx] w (ToPost w m (doneT T of nx)) := by
  obtain ⟨c0, c1, c2, c3, c4, c5, c6, c7, c8, c9, c10, cl⟩ := h.cell
  have f7 := frozen_of_blk h.blk 7
  obtain ⟨i, hi0⟩ : ∃ i, i = T.i := ⟨_, rfl⟩
  have h1 := h.at1 (i + 1)
  have hn := to_any h1.1 nx
  unfold doneT
  rw [← hi0] at c7 hi ⊢
  have HT := Lib.hid h1
  have HN := Lib.hid hn
  have HH := Lib.hid h
  have hc : (((i + 1 : Nat)) : Int) = (i : Int) + 1 := by simp
  rw [hc] at HT HN
  clear h1 hn h hi0 hc
  by_cases he : i + 1 = of
  · have t1 : ((i : Int) + 1 == (of : Int)) = true := by simp; omega
    have HP : ∀ (e : Ending) (w' : World), (if i + 1 = of then ToPost w m (toT { T with i := i + 1 } nx) e w' else ToPost w m { T with i := i + 1 } e w') = ToPost w m (toT { T with i := i + 1 } nx) e w' := fun _ _ => if_pos he
    rw [if_pos he]
    clear he HP
    go_enter Tryz.func86, Tryz.ntmps86
    go_wp2_with (go_at_call 47; refine HN.out.mono ?_; rintro e w2 ⟨rfl, h2⟩; have H2 := Lib.hid h2; clear h2)
    go_end0
    exact ⟨rfl, HH.out.twice HT.out H2.out⟩
  · have t1 : ((i : Int) + 1 == (of : Int)) = false := by simp; omega
    rw [if_neg he]
    clear he
    go_enter Tryz.func86, Tryz.ntmps86
    go_wp2_with fail
    go_end0
    exact ⟨rfl, HT.out⟩
end
/-- a new transaction -/
def Tn.new (who : Int) : Tn := ⟨who, 0, [], [], [], 0, 0, 0, 0⟩
def NwPost (w : World) (cb : Nat) (who : Int) (e : Ending) (w' : World) : Prop := ∃ m bs bw bm, e = .returned (.tuple #[.pointer (some ⟨m.tb, 0, none⟩), .int .i64 0]) ∧ m.cb = cb ∧ TxC w' m (Tn.new who) ∧ StX w' m.sb bs bw bm 0 0 0 (fun _ => none) (fun _ => none) (fun _ => none) ∧ w.heap.size ≤ m.tb ∧ w.heap.size ≤ m.sb ∧ w.heap.size ≤ bs ∧ w.heap.size ≤ bw ∧ w.heap.size ≤ bm ∧ Below w.heap.size w w' ∧ m.wa = none ∧ m.la = none ∧ m.ra = none
set_option maxRecDepth 100000 in
theorem ocnew_any (cb : Nat) (who : Int) (w : World) : Calls Tryz.prog 6 #[.pointer (some ⟨cb, 0, none⟩), .int .i64 who] w (NwPost w cb who) := by
  have HN := Lib.hid (sxNew_any w)
  go_enter Tryz.func6, Tryz.ntmps6
  go_wp2_with (go_at_call 25; refine HN.out.mono ?_; rintro e w1 ⟨sb, bs, bw, bm, rfl, g1, g2, g3, g4, hx, hb⟩; have HX := Lib.hid hx; have HB := Lib.hid hb; have HG : Hid (w.heap.size ≤ sb ∧ w.heap.size ≤ bs ∧ w.heap.size ≤ bw ∧ w.heap.size ≤ bm) := Lib.hid ⟨g1, g2, g3, g4⟩; clear hx hb g1 g2 g3 g4)
  go_ret2
  refine ⟨⟨w1.heap.size, sb, cb, none, none, none, 0, 0, 0⟩, bs, bw, bm, rfl, rfl, ⟨?_, RowK.Own.nil kW _ _, RowK.Own.nil kW _ _, RowK.Own.nil kK _ _⟩, HX.out.below (below_box _ _), HB.out.size, HG.out.1, HG.out.2.1, HG.out.2.2.1, HG.out.2.2.2, below_then HB.out (below_box _ _), rfl, rfl, rfl⟩
  exact heap_new w1 _
end Go.Proofs.YtkhkdedjffkhdaaGreat
namespace Go.Proofs.YtkhkdedjffkhdaaGreat
open Go.RowKit Go.Maps

/-- a cell as it is seen -/
def snOf : Option Cl → Sn
  | none => ⟨0, ⟨#[]⟩, false⟩
  | some x => ⟨x.st, x.text, !x.ab⟩
def lkOf : Option Cl → Bool
  | none => false
  | some x => x.lk
theorem readV_busy {o : Option Cl} (h : lkOf o = true) : readV o = .tuple #[.agg #[.int .u64 0, .string ⟨#[]⟩, .bool false], .int .i64 60] := by
  cases o with
  | none => cases h
  | some x => unfold lkOf at h; unfold readV; simp [h]
theorem readV_free {o : Option Cl} (h : lkOf o = false) : readV o = .tuple #[.agg #[.int .u64 (snOf o).word, .string (snOf o).val, .bool (snOf o).has], .int .i64 0] := by
  cases o with
  | none => rfl
  | some x => unfold lkOf at h; unfold readV snOf; simp [h]
theorem TxC.fetched {w : World} {m : Tm} {T : Tn} (h : TxC w m T) (mo n : Nat) : TxC ((w.setCell ⟨m.tb, 8, none⟩ (.int .u64 mo)).setCell ⟨m.tb, 10, none⟩ (.int .i64 n)) m { T with most := mo, n := n } ∧ Chg w ((w.setCell ⟨m.tb, 8, none⟩ (.int .u64 mo)).setCell ⟨m.tb, 10, none⟩ (.int .i64 n)) (fun j => j = m.tb) := by
  have hc : Chg w ((w.setCell ⟨m.tb, 8, none⟩ (.int .u64 mo)).setCell ⟨m.tb, 10, none⟩ (.int .i64 n)) (fun j => j = m.tb) := ((Chg.refl w (fun j => j = m.tb)).setCell (p := ⟨m.tb, 8, none⟩) (fun _ => rfl) _).setCell (p := ⟨m.tb, 10, none⟩) (fun _ => rfl) _
  refine ⟨h.upd hc ?_ rfl rfl rfl, hc⟩
  rw [blk_setCell (blk_setCell h.blk _) _]
  simp [Tm.cells]
/-- a struct of three cells stored into a block of one's own -/
theorem box3 {w wc W9 : World} {B : Nat} {u0 u1 u2 : Value} {ty : TypeId} (hB : w.heap.size ≤ B) (hb : Below w.heap.size w wc) (hbv : wc.heap[B]? = some (.cells #[u0, u1, u2] ty (0, 0))) (x y z : Value) (e9 : W9 = ((wc.setCell ⟨B, 0, none⟩ x).setCell ⟨B, 1, none⟩ y).setCell ⟨B, 2, none⟩ z) :
    Below w.heap.size w W9 ∧ W9.heap[B]? = some (.cells #[x, y, z] ty (0, 0)) := by
  subst e9
  have hb9 := blk_setCell (blk_setCell (blk_setCell hbv x (i := 0)) y (i := 1)) z (i := 2)
  exact ⟨((hb.setCell (p := ⟨B, 0, none⟩) hB _).setCell (p := ⟨B, 1, none⟩) hB _).setCell (p := ⟨B, 2, none⟩) hB _, hb9⟩
/-- what Fetch leaves -/
def FePost (w : World) (m : Tm) (T : Tn) (bs bw bm ns nw nm : Nat) (gs : Ky → Option Sn) (gw gm : Ky → Option Tx) (o : Option Cl) (k : Ky) (e : Ending) (w' : World) : Prop :=
  (T.ph ≠ 0 ∧ e = .returned (.int .i64 200) ∧ Below w.heap.size w w') ∨
  (T.ph = 0 ∧ (gs k).isSome = true ∧ e = .returned (.int .i64 31) ∧ Below w.heap.size w w') ∨
  (T.ph = 0 ∧ gs k = none ∧ lkOf o = true ∧ e = .returned (.int .i64 60) ∧ Below w.heap.size w w') ∨
  (T.ph = 0 ∧ gs k = none ∧ lkOf o = false ∧ e = .returned (.int .i64 0) ∧ ∃ ns', ns' ≤ ns + 1 ∧ TxC w' m { T with most := max T.most (snOf o).word, n := T.n + 1 } ∧ StX w' m.sb bs bw bm ns' nw nm (updK gs k (some (snOf o))) gw gm ∧ Chg w w' (fun j => j = m.tb ∨ j = bs))
/-- the sets' map turns: the transaction stays -/
theorem TxC.turn {w w' : World} {m : Tm} {T : Tn} {b : Nat} (h : TxC w m T) (hc : Chg w w' (fun j => j = b)) (hm : ∃ es ck, w.heap[b]? = some (.map es ck)) : TxC w' m T := by
  obtain ⟨es, ck, hb⟩ := hm
  refine h.keep (hc.block _ h.lt (fun e => ?_)) (fun g cur hg => hc.block g (by rcases hg with hg | hg <;> exact (Array.getElem?_eq_some_iff.1 hg).1) (fun e => ?_))
  · have := h.blk; rw [e, hb] at this; cases this
  · subst e; rcases hg with hg | hg <;> rw [hb] at hg <;> cases hg
theorem StX.txn {w w' : World} {m : Tm} {T : Tn} {bs bw bm ns nw nm : Nat} {gs : Ky → Option Sn} {gw gm : Ky → Option Tx} (hx : StX w m.sb bs bw bm ns nw nm gs gw gm) (h : TxC w m T) (hc : Chg w w' (fun j => j = m.tb)) : StX w' m.sb bs bw bm ns nw nm gs gw gm := by
  have hb := h.blk
  obtain ⟨e1, c1, h1⟩ := hx.sm.map
  obtain ⟨e2, c2, h2⟩ := hx.wm.map
  obtain ⟨e3, c3, h3⟩ := hx.mm.map
  refine hx.chg hc (fun e => ?_) (fun e => ?_) (fun e => ?_) (fun e => ?_)
  · have h0 := hx.blk
    rw [e, hb] at h0
    injection h0 with h0
    injection h0 with e1 e2
    exact absurd e2 (by decide)
  · rw [e, hb] at h1; cases h1
  · rw [e, hb] at h2; cases h2
  · rw [e, hb] at h3; cases h3
section
variable {w : World} {m : Tm} {T : Tn} {bs bw bm ns nw nm : Nat} {gs : Ky → Option Sn} {gw gm : Ky → Option Tx} {s : Sto} {k : Ky}
set_option maxRecDepth 100000 in
set_option maxHeartbeats 4000000 in
theorem fetch_any (h : TxC w m T) (hx : StX w m.sb bs bw bm ns nw nm gs gw gm) (hs : StC w s) (hcb : s.sb = m.cb) (hk : k.Ok) (hmo : Sm T.most) (hst : ∀ x, s.g k = some x → Sm x.st) (hn : T.n ≤ 1000000) (hns : ns ≤ 1000000) (hok : (snOf (s.g k)).val.size = 0 ∨ (snOf (s.g k)).has = true) :
    Calls Tryz.prog 18 #[.pointer (some ⟨m.tb, 0, none⟩), .agg #[.int .i64 k.kind, .int .i64 k.a, .int .i64 k.b, .string k.s]] w (FePost w m T bs bw bm ns nw nm gs gw gm (s.g k) k) := by
  obtain ⟨W, hW⟩ : ∃ W, W = w.alloc (.cells #[.int .i64 k.kind, .int .i64 k.a, .int .i64 k.b, .string k.s] 47) := ⟨_, rfl⟩
  obtain ⟨kb, hkb⟩ : ∃ b, b = w.heap.size := ⟨_, rfl⟩
  have e1 : W.heap[kb]? = some (.cells #[.int .i64 k.kind, .int .i64 k.a, .int .i64 k.b, .string k.s] 47 (0, 0)) := by rw [hW, hkb]; exact heap_new w _
  have hBW : Below w.heap.size w W := by rw [hW]; exact below_box _ _
  obtain ⟨o, ho⟩ : ∃ o, o = s.g k := ⟨_, rfl⟩
  have HFC : Hid (∀ u, Below W.heap.size W u → u.cell? ⟨kb, 0, none⟩ = some (.int .i64 k.kind) ∧ u.cell? ⟨kb, 1, none⟩ = some (.int .i64 k.a) ∧ u.cell? ⟨kb, 2, none⟩ = some (.int .i64 k.b) ∧ u.cell? ⟨kb, 3, none⟩ = some (.string k.s) ∧ kb < u.heap.size ∧ u.cell? ⟨m.tb, 0, none⟩ = some (.pointer (some ⟨m.sb, 0, none⟩)) ∧ u.cell? ⟨m.tb, 1, none⟩ = some (.pointer (some ⟨m.cb, 0, none⟩)) ∧ u.cell? ⟨m.tb, 3, none⟩ = some (.int .i64 T.ph) ∧ m.tb < u.heap.size) := Lib.hid (fun u hu => by
    have g1 := (hu.block _ (Array.getElem?_eq_some_iff.1 e1).1).trans e1
    obtain ⟨c0, c1, c2, c3, _, _, _, _, _, _, _, cl⟩ := (h.below (below_then hBW hu)).cell
    exact ⟨by rw [cell_of_blk g1]; rfl, by rw [cell_of_blk g1]; rfl, by rw [cell_of_blk g1]; rfl, by rw [cell_of_blk g1]; rfl, (Array.getElem?_eq_some_iff.1 g1).1, c0, c1, c3, cl⟩)
  have HSN : Hid (∀ u, Below W.heap.size W u → Calls Tryz.prog 36 #[.pointer (some ⟨m.sb, 0, none⟩), .agg #[.int .i64 k.kind, .int .i64 k.a, .int .i64 k.b, .string k.s]] u fun e w' => e = .returned (.tuple #[((gs k).map Sn.v).getD Sn.zero, .bool (gs k).isSome]) ∧ Below u.heap.size u w') := Lib.hid (fun u hu => sxSeen_any (hx.below (below_then hBW hu)) hk)
  have HRD : Hid (∀ u, Below W.heap.size W u → Calls Tryz.prog 37 #[.pointer (some ⟨m.cb, 0, none⟩), .agg #[.int .i64 k.kind, .int .i64 k.a, .int .i64 k.b, .string k.s]] u fun e w' => e = .returned (readV o) ∧ Below u.heap.size u w') := Lib.hid (fun u hu => by rw [ho]; exact read_g s m.cb k u (hs.stay (below_then hBW hu)) hcb hk)
  have HSE : Hid (∀ u, Below W.heap.size W u → gs k = none → Calls Tryz.prog 38 #[.pointer (some ⟨m.sb, 0, none⟩), .agg #[.int .i64 k.kind, .int .i64 k.a, .int .i64 k.b, .string k.s], .agg #[.int .u64 (snOf o).word, .string (snOf o).val, .bool (snOf o).has]] u fun e w' => e = .returned (.int .i64 0) ∧ ∃ ns', ns' ≤ ns + 1 ∧ StX w' m.sb bs bw bm ns' nw nm (updK gs k (some (snOf o))) gw gm ∧ Chg u w' (fun j => j = bs)) := Lib.hid (fun u hu hg => by
    rw [ho]
    refine (sxSee_any (hx.below (below_then hBW hu)) hns hk (snOf (s.g k))).mono ?_
    intro e w' hp
    unfold SeePost at hp
    rw [if_neg (fun hh => by rcases hok with h0 | h0; exact hh.1 h0; rw [h0] at hh; cases hh.2), if_neg (by rw [hg]; simp)] at hp
    exact hp)
  have HZ : Hid (∃ (sw : Nat) (sv : ByteArray) (sh : Bool), ((gs k).map Sn.v).getD Sn.zero = .agg #[.int .u64 sw, .string sv, .bool sh]) := Lib.hid (by
    cases gs k with
    | none => exact ⟨0, ⟨#[]⟩, false, rfl⟩
    | some x => exact ⟨x.word, x.val, x.has, rfl⟩)
  have HWD : Hid (Sm (snOf o).word) := Lib.hid (by
    rw [ho]
    cases hg : s.g k with
    | none => show 0 < _; decide
    | some x => exact hst x hg)
  have HMO := Lib.hid hmo
  have HN := Lib.hid hn
  have HH := Lib.hid h
  have HE1 := Lib.hid e1
  have HX := Lib.hid hx
  have HB := Lib.hid hBW
  have HW := Lib.hid hW
  have HK := Lib.hid hkb
  rw [← ho]
  clear hok hst hmo hns hs hcb ho hk
  obtain ⟨x0, x1, x2, x3, xl, c0, c1, c3, cl⟩ := HFC.out W (Below.refl _ _)
  obtain ⟨ph, hph⟩ : ∃ p, p = T.ph := ⟨_, rfl⟩
  rw [← hph] at c3
  have HPH := Lib.hid hph
  clear h hx hBW hW hkb e1 hn hph
  by_cases hp0 : ph = 0
  case neg =>
    have t1 : (ph == 0) = false := by simpa using hp0
    have t1' : (ph != 0) = true := by simpa using hp0
    have HP0 := Lib.hid hp0
    clear hp0
    go_enter Tryz.func18, Tryz.ntmps18
    go_upto_region 1 with fail
    rw [← HW.out, ← HK.out]
    go_wp2_with fail
    go_ret
    exact .inl ⟨by rw [← HPH.out]; exact HP0.out, rfl, HB.out⟩
  subst hp0
  go_enter Tryz.func18, Tryz.ntmps18
  go_upto_region 1 with fail
  rw [← HW.out, ← HK.out]
  go_upto_region 3 with fail
  obtain ⟨sw, sv, sh, hz⟩ := HZ.out
  obtain ⟨q, hq⟩ : ∃ q, q = (gs k).isSome := ⟨_, rfl⟩
  rw [hz] at HSN
  rw [← hq] at HSN
  have HQ := Lib.hid hq
  clear hq hz HZ
  have HS3 : Hid (∀ u, Below W.heap.size W u → Below W.heap.size W u ∧ u.cell? ⟨kb, 0, none⟩ = some (.int .i64 k.kind) ∧ u.cell? ⟨kb, 1, none⟩ = some (.int .i64 k.a) ∧ u.cell? ⟨kb, 2, none⟩ = some (.int .i64 k.b) ∧ u.cell? ⟨kb, 3, none⟩ = some (.string k.s) ∧ kb < u.heap.size ∧ u.cell? ⟨m.tb, 0, none⟩ = some (.pointer (some ⟨m.sb, 0, none⟩)) ∧ m.tb < u.heap.size) := Lib.hid (fun u hu => by
    obtain ⟨x0, x1, x2, x3, xl, c0, c1, c3, cl⟩ := HFC.out u hu
    exact ⟨hu, x0, x1, x2, x3, xl, c0, cl⟩)
  go_cut [5, 6] from 14 to 22 (fun s5 s6 wc => ∃ (xb : Nat) (u : World), u = wc ∧ s5 = .pointer (some ⟨xb, 0, none⟩) ∧ s6 = .bool q ∧ Hid (Below W.heap.size W u))
  case first =>
    go_region_held3 (fun u => Below W.heap.size W u ∧ u.cell? ⟨kb, 0, none⟩ = some (.int .i64 k.kind) ∧ u.cell? ⟨kb, 1, none⟩ = some (.int .i64 k.a) ∧ u.cell? ⟨kb, 2, none⟩ = some (.int .i64 k.b) ∧ u.cell? ⟨kb, 3, none⟩ = some (.string k.s) ∧ kb < u.heap.size ∧ u.cell? ⟨m.tb, 0, none⟩ = some (.pointer (some ⟨m.sb, 0, none⟩)) ∧ m.tb < u.heap.size)
      (first | exact HS3.out _ (Below.refl _ _).drew | exact HS3.out _ HBC.out | exact HS3.out _ (below_then HBC.out (below_box _ _)) | exact HS3.out _ (below_box _ _).drew | exact HS3.out _ (box3 (Nat.le_refl _) HBC.out hbv _ _ _ rfl).1)
      ((go_at_call 36; (refine (HSN.out _ (by go_split_ands; assumption)).mono ?_); rintro e wc ⟨rfl, hbc⟩; have HBC := Lib.hid (below_then (show Below W.heap.size W _ by go_split_ands; assumption) hbc); first | (have hbv : wc.heap[W.heap.size]? = some (.cells #[.int .u64 0, .string ⟨#[]⟩, .bool false] 96 (0, 0)) := (hbc.block _ (by simp)).trans (heap_new W _); have z0 := cell_of_blk hbv 0; have z1 := cell_of_blk hbv 1; have z2 := cell_of_blk hbv 2; have y0 := frozen_of_blk hbv 0; have y1 := frozen_of_blk hbv 1; have y2 := frozen_of_blk hbv 2; simp at z0 z1 z2) | skip))
    all_goals
      go_wp2_with fail
      go_meet
      first
        | exact ⟨_, _, rfl, rfl, rfl, Lib.hid (below_then HBC.out (below_box _ _))⟩
        | exact ⟨_, _, rfl, rfl, rfl, Lib.hid (box3 (Nat.le_refl _) HBC.out hbv _ _ _ rfl).1⟩
  case rest =>
  obtain ⟨xb5, u, rfl, rfl, rfl, HU⟩ := hcut
  clear x0 x1 x2 x3 xl c0 c1 c3 cl
  cases q
  case true =>
    go_wp2_with fail
    go_ret
    exact .inr (.inl ⟨HPH.out.symm, HQ.out.symm, rfl, below_then HB.out HU.out⟩)
  have HQN : Hid (gs k = none) := Lib.hid (by have := HQ.out; cases hg : gs k with | none => rfl | some x => rw [hg] at this; cases this)
  go_upto_region 6 with fail
  obtain ⟨code, rw0, rv0, rh0, hrv, hfr, hbu⟩ : ∃ (code : Int) (rw0 : Nat) (rv0 : ByteArray) (rh0 : Bool), readV o = .tuple #[.agg #[.int .u64 rw0, .string rv0, .bool rh0], .int .i64 code] ∧ (lkOf o = false → code = 0 ∧ rw0 = (snOf o).word ∧ rv0 = (snOf o).val ∧ rh0 = (snOf o).has) ∧ (lkOf o = true → code = 60) := by
    cases hl : lkOf o with
    | true => exact ⟨60, 0, ⟨#[]⟩, false, readV_busy hl, (fun e => by cases e), fun _ => rfl⟩
    | false => exact ⟨0, _, _, _, readV_free hl, fun _ => ⟨rfl, rfl, rfl, rfl⟩, (fun e => by cases e)⟩
  rw [hrv] at HRD
  have HRC : Hid ((lkOf o = false → code = 0 ∧ rw0 = (snOf o).word ∧ rv0 = (snOf o).val ∧ rh0 = (snOf o).has) ∧ (lkOf o = true → code = 60)) := Lib.hid ⟨hfr, hbu⟩
  clear hrv hfr hbu HS3
  have HS6 : Hid (∀ v, Below u.heap.size u v → Below u.heap.size u v ∧ v.cell? ⟨kb, 0, none⟩ = some (.int .i64 k.kind) ∧ v.cell? ⟨kb, 1, none⟩ = some (.int .i64 k.a) ∧ v.cell? ⟨kb, 2, none⟩ = some (.int .i64 k.b) ∧ v.cell? ⟨kb, 3, none⟩ = some (.string k.s) ∧ kb < v.heap.size ∧ v.cell? ⟨m.tb, 1, none⟩ = some (.pointer (some ⟨m.cb, 0, none⟩)) ∧ m.tb < v.heap.size) := Lib.hid (fun v hv => by
    obtain ⟨x0, x1, x2, x3, xl, c0, c1, c3, cl⟩ := HFC.out v (below_then HU.out hv)
    exact ⟨hv, x0, x1, x2, x3, xl, c1, cl⟩)
  go_cut [7, 8] from 24 to 32 (fun s7 s8 wc => ∃ (xb : Nat) (v : World), v = wc ∧ s7 = .pointer (some ⟨xb, 0, none⟩) ∧ s8 = .int .i64 code ∧ Hid (Below u.heap.size u v ∧ v.heap[xb]? = some (.cells #[.int .u64 rw0, .string rv0, .bool rh0] 96 (0, 0)) ∧ u.heap.size ≤ xb))
  case first =>
    go_region_held3 (fun v => Below u.heap.size u v ∧ v.cell? ⟨kb, 0, none⟩ = some (.int .i64 k.kind) ∧ v.cell? ⟨kb, 1, none⟩ = some (.int .i64 k.a) ∧ v.cell? ⟨kb, 2, none⟩ = some (.int .i64 k.b) ∧ v.cell? ⟨kb, 3, none⟩ = some (.string k.s) ∧ kb < v.heap.size ∧ v.cell? ⟨m.tb, 1, none⟩ = some (.pointer (some ⟨m.cb, 0, none⟩)) ∧ m.tb < v.heap.size)
      (first | exact HS6.out _ (Below.refl _ _).drew | exact HS6.out _ HBC.out | exact HS6.out _ (below_then HBC.out (below_box _ _)) | exact HS6.out _ (below_box _ _).drew | exact HS6.out _ (box3 (Nat.le_refl _) HBC.out hbv _ _ _ rfl).1)
      ((go_at_call 37; (refine (HRD.out _ (below_then HU.out (by go_split_ands; assumption))).mono ?_); rintro e wc ⟨rfl, hbc⟩; have HBC := Lib.hid (below_then (show Below u.heap.size u _ by go_split_ands; assumption) hbc); first | (have hbv : wc.heap[u.heap.size]? = some (.cells #[.int .u64 0, .string ⟨#[]⟩, .bool false] 96 (0, 0)) := (hbc.block _ (by simp)).trans (heap_new u _); have z0 := cell_of_blk hbv 0; have z1 := cell_of_blk hbv 1; have z2 := cell_of_blk hbv 2; have y0 := frozen_of_blk hbv 0; have y1 := frozen_of_blk hbv 1; have y2 := frozen_of_blk hbv 2; simp at z0 z1 z2) | skip))
    all_goals
      go_wp2_with fail
      go_meet
      first
        | exact ⟨_, _, rfl, rfl, rfl, Lib.hid ⟨below_then HBC.out (below_box _ _), heap_new _ _, HBC.out.size⟩⟩
        | exact ⟨_, _, rfl, rfl, rfl, Lib.hid ⟨(box3 (Nat.le_refl _) HBC.out hbv _ _ _ rfl).1, (box3 (Nat.le_refl _) HBC.out hbv _ _ _ rfl).2, Nat.le_refl _⟩⟩
  case rest =>
  obtain ⟨xb, v, rfl, rfl, rfl, HV⟩ := hcut
  have HBV : Hid (Below W.heap.size W v) := Lib.hid (below_then HU.out HV.out.1)
  cases hl : lkOf o
  case true =>
    obtain rfl : code = 60 := HRC.out.2 hl
    have HL := Lib.hid hl
    clear hl
    go_wp2_with fail
    go_ret
    exact .inr (.inr (.inl ⟨HPH.out.symm, HQN.out, HL.out, rfl, below_then HB.out HBV.out⟩))
  obtain ⟨rfl, rfl, rfl, rfl⟩ := HRC.out.1 hl
  have HL := Lib.hid hl
  clear hl
  go_upto_region 9 with fail
  have HBLK : Hid (∀ v', Chg v v' (fun j => j = bs) → v'.heap[kb]? = some (.cells #[.int .i64 k.kind, .int .i64 k.a, .int .i64 k.b, .string k.s] 47 (0, 0)) ∧ v'.heap[m.tb]? = some (.cells (m.cells T) 71 (0, 0)) ∧ v'.heap[xb]? = some (.cells #[.int .u64 (snOf o).word, .string (snOf o).val, .bool (snOf o).has] 96 (0, 0))) := Lib.hid (fun v' hc => by
    obtain ⟨es, ck, hm⟩ := (HX.out.below (below_then HB.out HBV.out)).sm.map
    have k1 := (HBV.out.block kb (Array.getElem?_eq_some_iff.1 HE1.out).1).trans HE1.out
    have k2 := (HH.out.below (below_then HB.out HBV.out)).blk
    have k3 := HV.out.2.1
    have n1 : kb ≠ bs := fun e => by rw [e, hm] at k1; cases k1
    have n2 : m.tb ≠ bs := fun e => by rw [e, hm] at k2; cases k2
    have n3 : xb ≠ bs := fun e => by rw [e, hm] at k3; cases k3
    exact ⟨(hc.block _ (Array.getElem?_eq_some_iff.1 k1).1 n1).trans k1, (hc.block _ (Array.getElem?_eq_some_iff.1 k2).1 n2).trans k2, (hc.block _ (Array.getElem?_eq_some_iff.1 k3).1 n3).trans k3⟩)
  have HS9 : Hid (∀ v', Chg v v' (fun j => j = bs) → v'.cell? ⟨kb, 0, none⟩ = some (.int .i64 k.kind) ∧ v'.cell? ⟨kb, 1, none⟩ = some (.int .i64 k.a) ∧ v'.cell? ⟨kb, 2, none⟩ = some (.int .i64 k.b) ∧ v'.cell? ⟨kb, 3, none⟩ = some (.string k.s) ∧ kb < v'.heap.size ∧ v'.cell? ⟨m.tb, 0, none⟩ = some (.pointer (some ⟨m.sb, 0, none⟩)) ∧ m.tb < v'.heap.size ∧ v'.cell? ⟨xb, 0, none⟩ = some (.int .u64 (snOf o).word) ∧ v'.cell? ⟨xb, 1, none⟩ = some (.string (snOf o).val) ∧ v'.cell? ⟨xb, 2, none⟩ = some (.bool (snOf o).has) ∧ xb < v'.heap.size) := Lib.hid (fun v' hc => by
    obtain ⟨k1, k2, k3⟩ := HBLK.out v' hc
    exact ⟨by rw [cell_of_blk k1]; rfl, by rw [cell_of_blk k1]; rfl, by rw [cell_of_blk k1]; rfl, by rw [cell_of_blk k1]; rfl, (Array.getElem?_eq_some_iff.1 k1).1, by rw [cell_of_blk k2]; rfl, (Array.getElem?_eq_some_iff.1 k2).1, by rw [cell_of_blk k3]; rfl, by rw [cell_of_blk k3]; rfl, by rw [cell_of_blk k3]; rfl, (Array.getElem?_eq_some_iff.1 k3).1⟩)
  go_region_held3 (fun v' => v'.cell? ⟨kb, 0, none⟩ = some (.int .i64 k.kind) ∧ v'.cell? ⟨kb, 1, none⟩ = some (.int .i64 k.a) ∧ v'.cell? ⟨kb, 2, none⟩ = some (.int .i64 k.b) ∧ v'.cell? ⟨kb, 3, none⟩ = some (.string k.s) ∧ kb < v'.heap.size ∧ v'.cell? ⟨m.tb, 0, none⟩ = some (.pointer (some ⟨m.sb, 0, none⟩)) ∧ m.tb < v'.heap.size ∧ v'.cell? ⟨xb, 0, none⟩ = some (.int .u64 (snOf o).word) ∧ v'.cell? ⟨xb, 1, none⟩ = some (.string (snOf o).val) ∧ v'.cell? ⟨xb, 2, none⟩ = some (.bool (snOf o).has) ∧ xb < v'.heap.size)
    (first | exact HS9.out _ (Chg.refl _ _).drew | exact HS9.out _ HC9.out)
    ((go_at_call 38; (refine (HSE.out _ (below_then HBV.out (Below.refl _ _).drew) HQN.out).mono ?_); rintro e v9 ⟨rfl, ns', hn', hx', hc'⟩; have HC9 : Hid (Chg v v9 (fun j => j = bs)) := Lib.hid ((Chg.refl v _).drew.trans hc' (fun _ _ e => e)); have HX9 := Lib.hid (And.intro hn' hx'); clear hn' hx' hc'))
  have HT9 : Hid (TxC v9 m T) := Lib.hid ((HH.out.below (below_then HB.out HBV.out)).turn HC9.out (HX.out.below (below_then HB.out HBV.out)).sm.map)
  have b9 := HBLK.out v9 HC9.out
  have c8 : v9.cell? ⟨m.tb, 8, none⟩ = some (.int .u64 T.most) := by rw [cell_of_blk b9.2.1]; rfl
  have f8 := frozen_of_blk b9.2.1 8
  have cl := (Array.getElem?_eq_some_iff.1 b9.2.1).1
  have z0 : v9.cell? ⟨xb, 0, none⟩ = some (.int .u64 (snOf o).word) := by rw [cell_of_blk b9.2.2]; rfl
  have zl := (Array.getElem?_eq_some_iff.1 b9.2.2).1
  obtain ⟨n0, hn0⟩ : ∃ x, x = T.n := ⟨_, rfl⟩
  have c10 : v9.cell? ⟨m.tb, 10, none⟩ = some (.int .i64 n0) := by rw [cell_of_blk b9.2.1, hn0]; rfl
  have f10 := frozen_of_blk b9.2.1 10
  have wn : IntKind.i64.wrap ((n0 : Int) + 1) = (n0 : Int) + 1 := IntWalk.i64_in _ (by have := HN.out; omega)
  have HN0 : Hid (n0 = T.n) := Lib.hid hn0
  clear b9 hn0
  go_upto_region 10 with fail
  obtain ⟨mo1, hmo1⟩ : ∃ x, x = T.most := ⟨_, rfl⟩
  rw [← hmo1] at c8
  have HMW : Hid (Calls Tryz.prog 39 #[.slice (some ⟨v9.heap.size, 0, none⟩) 2 2] (v9.alloc (.cells #[.int .u64 mo1, .int .u64 (snOf o).word] 43)).drew fun e w' => e = .returned (.int .u64 (max mo1 (snOf o).word : Nat)) ∧ (v9.alloc (.cells #[.int .u64 mo1, .int .u64 (snOf o).word] 43)).drew = w') := Lib.hid (by
    have e : (v9.alloc (.cells #[.int .u64 mo1, .int .u64 (snOf o).word] 43)).drew.heap[v9.heap.size]? = _ := heap_new v9 (.cells #[.int .u64 mo1, .int .u64 (snOf o).word] 43)
    have hs1 : Sm mo1 := by rw [hmo1]; exact HMO.out
    have hs2 : Sm (snOf o).word := HWD.out
    have h := most2_any v9.heap.size 2 mo1 (snOf o).word (v9.alloc (.cells #[.int .u64 mo1, .int .u64 (snOf o).word] 43)).drew (by unfold Sm at hs1; omega) (by unfold Sm at hs2; omega) (by rw [cell_of_blk e]; rfl) (by rw [cell_of_blk e]; rfl)
    rw [mo_self hs1, mo_self hs2] at h
    exact h)
  have HMX : Hid (mo1 = T.most) := Lib.hid hmo1
  clear hmo1
  go_region_with (go_at_call 39; refine HMW.out.mono ?_; rintro e wc ⟨rfl, rfl⟩)
  all_goals
    go_wp2_with fail
    go_ret
    have hF := HT9.out.fetched (max mo1 (snOf o).word) (n0 + 1)
    have hX := HX9.out.2.txn HT9.out hF.2
    have hC : Chg w _ (fun j => j = m.tb ∨ j = bs) := ((Chg.of_below (below_then HB.out HBV.out) (fun j => j = m.tb ∨ j = bs)).trans HC9.out (fun _ _ e => .inr e)).trans hF.2 (fun _ _ e => .inl e)
    have hE : ({ T with most := max mo1 (snOf o).word, n := n0 + 1 } : Tn) = { T with most := max T.most (snOf o).word, n := T.n + 1 } := by rw [HMX.out, HN0.out]
    rw [hE] at hF
    exact .inr (.inr (.inr ⟨HPH.out.symm, HQN.out, HL.out, rfl, ns', HX9.out.1, (hF.1.below (below_box _ _)).below (Below.refl _ _).drew, (hX.below (below_box _ _)).below (Below.refl _ _).drew, (hC.alloc _).drew⟩))
end
end Go.Proofs.YtkhkdedjffkhdaaGreat
