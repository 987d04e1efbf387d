/- The reference's store of layer 9, to be written: its row of cells. Conditions: each lemma's own premises. -/
import Derived.Test.YtaanohgkdpohhaaRef9b
import Derived.Test.YtaanohgkdpohhaaRowM
import Derived.BigQuiet
import Derived.BigRegion
import Derived.Deep.Cut
namespace Go.Proofs.Ytaanohgkdpohhaa
open Go.RowKit Go.Maps

theorem infoC : (Try.prog.info? 71).map (fun i => (i.zero, i.size, i.bytes)) = some (some (.agg #[.int .i64 0, .int .i64 0, .int .i64 0, .string ByteArray.empty, .int .u64 0, .bool false, .string ByteArray.empty, .bool false, .int .i64 0]), 9, 88) := by kernel_rfl
def encC (p : Ky × Cl) : List Value := [.int .i64 p.1.kind, .int .i64 p.1.a, .int .i64 p.1.b, .string p.1.s, .int .u64 p.2.st, .bool (!p.2.ab), .string p.2.text, .bool p.2.lk, .int .i64 p.2.who]
/-- the reference's cells as elements -/
def kC : RowK Try.prog (Ky × Cl) where
  t := 59
  e := 71
  size := 9
  bytes := 88
  z := .agg #[.int .i64 0, .int .i64 0, .int .i64 0, .string ByteArray.empty, .int .u64 0, .bool false, .string ByteArray.empty, .bool false, .int .i64 0]
  enc := encC
  ht := Try.underlying59
  info := infoC
  hz := rfl
  pos := by decide
  small := by decide
  len := fun _ => rfl
  one := fun x u hu => by
    simp [encC] at hu
    rcases hu with rfl | rfl | rfl | rfl | rfl | rfl | rfl | rfl | rfl <;> rfl
theorem own_ty' {P : Program} {α : Type} {k : RowK P α} {w : World} {B : Nat} {v : Value} {l : List α} (h : k.Own w B v l) {b : Nat} {c : Array Value} {t : TypeId} {z : Nat × Nat} (hb : w.heap[b]? = some (.cells c t z)) (ht : t ≠ k.e) : some b ≠ v.ownBlock := fun e => by
  rcases h.2 with ⟨h1, _⟩ | ⟨g, cp, cur, h1, _, hg, _⟩
  · rw [h1] at e; cases e
  · rw [h1] at e
    injection e with e
    subst e
    rw [hg] at hb
    injection hb with hb
    injection hb with e1 e2 e3
    exact ht e2.symm
/-- the reference's store: its block, its row, which it owns from D on -/
structure RO (w : World) (rb D room : Nat) (v : Value) (L : List (Ky × Cl)) : Prop where
  blk : w.heap[rb]? = some (.cells #[.int .i64 room, v] 61 (0, 0))
  o : kC.Own w D v L
  len : L.length ≤ 1048576
/-- what it may change -/
def RF (rb : Nat) (v : Value) (i : Nat) : Prop := i = rb ∨ v.ownBlock = some i
section
variable {w w' : World} {rb D room g n cap i : Nat} {v v' : Value} {L : List (Ky × Cl)} {k : Ky} {x y : Cl}
theorem RO.lt (h : RO w rb D room v L) : rb < w.heap.size := (Array.getElem?_eq_some_iff.1 h.blk).1
theorem RO.below (h : RO w rb D room v L) (hb : Below w.heap.size w w') : RO w' rb D room v L := ⟨(hb.block _ h.lt).trans h.blk, h.o.below hb, h.len⟩
theorem RO.ne (h : RO w rb D room v L) : some rb ≠ v.ownBlock := own_ty' h.o h.blk (by decide)
theorem RO.rv {a : Option Addr} (h : RO w rb D room (.slice a n cap) L) : RV w rb a cap room L ∧ n = L.length := by
  obtain ⟨a', c', e⟩ := h.o.shape
  injection e with e1 e2 e3
  subst e1 e2 e3
  refine ⟨⟨h.blk, fun hn => ?_, h.len⟩, rfl⟩
  obtain ⟨lb, _, e, _, _, hat⟩ := h.o.at' hn
  injection e with e1
  refine ⟨lb, e1, ⟨fun i k x hk => ?_, hat.lt⟩⟩
  have c := fun j u hu => hat.cells i (k, x) hk j u hu
  simp only [Nat.zero_add] at c
  exact ⟨c 0 _ rfl, c 1 _ rfl, c 2 _ rfl, c 3 _ rfl, c 4 _ rfl, c 5 _ rfl, c 6 _ rfl, c 7 _ rfl, c 8 _ rfl⟩
theorem RO.at_ (h : RO w rb D room (.slice (some ⟨g, 0, none⟩) n cap) L) {p : Ky × Cl} (hi : L[i]? = some p) : kC.At w g 0 L := by
  obtain ⟨b, c, e, _, _, hat⟩ := h.o.at' (fun e => by rw [e] at hi; simp at hi)
  injection e with e1
  injection e1 with e1
  injection e1 with e1
  rw [e1]
  exact hat
theorem RO.fz (h : RO w rb D room (.slice (some ⟨g, 0, none⟩) n cap) L) (o : Nat) : w.frozen? ⟨g, o, none⟩ = false := by
  rcases h.o.2 with ⟨h1, _⟩ | ⟨g', cp, cur, h1, _, hg, _⟩
  · injection h1 with e1; cases e1
  · injection h1 with e1
    injection e1 with e1
    injection e1 with e1
    subst e1
    exact frozen_of_blk hg o
/-- one cell of one element is written -/
theorem RO.put1 (h : RO w rb D room (.slice (some ⟨g, 0, none⟩) n cap) L) (hx : L[i]? = some (k, x)) (r : Nat) (hr : r < 9) (u : Value) (he : encC (k, y) = (encC (k, x)).take r ++ [u] ++ (encC (k, x)).drop (r + [u].length)) :
    RO (w.setCell ⟨g, i * 9 + r, none⟩ u) rb D room (.slice (some ⟨g, 0, none⟩) n cap) (L.set i (k, y)) ∧ Chg w (w.setCell ⟨g, i * 9 + r, none⟩ u) (RF rb (.slice (some ⟨g, 0, none⟩) n cap)) := by
  have hne : rb ≠ g := fun e => h.ne (by rw [e]; rfl)
  have o1 := h.o.upd (i := i) (r := r) (x := (k, x)) (x' := (k, y)) hx [u] (by show r + 1 ≤ 9; omega) (fun j => by
    show (encC (k, y))[j]? = _
    rw [he]
    exact splice_at (by show r + 1 ≤ 9; omega) j)
  change kC.Own (w.setCell ⟨g, i * 9 + r, none⟩ u) D _ _ at o1
  exact ⟨⟨by rw [Below.heap_setCell _ _ _ _ hne]; exact h.blk, o1, by rw [List.length_set]; exact h.len⟩, (Chg.refl w _).setCell (p := ⟨g, i * 9 + r, none⟩) (fun _ => .inr rfl) _⟩
/-- one cell more -/
theorem RO.app (h : RO w rb D room v L) (hA : kC.App w D v (L ++ [(k, x)]) v' w') (hl : L.length < 1048576) :
    w'.heap[rb]? = some (.cells #[.int .i64 room, v] 61 (0, 0)) ∧ RO (w'.setCell ⟨rb, 1, none⟩ v') rb D room v' (L ++ [(k, x)]) ∧ Chg w (w'.setCell ⟨rb, 1, none⟩ v') (RF rb v) := by
  obtain ⟨o1, g1, _⟩ := hA
  have hb := (g1.block rb h.lt h.ne).trans h.blk
  have hc : Chg w' (w'.setCell ⟨rb, 1, none⟩ v') (fun i => i = rb) := (Chg.refl w' (fun i => i = rb)).setCell (p := ⟨rb, 1, none⟩) (fun _ => rfl) _
  have hn : some rb ≠ v'.ownBlock := own_ty' o1 hb (by decide)
  exact ⟨hb, ⟨by rw [blk_setCell hb]; simp, o1.chg hc (fun j hj e => hn (by rw [hj, e])), by simp; omega⟩, ((Chg.refl w _).grown g1 (fun m hm _ => .inr hm)).setCell (p := ⟨rb, 1, none⟩) (fun _ => .inl rfl) _⟩
end
/-- a cell's place in a list by keys -/
def FstAt (L : List (Ky × Cl)) (k : Ky) (i : Nat) : Prop := ∀ j : Nat, j < i → (L.map (·.1))[j]? ≠ some k
theorem r9find_at (rb cap room : Nat) (a : Option Addr) (L : List (Ky × Cl)) (k : Ky) (x : Cl) (w : World) (h : RV w rb a cap room L) (hx : lookL L k = some x) :
    Calls Try.prog 34 #[.pointer (some ⟨rb, 0, none⟩), .agg #[.int .i64 k.kind, .int .i64 k.a, .int .i64 k.b, .string k.s]] w fun e w' => ∃ i : Nat, e = .returned (.int .i64 i) ∧ L[i]? = some (k, x) ∧ FstAt L k i ∧ Below w.heap.size w w' := by
  refine (r9find_any rb cap room a L k w h).mono ?_
  rintro e w' ⟨r, rfl, hr, hb⟩
  rcases hr with ⟨_, hn⟩ | ⟨i, rfl, h1, h2⟩
  · rw [lookL_none hn] at hx; cases hx
  · obtain ⟨y, e1, e2⟩ := lookL_some h1 h2
    rw [hx] at e2
    cases e2
    exact ⟨i, rfl, e1, h2, hb⟩
/-- another cell for a key that is there -/
def updL (k : Ky) (y : Cl) : List (Ky × Cl) → List (Ky × Cl)
  | [] => []
  | (k', x) :: t => if k.eqB k' then (k', y) :: t else (k', x) :: updL k y t
/-- a key is taken out -/
def delL (k : Ky) : List (Ky × Cl) → List (Ky × Cl)
  | [] => []
  | (k', x) :: t => if k.eqB k' then t else (k', x) :: delL k t
theorem set_upd {k : Ky} {x y : Cl} : ∀ {L : List (Ky × Cl)} {i : Nat}, L[i]? = some (k, x) → FstAt L k i → L.set i (k, y) = updL k y L
  | [], _, h, _ => by simp at h
  | (k', x') :: t, 0, h, _ => by
    simp at h
    obtain ⟨rfl, rfl⟩ := h
    unfold updL
    rw [if_pos (Ky.eqB_true rfl)]
    rfl
  | (k', x') :: t, i + 1, h, hf => by
    have h0 : k ≠ k' := fun e => hf 0 (by omega) (by simp [e])
    unfold updL
    rw [if_neg (by rw [Ky.eqB_false h0]; decide), List.set_cons_succ, set_upd (L := t) (by simpa using h) (fun j hj => by have := hf (j + 1) (by omega); simpa using this)]
theorem cut_del {k : Ky} {x : Cl} : ∀ {L : List (Ky × Cl)} {i : Nat}, L[i]? = some (k, x) → FstAt L k i → L.take i ++ L.drop (i + 1) = delL k L
  | [], _, h, _ => by simp at h
  | (k', x') :: t, 0, h, _ => by
    simp at h
    obtain ⟨rfl, rfl⟩ := h
    unfold delL
    rw [if_pos (Ky.eqB_true rfl)]
    rfl
  | (k', x') :: t, i + 1, h, hf => by
    have h0 : k ≠ k' := fun e => hf 0 (by omega) (by simp [e])
    unfold delL
    rw [if_neg (by rw [Ky.eqB_false h0]; decide), List.take_succ_cons, List.cons_append, List.drop_succ_cons, cut_del (L := t) (by simpa using h) (fun j hj => by have := hf (j + 1) (by omega); simpa using this)]
theorem fst_set {k : Ky} {y : Cl} {L : List (Ky × Cl)} {i : Nat} (hf : FstAt L k i) : FstAt (L.set i (k, y)) k i := fun j hj => by
  rw [List.map_set, List.getElem?_set_ne (by omega)]
  exact hf j hj
theorem lookL_out {k : Ky} : ∀ {L : List (Ky × Cl)}, lookL L k = none → ∀ p ∈ L, p.1 ≠ k
  | [], _, p, hp => by cases hp
  | (k', x) :: t, h, p, hp => by
    unfold lookL at h
    cases he : k.eqB k'
    · rw [he] at h
      rcases List.mem_cons.1 hp with rfl | hp
      · intro e
        rw [Ky.eqB_true e.symm] at he
        cases he
      · exact lookL_out (L := t) h p hp
    · rw [he] at h
      cases h
theorem fst_end {k : Ky} {y : Cl} {L : List (Ky × Cl)} (h : lookL L k = none) : FstAt (L ++ [(k, y)]) k L.length := fun j hj e => by
  rw [List.map_append, List.getElem?_append_left (by simpa using hj)] at e
  obtain ⟨p, hp, e2⟩ := List.mem_map.1 (List.mem_of_getElem? e)
  exact lookL_out h p hp e2
end Go.Proofs.Ytaanohgkdpohhaa
