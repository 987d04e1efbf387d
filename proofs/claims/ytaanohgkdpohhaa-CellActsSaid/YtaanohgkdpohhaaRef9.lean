/- The reference's store of layer 9 (cobwebref09.Store): Find, Read, Still, Holds. Conditions: each contract's own premises. -/
import Derived.Test.YtaanohgkdpohhaaCell8
namespace Go.Proofs.Ytaanohgkdpohhaa
open Go.RowKit Go.Maps

/-- a list of cells by keys, as it lies in memory behind the reference's store -/
structure RAt (w : World) (lb : Nat) (L : List (Ky × Cl)) : Prop where
  cells : ∀ i k x, L[i]? = some (k, x) → w.cell? ⟨lb, i * 9, none⟩ = some (.int .i64 k.kind) ∧ w.cell? ⟨lb, i * 9 + 1, none⟩ = some (.int .i64 k.a) ∧ w.cell? ⟨lb, i * 9 + 2, none⟩ = some (.int .i64 k.b) ∧ w.cell? ⟨lb, i * 9 + 3, none⟩ = some (.string k.s) ∧ w.cell? ⟨lb, i * 9 + 4, none⟩ = some (.int .u64 x.st) ∧ w.cell? ⟨lb, i * 9 + 5, none⟩ = some (.bool (!x.ab)) ∧ w.cell? ⟨lb, i * 9 + 6, none⟩ = some (.string x.text) ∧ w.cell? ⟨lb, i * 9 + 7, none⟩ = some (.bool x.lk) ∧ w.cell? ⟨lb, i * 9 + 8, none⟩ = some (.int .i64 x.who)
  lt : lb < w.heap.size
/-- the reference's store, to be read: its block, its list -/
structure RV (w : World) (rb : Nat) (a : Option Addr) (cap room : Nat) (L : List (Ky × Cl)) : Prop where
  blk : w.heap[rb]? = some (.cells #[.int .i64 room, .slice a L.length cap] 61 (0, 0))
  row : L ≠ [] → ∃ lb, a = some ⟨lb, 0, none⟩ ∧ RAt w lb L
  len : L.length ≤ 1048576
def lookL (L : List (Ky × Cl)) (k : Ky) : Option Cl := match L with
  | [] => none
  | (k', x) :: t => if k.eqB k' then some x else lookL t k

section
variable {w w' : World} {rb lb cap room : Nat} {a : Option Addr} {L : List (Ky × Cl)}
theorem RAt.of_block (h : RAt w lb L) (hb : w'.heap[lb]? = w.heap[lb]?) : RAt w' lb L :=
  ⟨fun i k x hk => by
    have e : ∀ j, w'.cell? ⟨lb, j, none⟩ = w.cell? ⟨lb, j, none⟩ := fun j => World.cell?_of_block (a := ⟨lb, j, none⟩) hb
    rw [e, e, e, e, e, e, e, e, e]; exact h.cells i k x hk, (Array.getElem?_eq_some_iff.1 (hb.trans (Array.getElem?_eq_getElem h.lt))).1⟩
theorem RV.lt (h : RV w rb a cap room L) : rb < w.heap.size := (Array.getElem?_eq_some_iff.1 h.blk).1
theorem RV.below (h : RV w rb a cap room L) (hb : Below w.heap.size w w') : RV w' rb a cap room L :=
  ⟨(hb.block _ h.lt).trans h.blk, fun e => by
    obtain ⟨lb, h1, h2⟩ := h.row e
    exact ⟨lb, h1, h2.of_block (hb.block _ h2.lt)⟩, h.len⟩
theorem RV.alloc (h : RV w rb a cap room L) (X : Obj) : RV (w.alloc X) rb a cap room L := h.below ((Below.refl _ _).alloc (Nat.le_refl _) _)
theorem RV.cell1 (h : RV w rb a cap room L) : w.cell? ⟨rb, 1, none⟩ = some (.slice a L.length cap) := by rw [cell_of_blk h.blk]; rfl
end

theorem lookL_none : ∀ {L : List (Ky × Cl)} {k : Ky}, (∀ j : Nat, (L.map (·.1))[j]? ≠ some k) → lookL L k = none
  | [], _, _ => rfl
  | (k', x) :: t, k, h => by
    have h0 : k ≠ k' := fun e => h 0 (by simp [e])
    unfold lookL
    rw [Ky.eqB_false h0]
    exact lookL_none (fun j => by have := h (j + 1); simpa using this)
theorem lookL_some : ∀ {L : List (Ky × Cl)} {k : Ky} {i : Nat}, (L.map (·.1))[i]? = some k → (∀ j : Nat, j < i → (L.map (·.1))[j]? ≠ some k) → ∃ x, L[i]? = some (k, x) ∧ lookL L k = some x
  | [], _, _, h, _ => by simp at h
  | (k', x) :: t, k, 0, h, _ => by
    simp at h
    subst h
    refine ⟨x, rfl, ?_⟩
    unfold lookL
    rw [Ky.eqB_true rfl]; rfl
  | (k', x) :: t, k, i + 1, h, hf => by
    have h0 : k ≠ k' := fun e => hf 0 (by omega) (by simp [e])
    obtain ⟨y, h1, h2⟩ := lookL_some (L := t) (k := k) (i := i) (by simpa using h) (fun j hj => by have := hf (j + 1) (by omega); simpa using this)
    refine ⟨y, by simpa using h1, ?_⟩
    unfold lookL
    rw [Ky.eqB_false h0]
    exact h2

set_option maxRecDepth 100000 in
set_option maxHeartbeats 400000 in
theorem r9find_any (rb cap room : Nat) (a : Option Addr) (L : List (Ky × Cl)) (k : Ky) (w : World) (h : RV w rb a cap room L) :
    Calls Try.prog 34 #[.pointer (some ⟨rb, 0, none⟩), .agg #[.int .i64 k.kind, .int .i64 k.a, .int .i64 k.b, .string k.s]] w (IdxPost (L.map (·.1)) k w) := by
  have c1 := h.cell1
  have hrl := h.lt
  have hll := h.len
  go_enter Try.func34, Try.ntmps34
  go_wp2_with fail
  go_loopw [5] (fun i wr => ∃ j : Nat, j ≤ L.length ∧ i = .int .i64 j ∧ (∀ j' : Nat, j' < j → (L.map (·.1))[j']? ≠ some k) ∧ ∃ n, wr = (w.alloc (.cells #[.int .i64 k.kind, .int .i64 k.a, .int .i64 k.b, .string k.s] 32)).drewN n) (fun i _ => L.length - (intOf i).toNat)
  case atStart => exact ⟨0, Nat.zero_le _, rfl, fun _ h => absurd h (Nat.not_lt_zero _), 0, rfl⟩
  case round =>
    obtain ⟨j, hj, rfl, hno, n, rfl⟩ := hrel
    have HN := Lib.hid hno
    clear hno
    by_cases hlt : j < L.length
    · obtain ⟨⟨kk, x⟩, hkk⟩ : ∃ kk, L[j]? = some kk := ⟨_, List.getElem?_eq_getElem hlt⟩
      obtain ⟨lb, rfl, hat⟩ := h.row (fun e => by rw [e] at hlt; simp at hlt)
      obtain ⟨q0, q1, q2, q3, _⟩ := hat.cells j kk x hkk
      have hlb := hat.lt
      have HK : Hid ((L.map (·.1))[j]? = some kk) := Lib.hid (by simp [hkk])
      clear hkk hat h
      have hE := eqKy kk k
      by_cases he : kk = k
      · rw [Ky.eqB_true he] at hE
        have HE := Lib.hid he
        clear he
        go_wp2_with fail
        go_quiet (fail)
        go_wp2_with fail
        go_ret
        exact ⟨_, rfl, .inr ⟨j, rfl, by rw [HK.out, HE.out], HN.out⟩, below_drewN (below_drewN ((Below.refl _ _).alloc (Nat.le_refl _) _) _) _⟩
      · rw [Ky.eqB_false he] at hE
        have HE := Lib.hid he
        clear he
        go_wp2_with fail
        go_quiet (fail)
        go_wp2_with fail
        refine ⟨⟨j + 1, by omega, by go_num, fun j' hj' => ?_, ⟨_, rfl⟩⟩, by simp [intOf]; omega⟩
        rcases Nat.lt_succ_iff_lt_or_eq.1 hj' with h | rfl
        · exact HN.out j' h
        · rw [HK.out]; exact fun e => HE.out (Option.some.inj e)
    · clear h
      go_wp2_with fail
      go_ret
      refine ⟨_, rfl, .inl ⟨rfl, fun j' => ?_⟩, below_drewN ((Below.refl _ _).alloc (Nat.le_refl _) _) _⟩
      rcases Nat.lt_or_ge j' j with h | h
      · exact HN.out j' h
      · rw [List.getElem?_eq_none (by simp; omega)]; simp
/-- Find of a key that is there -/
theorem r9find_some (rb cap room : Nat) (a : Option Addr) (L : List (Ky × Cl)) (k : Ky) (x : Cl) (w : World) (h : RV w rb a cap room L) (hx : lookL L k = some x) :
    Calls Try.prog 34 #[.pointer (some ⟨rb, 0, none⟩), .agg #[.int .i64 k.kind, .int .i64 k.a, .int .i64 k.b, .string k.s]] w fun e w' => ∃ i : Nat, e = .returned (.int .i64 i) ∧ L[i]? = some (k, x) ∧ Below w.heap.size w w' := by
  refine (r9find_any rb cap room a L k w h).mono ?_
  rintro e w' ⟨r, rfl, hr, hb⟩
  rcases hr with ⟨_, hn⟩ | ⟨i, rfl, h1, h2⟩
  · rw [lookL_none hn] at hx; cases hx
  · obtain ⟨y, e1, e2⟩ := lookL_some h1 h2
    rw [hx] at e2
    cases e2
    exact ⟨i, rfl, e1, hb⟩
theorem r9find_none (rb cap room : Nat) (a : Option Addr) (L : List (Ky × Cl)) (k : Ky) (w : World) (h : RV w rb a cap room L) (hx : lookL L k = none) :
    Calls Try.prog 34 #[.pointer (some ⟨rb, 0, none⟩), .agg #[.int .i64 k.kind, .int .i64 k.a, .int .i64 k.b, .string k.s]] w fun e w' => e = .returned (.int .i64 (-1)) ∧ Below w.heap.size w w' := by
  refine (r9find_any rb cap room a L k w h).mono ?_
  rintro e w' ⟨r, rfl, hr, hb⟩
  rcases hr with ⟨rfl, hn⟩ | ⟨i, rfl, h1, h2⟩
  · exact ⟨rfl, hb⟩
  · obtain ⟨y, e1, e2⟩ := lookL_some h1 h2
    rw [hx] at e2
    cases e2
end Go.Proofs.Ytaanohgkdpohhaa
