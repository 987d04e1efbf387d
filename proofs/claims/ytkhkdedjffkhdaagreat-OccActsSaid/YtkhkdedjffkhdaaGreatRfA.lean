/- The reference's store of layer 9 (cobwebref09.Store): Find, Read, Still, Holds. Conditions: each contract's own premises. The reference's store of layer 9: Read, Still, Holds; Lock and Install that are refused. Conditions: each contract's own premises. The reference's store of layer 9, to be written: its row of cells. Conditions: each lemma's own premises. The reference's Lock. Conditions: the contract's own premises. The reference's drop. Conditions: the contract's own premises. The reference's Free. Conditions: the contract's own premises. -/
import Derived.Test.YtkhkdedjffkhdaaGreatCelB
import Derived.Test.YtkhkdedjffkhdaaGreatRwX
import Derived.BigQuiet
import Derived.BigRegion
import Derived.Deep.Cut
namespace Go.Proofs.YtkhkdedjffkhdaaGreat
open Go.RowKit Go.Maps

/-- a list of cells by keys, as it lies in memory behind the reference's store -/
structure RAt (w : World) (lb : Nat) (L : List (Ky × Cl)) : Prop where
  cells : ∀ i k x, L[i]? = some (k, x) → w.cell? ⟨lb, i * 9, none⟩ = some (.int .i64 k.kind) ∧ w.cell? ⟨lb, i * 9 + 1, none⟩ = some (.int .i64 k.a) ∧ w.cell? ⟨lb, i * 9 + 2, none⟩ = some (.int .i64 k.b) ∧ w.cell? ⟨lb, i * 9 + 3, none⟩ = some (.string k.s) ∧ w.cell? ⟨lb, i * 9 + 4, none⟩ = some (.int .u64 x.st) ∧ w.cell? ⟨lb, i * 9 + 5, none⟩ = some (.bool (!x.ab)) ∧ w.cell? ⟨lb, i * 9 + 6, none⟩ = some (.string x.text) ∧ w.cell? ⟨lb, i * 9 + 7, none⟩ = some (.bool x.lk) ∧ w.cell? ⟨lb, i * 9 + 8, none⟩ = some (.int .i64 x.who)
  lt : lb < w.heap.size
/-- the reference's store, to be read: its block, its list -/
structure RV (w : World) (rb : Nat) (a : Option Addr) (cap room : Nat) (L : List (Ky × Cl)) : Prop where
  blk : w.heap[rb]? = some (.cells #[.int .i64 room, .slice a L.length cap] 34 (0, 0))
  row : L ≠ [] → ∃ lb, a = some ⟨lb, 0, none⟩ ∧ RAt w lb L
  len : L.length ≤ 1048576
def lookL (L : List (Ky × Cl)) (k : Ky) : Option Cl := match L with
  | [] => none
  | (k', x) :: t => if k.eqB k' then some x else lookL t k

section
variable {w w' : World} {rb lb cap room : Nat} {a : Option Addr} {L : List (Ky × Cl)}
theorem RAt.of_block (h : RAt w lb L) (hb : w'.heap[lb]? = w.heap[lb]?) : RAt w' lb L :=
  ⟨fun i k x hk => by
    have e : ∀ j, w'.cell? ⟨lb, j, none⟩ = w.cell? ⟨lb, j, none⟩ := fun j => World.cell?_of_block (a := ⟨lb, j, none⟩) hb
    rw [e, e, e, e, e, e, e, e, e]; exact h.cells i k x hk, (Array.getElem?_eq_some_iff.1 (hb.trans (Array.getElem?_eq_getElem h.lt))).1⟩
theorem RV.lt (h : RV w rb a cap room L) : rb < w.heap.size := (Array.getElem?_eq_some_iff.1 h.blk).1
theorem RV.below (h : RV w rb a cap room L) (hb : Below w.heap.size w w') : RV w' rb a cap room L :=
  ⟨(hb.block _ h.lt).trans h.blk, fun e => by
    obtain ⟨lb, h1, h2⟩ := h.row e
    exact ⟨lb, h1, h2.of_block (hb.block _ h2.lt)⟩, h.len⟩
theorem RV.alloc (h : RV w rb a cap room L) (X : Obj) : RV (w.alloc X) rb a cap room L := h.below ((Below.refl _ _).alloc (Nat.le_refl _) _)
theorem RV.cell1 (h : RV w rb a cap room L) : w.cell? ⟨rb, 1, none⟩ = some (.slice a L.length cap) := by rw [cell_of_blk h.blk]; rfl
end

theorem lookL_none : ∀ {L : List (Ky × Cl)} {k : Ky}, (∀ j : Nat, (L.map (·.1))[j]? ≠ some k) → lookL L k = none
  | [], _, _ => rfl
  | (k', x) :: t, k, h => by
    have h0 : k ≠ k' := fun e => h 0 (by simp [e])
    unfold lookL
    rw [Ky.eqB_false h0]
    exact lookL_none (fun j => by have := h (j + 1); simpa using this)
theorem lookL_some : ∀ {L : List (Ky × Cl)} {k : Ky} {i : Nat}, (L.map (·.1))[i]? = some k → (∀ j : Nat, j < i → (L.map (·.1))[j]? ≠ some k) → ∃ x, L[i]? = some (k, x) ∧ lookL L k = some x
  | [], _, _, h, _ => by simp at h
  | (k', x) :: t, k, 0, h, _ => by
    simp at h
    subst h
    refine ⟨x, rfl, ?_⟩
    unfold lookL
    rw [Ky.eqB_true rfl]; rfl
  | (k', x) :: t, k, i + 1, h, hf => by
    have h0 : k ≠ k' := fun e => hf 0 (by omega) (by simp [e])
    obtain ⟨y, h1, h2⟩ := lookL_some (L := t) (k := k) (i := i) (by simpa using h) (fun j hj => by have := hf (j + 1) (by omega); simpa using this)
    refine ⟨y, by simpa using h1, ?_⟩
    unfold lookL
    rw [Ky.eqB_false h0]
    exact h2

set_option maxRecDepth 100000 in
set_option maxHeartbeats 400000 in
theorem r9find_any (rb cap room : Nat) (a : Option Addr) (L : List (Ky × Cl)) (k : Ky) (w : World) (h : RV w rb a cap room L) :
    Calls Tryz.prog 91 #[.pointer (some ⟨rb, 0, none⟩), .agg #[.int .i64 k.kind, .int .i64 k.a, .int .i64 k.b, .string k.s]] w (IdxPost (L.map (·.1)) k w) := by
  have c1 := h.cell1
  have hrl := h.lt
  have hll := h.len
  go_enter Tryz.func91, Tryz.ntmps91
  go_wp2_with fail
  go_loopw [5] (fun i wr => ∃ j : Nat, j ≤ L.length ∧ i = .int .i64 j ∧ (∀ j' : Nat, j' < j → (L.map (·.1))[j']? ≠ some k) ∧ ∃ n, wr = (w.alloc (.cells #[.int .i64 k.kind, .int .i64 k.a, .int .i64 k.b, .string k.s] 47)).drewN n) (fun i _ => L.length - (intOf i).toNat)
  case atStart => exact ⟨0, Nat.zero_le _, rfl, fun _ h => absurd h (Nat.not_lt_zero _), 0, rfl⟩
  case round =>
    obtain ⟨j, hj, rfl, hno, n, rfl⟩ := hrel
    have HN := Lib.hid hno
    clear hno
    by_cases hlt : j < L.length
    · obtain ⟨⟨kk, x⟩, hkk⟩ : ∃ kk, L[j]? = some kk := ⟨_, List.getElem?_eq_getElem hlt⟩
      obtain ⟨lb, rfl, hat⟩ := h.row (fun e => by rw [e] at hlt; simp at hlt)
      obtain ⟨q0, q1, q2, q3, _⟩ := hat.cells j kk x hkk
      have hlb := hat.lt
      have HK : Hid ((L.map (·.1))[j]? = some kk) := Lib.hid (by simp [hkk])
      clear hkk hat h
      have hE := eqKy kk k
      by_cases he : kk = k
      · rw [Ky.eqB_true he] at hE
        have HE := Lib.hid he
        clear he
        go_wp2_with fail
        go_quiet (fail)
        go_wp2_with fail
        go_ret
        exact ⟨_, rfl, .inr ⟨j, rfl, by rw [HK.out, HE.out], HN.out⟩, below_drewN (below_drewN ((Below.refl _ _).alloc (Nat.le_refl _) _) _) _⟩
      · rw [Ky.eqB_false he] at hE
        have HE := Lib.hid he
        clear he
        go_wp2_with fail
        go_quiet (fail)
        go_wp2_with fail
        refine ⟨⟨j + 1, by omega, by go_num, fun j' hj' => ?_, ⟨_, rfl⟩⟩, by simp [intOf]; omega⟩
        rcases Nat.lt_succ_iff_lt_or_eq.1 hj' with h | rfl
        · exact HN.out j' h
        · rw [HK.out]; exact fun e => HE.out (Option.some.inj e)
    · clear h
      go_wp2_with fail
      go_ret
      refine ⟨_, rfl, .inl ⟨rfl, fun j' => ?_⟩, below_drewN ((Below.refl _ _).alloc (Nat.le_refl _) _) _⟩
      rcases Nat.lt_or_ge j' j with h | h
      · exact HN.out j' h
      · rw [List.getElem?_eq_none (by simp; omega)]; simp
/-- Find of a key that is there -/
theorem r9find_some (rb cap room : Nat) (a : Option Addr) (L : List (Ky × Cl)) (k : Ky) (x : Cl) (w : World) (h : RV w rb a cap room L) (hx : lookL L k = some x) :
    Calls Tryz.prog 91 #[.pointer (some ⟨rb, 0, none⟩), .agg #[.int .i64 k.kind, .int .i64 k.a, .int .i64 k.b, .string k.s]] w fun e w' => ∃ i : Nat, e = .returned (.int .i64 i) ∧ L[i]? = some (k, x) ∧ Below w.heap.size w w' := by
  refine (r9find_any rb cap room a L k w h).mono ?_
  rintro e w' ⟨r, rfl, hr, hb⟩
  rcases hr with ⟨_, hn⟩ | ⟨i, rfl, h1, h2⟩
  · rw [lookL_none hn] at hx; cases hx
  · obtain ⟨y, e1, e2⟩ := lookL_some h1 h2
    rw [hx] at e2
    cases e2
    exact ⟨i, rfl, e1, hb⟩
theorem r9find_none (rb cap room : Nat) (a : Option Addr) (L : List (Ky × Cl)) (k : Ky) (w : World) (h : RV w rb a cap room L) (hx : lookL L k = none) :
    Calls Tryz.prog 91 #[.pointer (some ⟨rb, 0, none⟩), .agg #[.int .i64 k.kind, .int .i64 k.a, .int .i64 k.b, .string k.s]] w fun e w' => e = .returned (.int .i64 (-1)) ∧ Below w.heap.size w w' := by
  refine (r9find_any rb cap room a L k w h).mono ?_
  rintro e w' ⟨r, rfl, hr, hb⟩
  rcases hr with ⟨rfl, hn⟩ | ⟨i, rfl, h1, h2⟩
  · exact ⟨rfl, hb⟩
  · obtain ⟨y, e1, e2⟩ := lookL_some h1 h2
    rw [hx] at e2
    cases e2
end Go.Proofs.YtkhkdedjffkhdaaGreat
namespace Go.Proofs.YtkhkdedjffkhdaaGreat
open Go.RowKit Go.Maps

set_option maxRecDepth 100000 in
set_option maxHeartbeats 400000 in
theorem r9read_any (rb cap room : Nat) (a : Option Addr) (L : List (Ky × Cl)) (k : Ky) (w : World) (h : RV w rb a cap room L) :
    Calls Tryz.prog 55 #[.pointer (some ⟨rb, 0, none⟩), .agg #[.int .i64 k.kind, .int .i64 k.a, .int .i64 k.b, .string k.s]] w fun e w' => e = .returned (readV (lookL L k)) ∧ Below w.heap.size w w' := by
  have hW := fun X Y => (h.alloc X).alloc Y
  have hB := fun X Y => below_box2 w X Y 0
  have HB := Lib.hid hB
  clear hB
  have hres : ∀ (X Y : Obj) w1, Below ((w.alloc X).alloc Y).heap.size ((w.alloc X).alloc Y) w1 → w1.heap[w.heap.size + 1]? = some Y ∧ w.heap.size + 1 < w1.heap.size := fun X Y w1 hb => by
    have e := heap_new (w.alloc X) Y
    rw [size_alloc] at e
    have e2 := (hb.block (w.heap.size + 1) (by simp)).trans e
    exact ⟨e2, (Array.getElem?_eq_some_iff.1 e2).1⟩
  have HR := Lib.hid hres
  clear hres
  cases hx : lookL L k with
  | none =>
    have HX := Lib.hid hx
    clear hx
    go_enter Tryz.func55, Tryz.ntmps55
    go_wp2_with fail
    refine (r9find_none rb cap room a L k _ (hW _ _) HX.out).mono ?_
    rintro e w1 ⟨rfl, hb⟩
    obtain ⟨r0, r1⟩ := HR.out _ _ w1 hb
    have d0 := cell_of_blk r0 0
    have d1 := cell_of_blk r0 1
    have d2 := cell_of_blk r0 2
    have g0 := frozen_of_blk r0 0
    have g1 := frozen_of_blk r0 1
    have g2 := frozen_of_blk r0 2
    simp at d0 d1 d2
    have hBB := (HB.out _ _).trans (hb.mono (by simp; omega))
    clear hb r0
    go_wp2_with fail
    refine bodyPost_ret (v := .tuple #[.agg #[.int .u64 0, .string ⟨#[]⟩, .bool false], .int .i64 0]) (by simp [results, Tryz.results55, go_sem, d0, d1, d2]) rfl ⟨rfl, ?_⟩
    exact ((hBB.setCell (Nat.le_succ _) _).setCell (Nat.le_succ _) _).setCell (Nat.le_succ _) _
  | some x =>
    have HX := Lib.hid hx
    clear hx
    go_enter Tryz.func55, Tryz.ntmps55
    go_wp2_with fail
    refine (r9find_some rb cap room a L k x _ (hW _ _) HX.out).mono ?_
    rintro e w1 ⟨i, rfl, hi, hb⟩
    have h1 := (hW _ _).below hb
    have hlt := (List.getElem?_eq_some_iff.1 hi).1
    obtain ⟨lb, rfl, hat⟩ := h1.row (fun e => by rw [e] at hlt; simp at hlt)
    obtain ⟨q0, q1, q2, q3, q4, q5, q6, q7, q8⟩ := hat.cells i k x hi
    have hlb := hat.lt
    have c1 := h1.cell1
    have hll := h1.len
    have hrl := h1.lt
    obtain ⟨r0, r1⟩ := HR.out _ _ w1 hb
    have d0 := cell_of_blk r0 0
    have d1 := cell_of_blk r0 1
    have d2 := cell_of_blk r0 2
    have g0 := frozen_of_blk r0 0
    have g1 := frozen_of_blk r0 1
    have g2 := frozen_of_blk r0 2
    simp at d0 d1 d2
    have hBB := (HB.out _ _).trans (hb.mono (by simp; omega))
    clear hb r0 hat h1 hi hW h
    obtain ⟨st, lk, ab, text, who⟩ := x
    dsimp only at *
    cases lk
    · go_wp2_with fail
      refine bodyPost_ret (v := .tuple #[.agg #[.int .u64 st, .string text, .bool (!ab)], .int .i64 0]) (by simp [results, Tryz.results55, go_sem, d0, d1, d2, r1]) rfl ⟨rfl, ?_⟩
      exact (((hBB.setCell (Nat.le_succ _) _).setCell (Nat.le_succ _) _).setCell (Nat.le_succ _) _).alloc (by simp only [size_setCell]; exact hBB.size) _
    · go_wp2_with fail
      refine bodyPost_ret (v := .tuple #[.agg #[.int .u64 0, .string ⟨#[]⟩, .bool false], .int .i64 60]) (by simp [results, Tryz.results55, go_sem, d0, d1, d2, r1]) rfl ⟨rfl, ?_⟩
      exact (((hBB.setCell (Nat.le_succ _) _).setCell (Nat.le_succ _) _).setCell (Nat.le_succ _) _).alloc (by simp only [size_setCell]; exact hBB.size) _

set_option maxRecDepth 100000 in
set_option maxHeartbeats 400000 in
theorem r9holds_any (rb cap room : Nat) (a : Option Addr) (L : List (Ky × Cl)) (k : Ky) (who : Int) (w : World) (h : RV w rb a cap room L) :
    Calls Tryz.prog 97 #[.pointer (some ⟨rb, 0, none⟩), .agg #[.int .i64 k.kind, .int .i64 k.a, .int .i64 k.b, .string k.s], .int .i64 who] w fun e w' => e = .returned (.bool (holdsV (lookL L k) who)) ∧ Below w.heap.size w w' := by
  have hW := fun X => h.alloc X
  have HB := Lib.hid (fun X => (Below.refl w.heap.size w).alloc (Nat.le_refl _) X)
  cases hx : lookL L k with
  | none =>
    have HX := Lib.hid hx
    clear hx
    go_enter Tryz.func97, Tryz.ntmps97
    go_wp2_with fail
    refine (r9find_none rb cap room a L k _ (hW _) HX.out).mono ?_
    rintro e w1 ⟨rfl, hb⟩
    have hBB := (HB.out _).trans (hb.mono (by simp))
    go_wp2_with fail
    go_ret
    exact ⟨rfl, hBB⟩
  | some x =>
    have HX := Lib.hid hx
    clear hx
    go_enter Tryz.func97, Tryz.ntmps97
    go_wp2_with fail
    refine (r9find_some rb cap room a L k x _ (hW _) HX.out).mono ?_
    rintro e w1 ⟨i, rfl, hi, hb⟩
    have h1 := (hW _).below hb
    have hlt := (List.getElem?_eq_some_iff.1 hi).1
    obtain ⟨lb, rfl, hat⟩ := h1.row (fun e => by rw [e] at hlt; simp at hlt)
    obtain ⟨q0, q1, q2, q3, q4, q5, q6, q7, q8⟩ := hat.cells i k x hi
    have hlb := hat.lt
    have c1 := h1.cell1
    have hll := h1.len
    have hrl := h1.lt
    have hBB := (HB.out _).trans (hb.mono (by simp))
    clear hb hat h1 hi hW h
    obtain ⟨st, lk, ab, text, whx⟩ := x
    dsimp only at *
    cases lk
    · go_wp2_with fail
      go_ret
      exact ⟨rfl, hBB⟩
    · go_wp2_with fail
      go_ret
      exact ⟨rfl, hBB⟩

set_option maxRecDepth 100000 in
set_option maxHeartbeats 1000000 in
theorem r9still_any (rb cap room : Nat) (a : Option Addr) (L : List (Ky × Cl)) (k : Ky) (who vw : Int) (vs : ByteArray) (vh : Bool) (w : World) (h : RV w rb a cap room L) :
    Calls Tryz.prog 70 #[.pointer (some ⟨rb, 0, none⟩), .agg #[.int .i64 k.kind, .int .i64 k.a, .int .i64 k.b, .string k.s], .int .i64 who, .agg #[.int .u64 vw, .string vs, .bool vh]] w fun e w' => e = .returned (.bool (stillV (lookL L k) who vw vh)) ∧ Below w.heap.size w w' := by
  have hW := fun X Y => (h.alloc X).alloc Y
  have hB := fun X Y => below_box2 w X Y 0
  have HB := Lib.hid hB
  clear hB
  have hres : ∀ (X Y : Obj) w1, Below ((w.alloc X).alloc Y).heap.size ((w.alloc X).alloc Y) w1 → w1.heap[w.heap.size + 1]? = some Y ∧ w.heap.size + 1 < w1.heap.size := fun X Y w1 hb => by
    have e := heap_new (w.alloc X) Y
    rw [size_alloc] at e
    have e2 := (hb.block (w.heap.size + 1) (by simp)).trans e
    exact ⟨e2, (Array.getElem?_eq_some_iff.1 e2).1⟩
  have HR := Lib.hid hres
  clear hres
  cases hx : lookL L k with
  | none =>
    have HX := Lib.hid hx
    clear hx
    go_enter Tryz.func70, Tryz.ntmps70
    go_wp2_with fail
    refine (r9find_none rb cap room a L k _ (hW _ _) HX.out).mono ?_
    rintro e w1 ⟨rfl, hb⟩
    obtain ⟨r0, r1⟩ := HR.out _ _ w1 hb
    have d2 := cell_of_blk r0 2
    simp at d2
    have hBB := (HB.out _ _).trans (hb.mono (by simp; omega))
    clear hb r0
    go_wp2_with fail
    go_ret
    exact ⟨rfl, hBB⟩
  | some x =>
    have HX := Lib.hid hx
    clear hx
    go_enter Tryz.func70, Tryz.ntmps70
    go_wp2_with fail
    refine (r9find_some rb cap room a L k x _ (hW _ _) HX.out).mono ?_
    rintro e w1 ⟨i, rfl, hi, hb⟩
    have h1 := (hW _ _).below hb
    have hlt := (List.getElem?_eq_some_iff.1 hi).1
    obtain ⟨lb, rfl, hat⟩ := h1.row (fun e => by rw [e] at hlt; simp at hlt)
    obtain ⟨q0, q1, q2, q3, q4, q5, q6, q7, q8⟩ := hat.cells i k x hi
    have hlb := hat.lt
    have c1 := h1.cell1
    have hll := h1.len
    have hrl := h1.lt
    obtain ⟨r0, r1⟩ := HR.out _ _ w1 hb
    have d0 := cell_of_blk r0 0
    have d1 := cell_of_blk r0 1
    have d2 := cell_of_blk r0 2
    simp at d0 d1 d2
    have hBB := (HB.out _ _).trans (hb.mono (by simp; omega))
    clear hb r0 hat h1 hi hW h
    obtain ⟨st, lk, ab, text, whx⟩ := x
    dsimp only at *
    have fin : ∀ (v : Value) (X : Obj), Value.bool (stillV (some ⟨st, lk, ab, text, whx⟩) who vw vh) = v → Ending.returned v = .returned (.bool (stillV (some ⟨st, lk, ab, text, whx⟩) who vw vh)) ∧ Below w.heap.size w (w1.alloc X) := fun v X e => ⟨by rw [e], hBB.alloc hBB.size _⟩
    have FIN := Lib.hid fin
    clear fin
    by_cases hc : lk = true ∧ whx ≠ who
    · obtain ⟨rfl, hc2⟩ := hc
      have hne : (whx != who) = true := by simpa using hc2
      have HV : Hid (Value.bool (stillV (some ⟨st, true, ab, text, whx⟩) who vw vh) = .bool false) := Lib.hid (by simp [stillV, hc2])
      clear hc2
      go_wp2_with fail
      go_ret
      exact FIN.out _ _ HV.out
    · have hcase : lk = false ∨ (lk = true ∧ whx = who) := by cases lk <;> simp_all
      have HV : Hid (stillV (some ⟨st, lk, ab, text, whx⟩) who vw vh = ((ab == !vh) && ((st : Int) == vw || (!vh && ((st : Int) == 0))))) := Lib.hid (by unfold stillV; simp only [if_neg hc])
      clear hc
      rcases hcase with rfl | ⟨rfl, rfl⟩ <;> cases ab <;> cases vh <;> cases hst : ((st : Int) == vw)
      all_goals
        have HST := Lib.hid hst
        go_wp2_with fail
        go_ret
        exact FIN.out _ _ (by rw [HV.out]; simp [HST.out])
end Go.Proofs.YtkhkdedjffkhdaaGreat
namespace Go.Proofs.YtkhkdedjffkhdaaGreat
open Go.RowKit Go.Maps

theorem infoC : (Tryz.prog.info? 90).map (fun i => (i.zero, i.size, i.bytes)) = some (some (.agg #[.int .i64 0, .int .i64 0, .int .i64 0, .string ByteArray.empty, .int .u64 0, .bool false, .string ByteArray.empty, .bool false, .int .i64 0]), 9, 88) := by kernel_rfl
def encC (p : Ky × Cl) : List Value := [.int .i64 p.1.kind, .int .i64 p.1.a, .int .i64 p.1.b, .string p.1.s, .int .u64 p.2.st, .bool (!p.2.ab), .string p.2.text, .bool p.2.lk, .int .i64 p.2.who]
/-- the reference's cells as elements -/
def kC : RowK Tryz.prog (Ky × Cl) where
  t := 32
  e := 90
  size := 9
  bytes := 88
  z := .agg #[.int .i64 0, .int .i64 0, .int .i64 0, .string ByteArray.empty, .int .u64 0, .bool false, .string ByteArray.empty, .bool false, .int .i64 0]
  enc := encC
  ht := Tryz.underlying32
  info := infoC
  hz := rfl
  pos := by decide
  small := by decide
  len := fun _ => rfl
  one := fun x u hu => by
    simp [encC] at hu
    rcases hu with rfl | rfl | rfl | rfl | rfl | rfl | rfl | rfl | rfl <;> rfl
theorem own_ty' {P : Program} {α : Type} {k : RowK P α} {w : World} {B : Nat} {v : Value} {l : List α} (h : k.Own w B v l) {b : Nat} {c : Array Value} {t : TypeId} {z : Nat × Nat} (hb : w.heap[b]? = some (.cells c t z)) (ht : t ≠ k.e) : some b ≠ v.ownBlock := fun e => by
  rcases h.2 with ⟨h1, _⟩ | ⟨g, cp, cur, h1, _, hg, _⟩
  · rw [h1] at e; cases e
  · rw [h1] at e
    injection e with e
    subst e
    rw [hg] at hb
    injection hb with hb
    injection hb with e1 e2 e3
    exact ht e2.symm
/-- the reference's store: its block, its row, which it owns from D on -/
structure RO (w : World) (rb D room : Nat) (v : Value) (L : List (Ky × Cl)) : Prop where
  blk : w.heap[rb]? = some (.cells #[.int .i64 room, v] 34 (0, 0))
  o : kC.Own w D v L
  len : L.length ≤ 1048576
/-- what it may change -/
def RF (rb : Nat) (v : Value) (i : Nat) : Prop := i = rb ∨ v.ownBlock = some i
section
variable {w w' : World} {rb D room g n cap i : Nat} {v v' : Value} {L : List (Ky × Cl)} {k : Ky} {x y : Cl}
theorem RO.lt (h : RO w rb D room v L) : rb < w.heap.size := (Array.getElem?_eq_some_iff.1 h.blk).1
theorem RO.below (h : RO w rb D room v L) (hb : Below w.heap.size w w') : RO w' rb D room v L := ⟨(hb.block _ h.lt).trans h.blk, h.o.below hb, h.len⟩
theorem RO.ne (h : RO w rb D room v L) : some rb ≠ v.ownBlock := own_ty' h.o h.blk (by decide)
theorem RO.rv {a : Option Addr} (h : RO w rb D room (.slice a n cap) L) : RV w rb a cap room L ∧ n = L.length := by
  obtain ⟨a', c', e⟩ := h.o.shape
  injection e with e1 e2 e3
  subst e1 e2 e3
  refine ⟨⟨h.blk, fun hn => ?_, h.len⟩, rfl⟩
  obtain ⟨lb, _, e, _, _, hat⟩ := h.o.at' hn
  injection e with e1
  refine ⟨lb, e1, ⟨fun i k x hk => ?_, hat.lt⟩⟩
  have c := fun j u hu => hat.cells i (k, x) hk j u hu
  simp only [Nat.zero_add] at c
  exact ⟨c 0 _ rfl, c 1 _ rfl, c 2 _ rfl, c 3 _ rfl, c 4 _ rfl, c 5 _ rfl, c 6 _ rfl, c 7 _ rfl, c 8 _ rfl⟩
theorem RO.at_ (h : RO w rb D room (.slice (some ⟨g, 0, none⟩) n cap) L) {p : Ky × Cl} (hi : L[i]? = some p) : kC.At w g 0 L := by
  obtain ⟨b, c, e, _, _, hat⟩ := h.o.at' (fun e => by rw [e] at hi; simp at hi)
  injection e with e1
  injection e1 with e1
  injection e1 with e1
  rw [e1]
  exact hat
theorem RO.fz (h : RO w rb D room (.slice (some ⟨g, 0, none⟩) n cap) L) (o : Nat) : w.frozen? ⟨g, o, none⟩ = false := by
  rcases h.o.2 with ⟨h1, _⟩ | ⟨g', cp, cur, h1, _, hg, _⟩
  · injection h1 with e1; cases e1
  · injection h1 with e1
    injection e1 with e1
    injection e1 with e1
    subst e1
    exact frozen_of_blk hg o
/-- one cell of one element is written -/
theorem RO.put1 (h : RO w rb D room (.slice (some ⟨g, 0, none⟩) n cap) L) (hx : L[i]? = some (k, x)) (r : Nat) (hr : r < 9) (u : Value) (he : encC (k, y) = (encC (k, x)).take r ++ [u] ++ (encC (k, x)).drop (r + [u].length)) :
    RO (w.setCell ⟨g, i * 9 + r, none⟩ u) rb D room (.slice (some ⟨g, 0, none⟩) n cap) (L.set i (k, y)) ∧ Chg w (w.setCell ⟨g, i * 9 + r, none⟩ u) (RF rb (.slice (some ⟨g, 0, none⟩) n cap)) := by
  have hne : rb ≠ g := fun e => h.ne (by rw [e]; rfl)
  have o1 := h.o.upd (i := i) (r := r) (x := (k, x)) (x' := (k, y)) hx [u] (by show r + 1 ≤ 9; omega) (fun j => by
    show (encC (k, y))[j]? = _
    rw [he]
    exact splice_at (by show r + 1 ≤ 9; omega) j)
  change kC.Own (w.setCell ⟨g, i * 9 + r, none⟩ u) D _ _ at o1
  exact ⟨⟨by rw [Below.heap_setCell _ _ _ _ hne]; exact h.blk, o1, by rw [List.length_set]; exact h.len⟩, (Chg.refl w _).setCell (p := ⟨g, i * 9 + r, none⟩) (fun _ => .inr rfl) _⟩
/-- one cell more -/
theorem RO.app (h : RO w rb D room v L) (hA : kC.App w D v (L ++ [(k, x)]) v' w') (hl : L.length < 1048576) :
    w'.heap[rb]? = some (.cells #[.int .i64 room, v] 34 (0, 0)) ∧ RO (w'.setCell ⟨rb, 1, none⟩ v') rb D room v' (L ++ [(k, x)]) ∧ Chg w (w'.setCell ⟨rb, 1, none⟩ v') (RF rb v) := by
  obtain ⟨o1, g1, _⟩ := hA
  have hb := (g1.block rb h.lt h.ne).trans h.blk
  have hc : Chg w' (w'.setCell ⟨rb, 1, none⟩ v') (fun i => i = rb) := (Chg.refl w' (fun i => i = rb)).setCell (p := ⟨rb, 1, none⟩) (fun _ => rfl) _
  have hn : some rb ≠ v'.ownBlock := own_ty' o1 hb (by decide)
  exact ⟨hb, ⟨by rw [blk_setCell hb]; simp, o1.chg hc (fun j hj e => hn (by rw [hj, e])), by simp; omega⟩, ((Chg.refl w _).grown g1 (fun m hm _ => .inr hm)).setCell (p := ⟨rb, 1, none⟩) (fun _ => .inl rfl) _⟩
end
/-- a cell's place in a list by keys -/
def FstAt (L : List (Ky × Cl)) (k : Ky) (i : Nat) : Prop := ∀ j : Nat, j < i → (L.map (·.1))[j]? ≠ some k
theorem r9find_at (rb cap room : Nat) (a : Option Addr) (L : List (Ky × Cl)) (k : Ky) (x : Cl) (w : World) (h : RV w rb a cap room L) (hx : lookL L k = some x) :
    Calls Tryz.prog 91 #[.pointer (some ⟨rb, 0, none⟩), .agg #[.int .i64 k.kind, .int .i64 k.a, .int .i64 k.b, .string k.s]] w fun e w' => ∃ i : Nat, e = .returned (.int .i64 i) ∧ L[i]? = some (k, x) ∧ FstAt L k i ∧ Below w.heap.size w w' := by
  refine (r9find_any rb cap room a L k w h).mono ?_
  rintro e w' ⟨r, rfl, hr, hb⟩
  rcases hr with ⟨_, hn⟩ | ⟨i, rfl, h1, h2⟩
  · rw [lookL_none hn] at hx; cases hx
  · obtain ⟨y, e1, e2⟩ := lookL_some h1 h2
    rw [hx] at e2
    cases e2
    exact ⟨i, rfl, e1, h2, hb⟩
/-- another cell for a key that is there -/
def updL (k : Ky) (y : Cl) : List (Ky × Cl) → List (Ky × Cl)
  | [] => []
  | (k', x) :: t => if k.eqB k' then (k', y) :: t else (k', x) :: updL k y t
/-- a key is taken out -/
def delL (k : Ky) : List (Ky × Cl) → List (Ky × Cl)
  | [] => []
  | (k', x) :: t => if k.eqB k' then t else (k', x) :: delL k t
theorem set_upd {k : Ky} {x y : Cl} : ∀ {L : List (Ky × Cl)} {i : Nat}, L[i]? = some (k, x) → FstAt L k i → L.set i (k, y) = updL k y L
  | [], _, h, _ => by simp at h
  | (k', x') :: t, 0, h, _ => by
    simp at h
    obtain ⟨rfl, rfl⟩ := h
    unfold updL
    rw [if_pos (Ky.eqB_true rfl)]
    rfl
  | (k', x') :: t, i + 1, h, hf => by
    have h0 : k ≠ k' := fun e => hf 0 (by omega) (by simp [e])
    unfold updL
    rw [if_neg (by rw [Ky.eqB_false h0]; decide), List.set_cons_succ, set_upd (L := t) (by simpa using h) (fun j hj => by have := hf (j + 1) (by omega); simpa using this)]
theorem cut_del {k : Ky} {x : Cl} : ∀ {L : List (Ky × Cl)} {i : Nat}, L[i]? = some (k, x) → FstAt L k i → L.take i ++ L.drop (i + 1) = delL k L
  | [], _, h, _ => by simp at h
  | (k', x') :: t, 0, h, _ => by
    simp at h
    obtain ⟨rfl, rfl⟩ := h
    unfold delL
    rw [if_pos (Ky.eqB_true rfl)]
    rfl
  | (k', x') :: t, i + 1, h, hf => by
    have h0 : k ≠ k' := fun e => hf 0 (by omega) (by simp [e])
    unfold delL
    rw [if_neg (by rw [Ky.eqB_false h0]; decide), List.take_succ_cons, List.cons_append, List.drop_succ_cons, cut_del (L := t) (by simpa using h) (fun j hj => by have := hf (j + 1) (by omega); simpa using this)]
theorem fst_set {k : Ky} {y : Cl} {L : List (Ky × Cl)} {i : Nat} (hf : FstAt L k i) : FstAt (L.set i (k, y)) k i := fun j hj => by
  rw [List.map_set, List.getElem?_set_ne (by omega)]
  exact hf j hj
theorem lookL_out {k : Ky} : ∀ {L : List (Ky × Cl)}, lookL L k = none → ∀ p ∈ L, p.1 ≠ k
  | [], _, p, hp => by cases hp
  | (k', x) :: t, h, p, hp => by
    unfold lookL at h
    cases he : k.eqB k'
    · rw [he] at h
      rcases List.mem_cons.1 hp with rfl | hp
      · intro e
        rw [Ky.eqB_true e.symm] at he
        cases he
      · exact lookL_out (L := t) h p hp
    · rw [he] at h
      cases h
end Go.Proofs.YtkhkdedjffkhdaaGreat
namespace Go.Proofs.YtkhkdedjffkhdaaGreat
open Go.RowKit Go.Maps

def noCl : Cl := ⟨0, false, true, ByteArray.empty, 0⟩
def lockT (x : Cl) (who : Int) : Cl := { x with lk := true, who := who }
def lockL (room : Nat) (L : List (Ky × Cl)) (k : Ky) (who : Int) : Nat × Int × List (Ky × Cl) :=
  match lookL L k with
  | none => if room ≤ L.length then (0, 50, L) else (0, 0, L ++ [(k, lockT noCl who)])
  | some x => if x.lk then (0, 60, L) else (x.st, 0, updL k (lockT x who) L)
/-- what a call that writes leaves of the reference's store -/
structure RPost (w : World) (rb D room : Nat) (v : Value) (L : List (Ky × Cl)) (w' : World) : Prop where
  ex : ∃ v', RO w' rb D room v' L ∧ ∀ j, v'.ownBlock = some j → v.ownBlock = some j ∨ w.heap.size ≤ j
  chg : Chg w w' (RF rb v)
def RLk (w : World) (rb D room : Nat) (v : Value) (L : List (Ky × Cl)) (k : Ky) (who : Int) (e : Ending) (w' : World) : Prop :=
  e = .returned (.tuple #[.int .u64 (lockL room L k who).1, .int .i64 (lockL room L k who).2.1]) ∧ RPost w rb D room v (lockL room L k who).2.2 w'
theorem RPost.same {w w' : World} {rb D room : Nat} {v : Value} {L : List (Ky × Cl)} (h : RO w rb D room v L) (hb : Below w.heap.size w w') : RPost w rb D room v L w' :=
  ⟨⟨v, h.below hb, fun _ hj => .inl hj⟩, Chg.of_below hb _⟩
set_option maxRecDepth 100000 in
set_option maxHeartbeats 8000000 in
theorem rlock_any (rb D room : Nat) (v : Value) (L : List (Ky × Cl)) (k : Ky) (who : Int) (w : World) (h : RO w rb D room v L) (hD : D ≤ w.heap.size) (hlen : L.length < 1048576) :
    Calls Tryz.prog 67 #[.pointer (some ⟨rb, 0, none⟩), .agg #[.int .i64 k.kind, .int .i64 k.a, .int .i64 k.b, .string k.s], .int .i64 who] w (RLk w rb D room v L k who) := by
  obtain ⟨kb, hkb⟩ : ∃ kb, kb = w.heap.size := ⟨_, rfl⟩
  obtain ⟨W, hW⟩ : ∃ W, W = w.alloc (.cells #[.int .i64 k.kind, .int .i64 k.a, .int .i64 k.b, .string k.s] 47) := ⟨_, rfl⟩
  have HBW : Hid (Below w.heap.size w W) := Lib.hid (by rw [hW]; exact below_box _ _)
  have hk0 : W.heap[kb]? = some (.cells #[.int .i64 k.kind, .int .i64 k.a, .int .i64 k.b, .string k.s] 47 (0, 0)) := by rw [hW, hkb]; exact heap_new _ _
  have HKX : Hid (∀ u, Below W.heap.size W u → u.heap[kb]? = some (.cells #[.int .i64 k.kind, .int .i64 k.a, .int .i64 k.b, .string k.s] 47 (0, 0))) := Lib.hid (fun u hu => (hu.block _ (Array.getElem?_eq_some_iff.1 hk0).1).trans hk0)
  obtain ⟨a, cap, rfl⟩ := h.o.shape
  obtain ⟨m, hm⟩ : ∃ m, m = L.length := ⟨_, rfl⟩
  rw [← hm] at h ⊢
  have HM : Hid (m = L.length ∧ m < 1048576) := Lib.hid (by omega)
  have HRW := Lib.hid (h.below HBW.out)
  have HR0 := Lib.hid h
  have HDD := Lib.hid hD
  have HW := Lib.hid hW.symm
  have HKB := Lib.hid hkb.symm
  clear h hD hlen hW hkb hk0 hm
  go_enter Tryz.func67, Tryz.ntmps67
  go_upto_region 1 with fail
  rw [HW.out, HKB.out]
  have p0 := cell_of_blk (HKX.out W (Below.refl _ _)) 0
  have p1 := cell_of_blk (HKX.out W (Below.refl _ _)) 1
  have p2 := cell_of_blk (HKX.out W (Below.refl _ _)) 2
  have p3 := cell_of_blk (HKX.out W (Below.refl _ _)) 3
  have zk := (Array.getElem?_eq_some_iff.1 (HKX.out W (Below.refl _ _))).1
  simp at p0 p1 p2 p3
  cases hl : lookL L k with
  | none =>
    have HLN := Lib.hid hl
    have HF := Lib.hid (r9find_none rb cap room a L k W HRW.out.rv.1 hl)
    clear hl
    go_wp2_with fail
    refine HF.out.mono ?_
    rintro e w1 ⟨rfl, b1⟩
    have HR1 := Lib.hid (HRW.out.below b1)
    have HB1 : Hid (Below W.heap.size W w1) := Lib.hid b1
    have c0 := cell_of_blk HR1.out.blk 0
    have c1 := cell_of_blk HR1.out.blk 1
    have zr := HR1.out.lt
    simp at c0 c1
    clear b1 p0 p1 p2 p3 zk
    by_cases hrm : room ≤ m
    · have t1 : decide (room ≤ m) = true := decide_eq_true hrm
      have HLK : Hid (lockL room L k who = (0, 50, L)) := Lib.hid (by unfold lockL; rw [HLN.out]; simp only; rw [if_pos (by have := HM.out; omega)])
      clear hrm
      go_wp2_with fail
      go_quiet (fail)
      go_wp2_with fail
      go_ret2
      unfold RLk
      rw [HLK.out]
      exact ⟨rfl, RPost.same HR0.out (below_drewN (HBW.out.trans (HB1.out.mono HBW.out.size)) _)⟩
    · have t1 : decide (room ≤ m) = false := decide_eq_false hrm
      have HLK : Hid (lockL room L k who = (0, 0, L ++ [(k, lockT noCl who)])) := Lib.hid (by unfold lockL; rw [HLN.out]; simp only; rw [if_neg (by have := HM.out; omega)])
      clear hrm
      go_wp2_with fail
      go_quiet (fail)
      go_upto_region 5 with fail
      obtain ⟨u1, hu1⟩ : ∃ u, u = w1.drewN nq := ⟨_, rfl⟩
      rw [← hu1]
      have HBU : Hid (Below W.heap.size W u1) := Lib.hid (by rw [hu1]; exact below_drewN HB1.out _)
      have HRU : Hid (RO u1 rb D room (.slice a m cap) L) := Lib.hid (by rw [hu1]; exact HR1.out.below (below_drewN (Below.refl _ _) _))
      clear c0 c1 zr hu1
      have hkx := HKX.out u1 HBU.out
      have p0 := cell_of_blk hkx 0
      have p1 := cell_of_blk hkx 1
      have p2 := cell_of_blk hkx 2
      have p3 := cell_of_blk hkx 3
      have zk := (Array.getElem?_eq_some_iff.1 hkx).1
      have q1 := cell_of_blk HRU.out.blk 1
      have zr := HRU.out.lt
      simp at p0 p1 p2 p3 q1
      have HRA : Hid (RO (u1.drew.alloc (.cells #[.int .i64 k.kind, .int .i64 k.a, .int .i64 k.b, .string k.s, .int .u64 0, .bool false, .string ByteArray.empty, .bool false, .int .i64 0] 90)) rb D room (.slice a m cap) L) := Lib.hid (HRU.out.below ((below_drewN (Below.refl _ _) 1).alloc (Nat.le_refl _) _))
      have HXV : Hid (kC.V (u1.drew.alloc (.cells #[.int .i64 k.kind, .int .i64 k.a, .int .i64 k.b, .string k.s, .int .u64 0, .bool false, .string ByteArray.empty, .bool false, .int .i64 0] 90)) (some ⟨u1.heap.size, 0, none⟩) [(k, noCl)]) := Lib.hid (fun _ => ⟨_, 0, rfl, RowK.new_at (k := kC) (heap_new u1.drew _) (by simp [RowK.cells, kC, encC, noCl])⟩)
      have HDA : Hid (D ≤ (u1.drew.alloc (.cells #[.int .i64 k.kind, .int .i64 k.a, .int .i64 k.b, .string k.s, .int .u64 0, .bool false, .string ByteArray.empty, .bool false, .int .i64 0] 90)).heap.size) := Lib.hid (by have h1 := HBU.out.size; have h2 := HBW.out.size; have h3 := HDD.out; simp; omega)
      have HCA : Hid (Chg w (u1.drew.alloc (.cells #[.int .i64 k.kind, .int .i64 k.a, .int .i64 k.b, .string k.s, .int .u64 0, .bool false, .string ByteArray.empty, .bool false, .int .i64 0] 90)) (RF rb (.slice a m cap))) := Lib.hid (Chg.of_below ((below_drewN (HBW.out.trans (HBU.out.mono HBW.out.size)) 1).alloc (by have h1 := HBU.out.size; have h2 := HBW.out.size; show w.heap.size ≤ u1.heap.size; omega) _) _)
      clear hkx
      obtain ⟨n1, hn1⟩ : ∃ n1, n1 = m + 1 := ⟨_, rfl⟩
      have HN1 := Lib.hid hn1
      clear hn1
      go_region_law (first | (refine RowK.step_app (k := kC) (B := D) (v := .slice a m cap) (l := L) rfl (.tmp 28) (.tmp 31) rfl rfl HRA.out.o (some ⟨u1.heap.size, 0, none⟩) 1 [(k, noCl)] 1 rfl rfl HXV.out (fun e => by cases e) (by have := HM.out; simp; omega) HDA.out ?_; intro v8 w8 hA; obtain ⟨a8, c8, hv8⟩ := hA.1.shape; rw [show (L ++ [(k, noCl)]).length = n1 by rw [List.length_append, ← HM.out.1, HN1.out]; rfl] at hv8; subst hv8; have hP := HRA.out.app hA (by have := HM.out; omega); have y0 := cell_of_blk hP.1 1; have f0 := frozen_of_blk hP.1 1; have z0 : rb < w8.heap.size := (Array.getElem?_eq_some_iff.1 hP.1).1; simp at y0; have HP := Lib.hid hP.2; have HE8 := Lib.hid hA.2.2; clear hA hP) | fail)
      all_goals (
        obtain ⟨g, cp, hve, _, _, _⟩ := HP.out.1.o.at' (by simp)
        injection hve with hv1 hv2 hv3
        subst hv1
        clear hv2 hv3
        obtain ⟨u, hu⟩ : ∃ u, u = w8.setCell ⟨rb, 1, none⟩ (.slice (some ⟨g, 0, none⟩) n1 c8) := ⟨_, rfl⟩
        rw [← hu] at HP ⊢
        have HRO := Lib.hid HP.out.1
        have HC := Lib.hid (HCA.out.trans HP.out.2 (fun _ _ h => h))
        have HOB : Hid (∀ j, (Value.slice (some ⟨g, 0, none⟩) n1 c8).ownBlock = some j → (Value.slice a m cap).ownBlock = some j ∨ w.heap.size ≤ j) := Lib.hid (fun j hj => by
          rcases HE8.out with e | e
          · rw [e] at hj; exact .inl hj
          · rw [e] at hj
            injection hj with hj
            have h1 := HCA.out.size
            right
            rw [← hj]
            exact h1)
        have HI : Hid ((L ++ [(k, noCl)])[m]? = some (k, noCl)) := Lib.hid (by rw [HM.out.1, List.getElem?_append_right (Nat.le_refl _)]; simp)
        have hw6 : IntKind.i64.wrap ((n1 : Int) - 1) = (m : Int) := by rw [IntKind.wrap_i64]; have h1 := HN1.out; have h2 := HM.out; omega
        clear hu y0 f0 z0 p0 p1 p2 p3 zk q1 zr
        have hat := HRO.out.at_ HI.out
        have q1 := cell_of_blk HRO.out.blk 1
        have zr := HRO.out.lt
        have c7 := hat.cells m (k, noCl) HI.out 7 _ rfl
        simp [kC] at q1 c7
        have zg := hat.lt
        have f7 := HRO.out.fz (m * 9 + 7)
        have hin : m < n1 := by have h1 := (List.getElem?_eq_some_iff.1 HI.out).1; have h2 := HRO.out.rv.2; omega
        have hin2 : (m : Int) < (n1 : Int) := by omega
        have hlen1 : n1 ≤ 1048576 := by have h2 := HRO.out.rv.2; have := HRO.out.len; omega
        clear hat
        rw [show noCl.lk = false from rfl] at c7
        obtain ⟨x1, hx1⟩ : ∃ y : Cl, y = { noCl with lk := true } := ⟨_, rfl⟩
        obtain ⟨U1, hU1⟩ : ∃ U, U = u.setCell ⟨g, m * 9 + 7, none⟩ (.bool true) := ⟨_, rfl⟩
        have hp1 := HRO.out.put1 (y := x1) HI.out 7 (by omega) (.bool true) (by rw [hx1]; rfl)
        rw [← hU1] at hp1
        have HRO1 := Lib.hid hp1.1
        have HC1 := Lib.hid hp1.2
        have HI1 : Hid (((L ++ [(k, noCl)]).set m (k, x1))[m]? = some (k, x1)) := Lib.hid (List.getElem?_set_self (List.getElem?_eq_some_iff.1 HI.out).1)
        have HX1 := Lib.hid hx1
        have HU1 := Lib.hid hU1.symm
        clear hp1 hU1 hx1
        go_upto_region 10 with fail
        rw [HU1.out]
        clear q1 c7 zg zr f7
        have hat := HRO1.out.at_ HI1.out
        have q1 := cell_of_blk HRO1.out.blk 1
        have zr := HRO1.out.lt
        have c8 := hat.cells m (k, x1) HI1.out 8 _ rfl
        simp [kC] at q1 c8
        have zg := hat.lt
        have f8 := HRO1.out.fz (m * 9 + 8)
        obtain ⟨x2, hx2⟩ : ∃ y : Cl, y = { x1 with who := who } := ⟨_, rfl⟩
        obtain ⟨U2, hU2⟩ : ∃ U, U = U1.setCell ⟨g, m * 9 + 8, none⟩ (.int .i64 who) := ⟨_, rfl⟩
        have hp2 := HRO1.out.put1 (y := x2) HI1.out 8 (by omega) (.int .i64 who) (by rw [hx2]; rfl)
        rw [← hU2, List.set_set] at hp2
        have HRO2 := Lib.hid hp2.1
        have HC2 := Lib.hid hp2.2
        have HI2 : Hid (((L ++ [(k, noCl)]).set m (k, x2))[m]? = some (k, x2)) := Lib.hid (List.getElem?_set_self (List.getElem?_eq_some_iff.1 HI.out).1)
        have HX2 : Hid (x2 = lockT noCl who) := Lib.hid (by rw [hx2, HX1.out]; rfl)
        have HU2 := Lib.hid hU2.symm
        clear hp2 hU2 hx2 hat
        go_upto_region 11 with fail
        rw [HU2.out]
        clear q1 c8 zg zr f8
        have hat := HRO2.out.at_ HI2.out
        have q1 := cell_of_blk HRO2.out.blk 1
        have zr := HRO2.out.lt
        have c4 := hat.cells m (k, x2) HI2.out 4 _ rfl
        simp [kC] at q1 c4
        have zg := hat.lt
        clear hat
        go_wp2_with fail
        go_ret2
        have hC : Chg w U2 (RF rb (.slice a m cap)) := (HC.out.trans HC1.out (fun j hj hs => hs.elim .inl (fun q => (HOB.out j q).elim .inr (fun q2 => absurd hj (by omega))))).trans HC2.out (fun j hj hs => hs.elim .inl (fun q => (HOB.out j q).elim .inr (fun q2 => absurd hj (by omega))))
        unfold RLk
        rw [HLK.out]
        refine ⟨by rw [HX2.out]; rfl, ⟨⟨_, ?_, HOB.out⟩, hC⟩⟩
        have h := HRO2.out
        rw [HX2.out, show (L ++ [(k, noCl)]).set m (k, lockT noCl who) = L ++ [(k, lockT noCl who)] by rw [HM.out.1, List.set_append_right _ _ (Nat.le_refl _)]; simp] at h
        exact h

        )
  | some x =>
    have HLS := Lib.hid hl
    have HF := Lib.hid (r9find_at rb cap room a L k x W HRW.out.rv.1 hl)
    clear hl
    go_wp2_with fail
    refine HF.out.mono ?_
    rintro e w1 ⟨i, rfl, hi, hf, b1⟩
    have HRO := Lib.hid (HRW.out.below b1)
    have HB1 : Hid (Below w.heap.size w w1) := Lib.hid (HBW.out.trans (b1.mono HBW.out.size))
    have HC : Hid (Chg w w1 (RF rb (.slice a m cap))) := Lib.hid (Chg.of_below HB1.out _)
    have HI := Lib.hid hi
    have HFS := Lib.hid hf
    obtain ⟨g, cp, hve, _, _, _⟩ := HRO.out.o.at' (fun e => by rw [e] at hi; simp at hi)
    injection hve with hv1 hv2 hv3
    subst hv1
    clear hv2 hv3
    have HOB : Hid (∀ j, (Value.slice (some ⟨g, 0, none⟩) m cap).ownBlock = some j → (Value.slice (some ⟨g, 0, none⟩) m cap).ownBlock = some j ∨ w.heap.size ≤ j) := Lib.hid (fun j hj => .inl hj)
    obtain ⟨n1, hn1⟩ : ∃ n1, n1 = m := ⟨_, rfl⟩
    rw [← hn1] at HRO HC HOB
    have HN1 := Lib.hid hn1
    have t8 : decide ((i : Int) < 0) = false := decide_eq_false (by omega)
    clear hi hf b1 p0 p1 p2 p3 zk
    have hat := HRO.out.at_ HI.out
    have q1 := cell_of_blk HRO.out.blk 1
    have zr := HRO.out.lt
    have c7 := hat.cells i (k, x) HI.out 7 _ rfl
    simp [kC] at q1 c7
    have zg := hat.lt
    have f7 := HRO.out.fz (i * 9 + 7)
    have hin : i < n1 := by have h1 := (List.getElem?_eq_some_iff.1 HI.out).1; have h2 := HRO.out.rv.2; omega
    have hin2 : (i : Int) < (n1 : Int) := by omega
    have hlen1 : n1 ≤ 1048576 := by have h2 := HRO.out.rv.2; have := HRO.out.len; omega
    clear hat
    cases hlk : x.lk
    case true =>
      rw [hlk] at c7
      have HLKT := Lib.hid hlk
      clear hlk
      go_wp2_with fail
      go_ret2
      unfold RLk lockL
      rw [HLS.out]
      simp only
      rw [if_pos HLKT.out]
      exact ⟨rfl, RPost.same HR0.out HB1.out⟩

    case false =>
    rw [hlk] at c7
    have HLKF := Lib.hid hlk
    clear hlk
    obtain ⟨x1, hx1⟩ : ∃ y : Cl, y = { x with lk := true } := ⟨_, rfl⟩
    obtain ⟨U1, hU1⟩ : ∃ U, U = w1.setCell ⟨g, i * 9 + 7, none⟩ (.bool true) := ⟨_, rfl⟩
    have hp1 := HRO.out.put1 (y := x1) HI.out 7 (by omega) (.bool true) (by rw [hx1]; rfl)
    rw [← hU1] at hp1
    have HRO1 := Lib.hid hp1.1
    have HC1 := Lib.hid hp1.2
    have HI1 : Hid ((L.set i (k, x1))[i]? = some (k, x1)) := Lib.hid (List.getElem?_set_self (List.getElem?_eq_some_iff.1 HI.out).1)
    have HX1 := Lib.hid hx1
    have HU1 := Lib.hid hU1.symm
    clear hp1 hU1 hx1
    go_upto_region 10 with fail
    rw [HU1.out]
    clear q1 c7 zg zr f7
    have hat := HRO1.out.at_ HI1.out
    have q1 := cell_of_blk HRO1.out.blk 1
    have zr := HRO1.out.lt
    have c8 := hat.cells i (k, x1) HI1.out 8 _ rfl
    simp [kC] at q1 c8
    have zg := hat.lt
    have f8 := HRO1.out.fz (i * 9 + 8)
    obtain ⟨x2, hx2⟩ : ∃ y : Cl, y = { x1 with who := who } := ⟨_, rfl⟩
    obtain ⟨U2, hU2⟩ : ∃ U, U = U1.setCell ⟨g, i * 9 + 8, none⟩ (.int .i64 who) := ⟨_, rfl⟩
    have hp2 := HRO1.out.put1 (y := x2) HI1.out 8 (by omega) (.int .i64 who) (by rw [hx2]; rfl)
    rw [← hU2, List.set_set] at hp2
    have HRO2 := Lib.hid hp2.1
    have HC2 := Lib.hid hp2.2
    have HI2 : Hid ((L.set i (k, x2))[i]? = some (k, x2)) := Lib.hid (List.getElem?_set_self (List.getElem?_eq_some_iff.1 HI.out).1)
    have HX2 : Hid (x2 = lockT x who) := Lib.hid (by rw [hx2, HX1.out]; rfl)
    have HU2 := Lib.hid hU2.symm
    clear hp2 hU2 hx2 hat
    go_upto_region 11 with fail
    rw [HU2.out]
    clear q1 c8 zg zr f8
    have hat := HRO2.out.at_ HI2.out
    have q1 := cell_of_blk HRO2.out.blk 1
    have zr := HRO2.out.lt
    have c4 := hat.cells i (k, x2) HI2.out 4 _ rfl
    simp [kC] at q1 c4
    have zg := hat.lt
    clear hat
    go_wp2_with fail
    go_ret2
    have hC : Chg w U2 (RF rb (.slice (some ⟨g, 0, none⟩) n1 cap)) := (HC.out.trans HC1.out (fun j hj hs => hs.elim .inl (fun q => (HOB.out j q).elim .inr (fun q2 => absurd hj (by omega))))).trans HC2.out (fun j hj hs => hs.elim .inl (fun q => (HOB.out j q).elim .inr (fun q2 => absurd hj (by omega))))
    unfold RLk lockL
    rw [HLS.out]
    simp only
    rw [if_neg (by rw [HLKF.out]; decide)]
    refine ⟨by rw [HX2.out]; rfl, ⟨⟨.slice (some ⟨g, 0, none⟩) n1 cap, ?_, by rw [HN1.out] at HOB; rw [HN1.out]; exact HOB.out⟩, by rw [HN1.out] at hC; exact hC⟩⟩
    have h := HRO2.out
    rw [HX2.out, set_upd HI.out HFS.out] at h
    exact h

end Go.Proofs.YtkhkdedjffkhdaaGreat
namespace Go.Proofs.YtkhkdedjffkhdaaGreat
open Go.RowKit Go.Maps

theorem below_grownC {w w' : World} {B : Nat} {v : Value} {l : List (Ky × Cl)} (h : kC.Own w B v l) (hg : w.grownBy w' v.ownBlock) (hB : B ≤ w.heap.size) : Below B w w' :=
  ⟨hg.os, hg.tape, hg.output, hg.size, fun k hk => hg.block k (by omega) (fun e => by have := (h.lt k e.symm).1; omega)⟩
theorem below_nilC {w w' : World} (hg : w.grownBy w' (Value.slice none 0 0).ownBlock) : Below w.heap.size w w' := ⟨hg.os, hg.tape, hg.output, hg.size, fun j hj => hg.block j hj (fun e => by cases e)⟩
set_option maxRecDepth 100000 in
set_option maxHeartbeats 4000000 in
theorem rdrop_any (rb D room : Nat) (v : Value) (L : List (Ky × Cl)) (i : Nat) (w : World) (h : RO w rb D room v L) (hD : D ≤ w.heap.size) (hi : i < L.length) :
    Calls Tryz.prog 113 #[.pointer (some ⟨rb, 0, none⟩), .int .i64 (i : Int)] w fun e w' => e = .returned (.tuple #[]) ∧ RPost w rb D room v (L.take i ++ L.drop (i + 1)) w' := by
  obtain ⟨g, cap, hv, _, hcap, hat⟩ := h.o.at' (fun e => by rw [e] at hi; simp at hi)
  subst hv
  obtain ⟨n, hn⟩ : ∃ n, n = L.length := ⟨_, rfl⟩
  obtain ⟨i1, hi1⟩ : ∃ j, j = i + 1 := ⟨_, rfl⟩
  have HN : Hid (n = L.length ∧ n ≤ 1048576 ∧ n ≤ cap) := Lib.hid ⟨hn, by have := h.len; omega, by omega⟩
  have HI1 := Lib.hid hi1
  have hil : i < n := by omega
  rw [← hn] at h ⊢
  rw [← hi1]
  have HRO := Lib.hid h
  have HDD := Lib.hid hD
  have HVV : Hid (kC.V w (some ⟨g, 0, none⟩) L) := Lib.hid (fun _ => ⟨g, 0, rfl, hat⟩)
  obtain ⟨a1, ha1⟩ : ∃ a1, kC.pfx ((some ⟨g, 0, none⟩) : Option Addr) cap = a1 := ⟨_, rfl⟩
  obtain ⟨a3, ha3⟩ : ∃ a3, kC.sfx ((some ⟨g, 0, none⟩) : Option Addr) cap i1 = a3 := ⟨_, rfl⟩
  obtain ⟨n3, hn3⟩ : ∃ n3, n - i1 = n3 := ⟨_, rfl⟩
  obtain ⟨c3, hc3⟩ : ∃ c3, cap - i1 = c3 := ⟨_, rfl⟩
  have HV1 : Hid (kC.V w a1 (L.take i)) := Lib.hid (by rw [← ha1]; exact HVV.out.take i cap)
  have HV3 : Hid (kC.V w a3 (L.drop i1)) := Lib.hid (by rw [← ha3]; exact HVV.out.drop hcap)
  have HNN1 : Hid (a1 = none → cap = 0) := Lib.hid (fun e => RowK.pfx_none (k := kC) (a := ((some ⟨g, 0, none⟩) : Option Addr)) (fun ea => by cases ea) (ha1.trans e))
  have HNN3 : Hid (a3 = none → c3 = 0) := Lib.hid (fun e => by rw [← hc3]; exact RowK.sfx_none (k := kC) (a := ((some ⟨g, 0, none⟩) : Option Addr)) (fun ea => by cases ea) (ha3.trans e))
  have HL1 : Hid ((L.take i).length = i) := Lib.hid (by rw [List.length_take]; have := HN.out; omega)
  have HL3 : Hid ((L.drop i1).length = n3) := Lib.hid (by rw [List.length_drop, ← HN.out.1]; exact hn3)
  have HA1 := Lib.hid ha1
  have HA3 := Lib.hid ha3
  have HN3 := Lib.hid hn3
  have HC3 := Lib.hid hc3
  have hjc : i ≤ cap := by have := HN.out; omega
  have hjn : i1 ≤ n := by omega
  have hw1 : IntKind.i64.wrap ((i : Int) + 1) = (i1 : Int) := by rw [IntKind.wrap_i64]; have := HN.out; omega
  have l0 := cell_of_blk h.blk 1
  have zr := h.lt
  simp at l0
  clear h hD hi hn hi1 hcap hat ha1 ha3 hn3 hc3
  go_enter Tryz.func113, Tryz.ntmps113
  go_upto_region 2 with (first | (refine RowK.wpList_pfx (k := kC) (o := ⟨some 11, _, _, _, _, _⟩) rfl (.tmp 9) (.tmp 10) rfl _ n cap i rfl rfl hjc HA1.out ?_) | (at_builtin; refine RowK.wpList_app (k := kC) (B := w.heap.size) (v := .slice none 0 0) (l := []) rfl (.tmp 5) (.tmp 11) rfl rfl (RowK.Own.nil kC _ _) a1 i (L.take i) cap rfl HL1.out HV1.out HNN1.out (by have := HN.out; rw [HL1.out]; simp; omega) (Nat.le_refl _) ?_; rintro v1 u1 g1; have G1 := Lib.hid (show kC.App w w.heap.size (.slice none 0 0) (L.take i) v1 u1 from g1); clear g1))
  have HB1 : Hid (Below w.heap.size w u1) := Lib.hid (below_nilC G1.out.2.1)
  have HR1 := Lib.hid (HRO.out.below HB1.out)
  have HV31 := Lib.hid (HV3.out.below HB1.out)
  clear l0 zr
  have l0 := cell_of_blk HR1.out.blk 1
  have zr := HR1.out.lt
  simp at l0
  go_wp2_with (first | (refine RowK.wpList_sfx (k := kC) (o := ⟨some 21, _, _, _, _, _⟩) rfl (.tmp 18) (.tmp 20) rfl _ n cap i1 rfl rfl hjn HA3.out HN3.out HC3.out ?_) | (at_builtin; refine RowK.wpList_app (k := kC) (B := w.heap.size) (v := v1) (l := L.take i) rfl (.tmp 14) (.tmp 21) rfl rfl G1.out.1 a3 n3 (L.drop i1) c3 rfl HL3.out HV31.out HNN3.out (by have := HN.out; have := HL1.out; have := HL3.out; have := HN3.out; omega) HB1.out.size ?_; rintro v3 u3 g3; obtain ⟨av3, cv3, hv3⟩ := g3.1.shape; obtain ⟨n9, hn9⟩ : ∃ n9, n9 = (L.take i ++ L.drop i1).length := ⟨_, rfl⟩; rw [← hn9] at hv3; subst hv3; have HB3 : Hid (Below w.heap.size w u3) := Lib.hid (HB1.out.trans (below_grownC G1.out.1 g3.2.1 HB1.out.size)); have hb3 := (HB3.out.block rb HRO.out.lt).trans HRO.out.blk; have y0 := cell_of_blk hb3 1; have f0 := frozen_of_blk hb3 1; have z0 := (Array.getElem?_eq_some_iff.1 hb3).1; simp at y0; have HBK := Lib.hid hb3; have HN9 := Lib.hid hn9; have G3 := Lib.hid g3; clear g3 hn9 hb3))
  go_end0
  have hO := G3.out.1
  have hne : some rb ≠ (Value.slice av3 n9 cv3).ownBlock := own_ty' hO HBK.out (by decide)
  have hc : Chg u3 (u3.setCell ⟨rb, 1, none⟩ (.slice av3 n9 cv3)) (fun i => i = rb) := (Chg.refl u3 (fun i => i = rb)).setCell (p := ⟨rb, 1, none⟩) (fun _ => rfl) _
  refine ⟨rfl, ⟨.slice av3 n9 cv3, ⟨by rw [blk_setCell HBK.out]; simp, (hO.chg hc (fun j hj e => hne (by rw [hj, e]))).mono HDD.out, ?_⟩, fun j hj => .inr (hO.lt j hj).1⟩, (Chg.of_below HB3.out _).setCell (p := ⟨rb, 1, none⟩) (fun _ => .inl rfl) _⟩
  have h1 := HL1.out
  have h2 := HL3.out
  have h3 := HN.out
  have h4 := HN3.out
  have h5 := HI1.out
  rw [List.length_append]
  omega
end Go.Proofs.YtkhkdedjffkhdaaGreat
namespace Go.Proofs.YtkhkdedjffkhdaaGreat
open Go.RowKit Go.Maps

def freeL (L : List (Ky × Cl)) (k : Ky) : Int × List (Ky × Cl) :=
  match lookL L k with
  | none => (0, L)
  | some x => if x.ab = false ∨ x.lk = true then (0, L) else (1, delL k L)
end Go.Proofs.YtkhkdedjffkhdaaGreat
