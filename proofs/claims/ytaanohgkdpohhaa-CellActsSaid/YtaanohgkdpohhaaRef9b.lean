/- The reference's store of layer 9: Read, Still, Holds; Lock and Install that are refused. Conditions: each contract's own premises. -/
import Derived.Test.YtaanohgkdpohhaaRef9
namespace Go.Proofs.Ytaanohgkdpohhaa
open Go.RowKit Go.Maps

set_option maxRecDepth 100000 in
set_option maxHeartbeats 400000 in
theorem r9read_any (rb cap room : Nat) (a : Option Addr) (L : List (Ky × Cl)) (k : Ky) (w : World) (h : RV w rb a cap room L) :
    Calls Try.prog 91 #[.pointer (some ⟨rb, 0, none⟩), .agg #[.int .i64 k.kind, .int .i64 k.a, .int .i64 k.b, .string k.s]] w fun e w' => e = .returned (readV (lookL L k)) ∧ Below w.heap.size w w' := by
  have hW := fun X Y => (h.alloc X).alloc Y
  have hB := fun X Y => below_box2 w X Y 0
  have HB := Lib.hid hB
  clear hB
  have hres : ∀ (X Y : Obj) w1, Below ((w.alloc X).alloc Y).heap.size ((w.alloc X).alloc Y) w1 → w1.heap[w.heap.size + 1]? = some Y ∧ w.heap.size + 1 < w1.heap.size := fun X Y w1 hb => by
    have e := heap_new (w.alloc X) Y
    rw [size_alloc] at e
    have e2 := (hb.block (w.heap.size + 1) (by simp)).trans e
    exact ⟨e2, (Array.getElem?_eq_some_iff.1 e2).1⟩
  have HR := Lib.hid hres
  clear hres
  cases hx : lookL L k with
  | none =>
    have HX := Lib.hid hx
    clear hx
    go_enter Try.func91, Try.ntmps91
    go_wp2_with fail
    refine (r9find_none rb cap room a L k _ (hW _ _) HX.out).mono ?_
    rintro e w1 ⟨rfl, hb⟩
    obtain ⟨r0, r1⟩ := HR.out _ _ w1 hb
    have d0 := cell_of_blk r0 0
    have d1 := cell_of_blk r0 1
    have d2 := cell_of_blk r0 2
    have g0 := frozen_of_blk r0 0
    have g1 := frozen_of_blk r0 1
    have g2 := frozen_of_blk r0 2
    simp at d0 d1 d2
    have hBB := (HB.out _ _).trans (hb.mono (by simp; omega))
    clear hb r0
    go_wp2_with fail
    refine bodyPost_ret (v := .tuple #[.agg #[.int .u64 0, .string ⟨#[]⟩, .bool false], .int .i64 0]) (by simp [results, Try.results91, go_sem, d0, d1, d2]) rfl ⟨rfl, ?_⟩
    exact ((hBB.setCell (Nat.le_succ _) _).setCell (Nat.le_succ _) _).setCell (Nat.le_succ _) _
  | some x =>
    have HX := Lib.hid hx
    clear hx
    go_enter Try.func91, Try.ntmps91
    go_wp2_with fail
    refine (r9find_some rb cap room a L k x _ (hW _ _) HX.out).mono ?_
    rintro e w1 ⟨i, rfl, hi, hb⟩
    have h1 := (hW _ _).below hb
    have hlt := (List.getElem?_eq_some_iff.1 hi).1
    obtain ⟨lb, rfl, hat⟩ := h1.row (fun e => by rw [e] at hlt; simp at hlt)
    obtain ⟨q0, q1, q2, q3, q4, q5, q6, q7, q8⟩ := hat.cells i k x hi
    have hlb := hat.lt
    have c1 := h1.cell1
    have hll := h1.len
    have hrl := h1.lt
    obtain ⟨r0, r1⟩ := HR.out _ _ w1 hb
    have d0 := cell_of_blk r0 0
    have d1 := cell_of_blk r0 1
    have d2 := cell_of_blk r0 2
    have g0 := frozen_of_blk r0 0
    have g1 := frozen_of_blk r0 1
    have g2 := frozen_of_blk r0 2
    simp at d0 d1 d2
    have hBB := (HB.out _ _).trans (hb.mono (by simp; omega))
    clear hb r0 hat h1 hi hW h
    obtain ⟨st, lk, ab, text, who⟩ := x
    dsimp only at *
    cases lk
    · go_wp2_with fail
      refine bodyPost_ret (v := .tuple #[.agg #[.int .u64 st, .string text, .bool (!ab)], .int .i64 0]) (by simp [results, Try.results91, go_sem, d0, d1, d2, r1]) rfl ⟨rfl, ?_⟩
      exact (((hBB.setCell (Nat.le_succ _) _).setCell (Nat.le_succ _) _).setCell (Nat.le_succ _) _).alloc (by simp only [size_setCell]; exact hBB.size) _
    · go_wp2_with fail
      refine bodyPost_ret (v := .tuple #[.agg #[.int .u64 0, .string ⟨#[]⟩, .bool false], .int .i64 60]) (by simp [results, Try.results91, go_sem, d0, d1, d2, r1]) rfl ⟨rfl, ?_⟩
      exact (((hBB.setCell (Nat.le_succ _) _).setCell (Nat.le_succ _) _).setCell (Nat.le_succ _) _).alloc (by simp only [size_setCell]; exact hBB.size) _

set_option maxRecDepth 100000 in
set_option maxHeartbeats 400000 in
theorem r9holds_any (rb cap room : Nat) (a : Option Addr) (L : List (Ky × Cl)) (k : Ky) (who : Int) (w : World) (h : RV w rb a cap room L) :
    Calls Try.prog 148 #[.pointer (some ⟨rb, 0, none⟩), .agg #[.int .i64 k.kind, .int .i64 k.a, .int .i64 k.b, .string k.s], .int .i64 who] w fun e w' => e = .returned (.bool (holdsV (lookL L k) who)) ∧ Below w.heap.size w w' := by
  have hW := fun X => h.alloc X
  have HB := Lib.hid (fun X => (Below.refl w.heap.size w).alloc (Nat.le_refl _) X)
  cases hx : lookL L k with
  | none =>
    have HX := Lib.hid hx
    clear hx
    go_enter Try.func148, Try.ntmps148
    go_wp2_with fail
    refine (r9find_none rb cap room a L k _ (hW _) HX.out).mono ?_
    rintro e w1 ⟨rfl, hb⟩
    have hBB := (HB.out _).trans (hb.mono (by simp))
    go_wp2_with fail
    go_ret
    exact ⟨rfl, hBB⟩
  | some x =>
    have HX := Lib.hid hx
    clear hx
    go_enter Try.func148, Try.ntmps148
    go_wp2_with fail
    refine (r9find_some rb cap room a L k x _ (hW _) HX.out).mono ?_
    rintro e w1 ⟨i, rfl, hi, hb⟩
    have h1 := (hW _).below hb
    have hlt := (List.getElem?_eq_some_iff.1 hi).1
    obtain ⟨lb, rfl, hat⟩ := h1.row (fun e => by rw [e] at hlt; simp at hlt)
    obtain ⟨q0, q1, q2, q3, q4, q5, q6, q7, q8⟩ := hat.cells i k x hi
    have hlb := hat.lt
    have c1 := h1.cell1
    have hll := h1.len
    have hrl := h1.lt
    have hBB := (HB.out _).trans (hb.mono (by simp))
    clear hb hat h1 hi hW h
    obtain ⟨st, lk, ab, text, whx⟩ := x
    dsimp only at *
    cases lk
    · go_wp2_with fail
      go_ret
      exact ⟨rfl, hBB⟩
    · go_wp2_with fail
      go_ret
      exact ⟨rfl, hBB⟩

set_option maxRecDepth 100000 in
set_option maxHeartbeats 1000000 in
theorem r9still_any (rb cap room : Nat) (a : Option Addr) (L : List (Ky × Cl)) (k : Ky) (who vw : Int) (vs : ByteArray) (vh : Bool) (w : World) (h : RV w rb a cap room L) :
    Calls Try.prog 95 #[.pointer (some ⟨rb, 0, none⟩), .agg #[.int .i64 k.kind, .int .i64 k.a, .int .i64 k.b, .string k.s], .int .i64 who, .agg #[.int .u64 vw, .string vs, .bool vh]] w fun e w' => e = .returned (.bool (stillV (lookL L k) who vw vh)) ∧ Below w.heap.size w w' := by
  have hW := fun X Y => (h.alloc X).alloc Y
  have hB := fun X Y => below_box2 w X Y 0
  have HB := Lib.hid hB
  clear hB
  have hres : ∀ (X Y : Obj) w1, Below ((w.alloc X).alloc Y).heap.size ((w.alloc X).alloc Y) w1 → w1.heap[w.heap.size + 1]? = some Y ∧ w.heap.size + 1 < w1.heap.size := fun X Y w1 hb => by
    have e := heap_new (w.alloc X) Y
    rw [size_alloc] at e
    have e2 := (hb.block (w.heap.size + 1) (by simp)).trans e
    exact ⟨e2, (Array.getElem?_eq_some_iff.1 e2).1⟩
  have HR := Lib.hid hres
  clear hres
  cases hx : lookL L k with
  | none =>
    have HX := Lib.hid hx
    clear hx
    go_enter Try.func95, Try.ntmps95
    go_wp2_with fail
    refine (r9find_none rb cap room a L k _ (hW _ _) HX.out).mono ?_
    rintro e w1 ⟨rfl, hb⟩
    obtain ⟨r0, r1⟩ := HR.out _ _ w1 hb
    have d2 := cell_of_blk r0 2
    simp at d2
    have hBB := (HB.out _ _).trans (hb.mono (by simp; omega))
    clear hb r0
    go_wp2_with fail
    go_ret
    exact ⟨rfl, hBB⟩
  | some x =>
    have HX := Lib.hid hx
    clear hx
    go_enter Try.func95, Try.ntmps95
    go_wp2_with fail
    refine (r9find_some rb cap room a L k x _ (hW _ _) HX.out).mono ?_
    rintro e w1 ⟨i, rfl, hi, hb⟩
    have h1 := (hW _ _).below hb
    have hlt := (List.getElem?_eq_some_iff.1 hi).1
    obtain ⟨lb, rfl, hat⟩ := h1.row (fun e => by rw [e] at hlt; simp at hlt)
    obtain ⟨q0, q1, q2, q3, q4, q5, q6, q7, q8⟩ := hat.cells i k x hi
    have hlb := hat.lt
    have c1 := h1.cell1
    have hll := h1.len
    have hrl := h1.lt
    obtain ⟨r0, r1⟩ := HR.out _ _ w1 hb
    have d0 := cell_of_blk r0 0
    have d1 := cell_of_blk r0 1
    have d2 := cell_of_blk r0 2
    simp at d0 d1 d2
    have hBB := (HB.out _ _).trans (hb.mono (by simp; omega))
    clear hb r0 hat h1 hi hW h
    obtain ⟨st, lk, ab, text, whx⟩ := x
    dsimp only at *
    have fin : ∀ (v : Value) (X : Obj), Value.bool (stillV (some ⟨st, lk, ab, text, whx⟩) who vw vh) = v → Ending.returned v = .returned (.bool (stillV (some ⟨st, lk, ab, text, whx⟩) who vw vh)) ∧ Below w.heap.size w (w1.alloc X) := fun v X e => ⟨by rw [e], hBB.alloc hBB.size _⟩
    have FIN := Lib.hid fin
    clear fin
    by_cases hc : lk = true ∧ whx ≠ who
    · obtain ⟨rfl, hc2⟩ := hc
      have hne : (whx != who) = true := by simpa using hc2
      have HV : Hid (Value.bool (stillV (some ⟨st, true, ab, text, whx⟩) who vw vh) = .bool false) := Lib.hid (by simp [stillV, hc2])
      clear hc2
      go_wp2_with fail
      go_ret
      exact FIN.out _ _ HV.out
    · have hcase : lk = false ∨ (lk = true ∧ whx = who) := by cases lk <;> simp_all
      have HV : Hid (stillV (some ⟨st, lk, ab, text, whx⟩) who vw vh = ((ab == !vh) && ((st : Int) == vw || (!vh && ((st : Int) == 0))))) := Lib.hid (by unfold stillV; simp only [if_neg hc])
      clear hc
      rcases hcase with rfl | ⟨rfl, rfl⟩ <;> cases ab <;> cases vh <;> cases hst : ((st : Int) == vw)
      all_goals
        have HST := Lib.hid hst
        go_wp2_with fail
        go_ret
        exact FIN.out _ _ (by rw [HV.out]; simp [HST.out])
end Go.Proofs.Ytaanohgkdpohhaa
