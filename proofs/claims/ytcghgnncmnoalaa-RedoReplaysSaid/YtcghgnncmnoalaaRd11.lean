/- redo.Parse. Conditions: each contract's own premises. -/
import Derived.Test.YtcghgnncmnoalaaRd10
import Derived.Laws.Pointers
namespace Go.Proofs.Ytcghgnncmnoalaa
open Go.RowKit Go.Maps

theorem ta_short (w : World) : (Instr.typeAssert (.iface 138 (.agg #[])) 20 138 false).run Try.prog w = .ok (.agg #[]) w := by kernel_rfl
/-- the world behind the closure where the frame panics -/
def caught (w : World) (b2 b3 b4 : Nat) : World := (((w.setCell ⟨b2, 0, none⟩ (.int .u64 0)).setCell ⟨b2, 1, none⟩ (.slice none 0 0)).setCell ⟨b3, 0, none⟩ (.int .i64 0)).setCell ⟨b4, 0, none⟩ (.int .i64 10)
set_option maxRecDepth 100000 in
theorem catch_panicking (b2 b3 b4 : Nat) (x0 x1 x2 x3 : Value) (w : World) (h0 : w.heap[b2]? = some (.cells #[x0, x1] 35)) (h1 : w.heap[b3]? = some (.cells #[x2] 3)) (h2 : w.heap[b4]? = some (.cells #[x3] 36)) (n1 : b2 ≠ b3) (n2 : b2 ≠ b4) (n3 : b3 ≠ b4) :
    CallsD Try.prog 89 #[.pointer (some ⟨b2, 0, none⟩), .pointer (some ⟨b3, 0, none⟩), .pointer (some ⟨b4, 0, none⟩)] (.panicking shortP) w fun e u' w' =>
      e = .returned (.tuple #[]) ∧ u' = .panicking [{ v := .iface 138 (.agg #[]), recovered := true }] ∧ w' = caught w b2 b3 b4 := by
  have c0 := cell_of_blk h0 0
  have c1 := cell_of_blk h0 1
  have c2 := cell_of_blk h1 0
  have c3 := cell_of_blk h2 0
  have f0 := frozen_of_blk h0 0
  have f1 := frozen_of_blk h0 1
  have f2 := frozen_of_blk h1 0
  have f3 := frozen_of_blk h2 0
  simp at c0 c1 c2 c3
  unfold shortP
  refine callsD_of_wpS Try.func89 rfl fun c₀ cs hu => ?_
  apply wpS_seq
  apply wpS_region
  simp [wpOpsS, go_sem, recoverD, hu, Try.ntmps89, Exit.thenS]
  refine wpS_of_wp ?_
  change Code.wp _ _ _ { tmps := #[.pointer (some ⟨b2, 0, none⟩), .pointer (some ⟨b3, 0, none⟩), .pointer (some ⟨b4, 0, none⟩), .iface 138 (.agg #[]), .iface 138 (.agg #[]), undef, undef, undef, undef, undef], defers := [] } w
  have ta := ta_short
  clear h0 h1 h2
  go_wp2_with fail
  simp [bodyPostS, results, Try.results89, caught]
set_option maxRecDepth 100000 in
theorem catch_idle (b2 b3 b4 : Nat) (w : World) :
    CallsD Try.prog 89 #[.pointer (some ⟨b2, 0, none⟩), .pointer (some ⟨b3, 0, none⟩), .pointer (some ⟨b4, 0, none⟩)] .returning w fun e u' w' => e = .returned (.tuple #[]) ∧ u' = .returning ∧ w' = w := by
  refine callsD_of_wpS Try.func89 rfl fun c₀ cs hu => ?_
  apply wpS_seq
  apply wpS_region
  simp [wpOpsS, go_sem, recoverD, hu, Try.ntmps89, Exit.thenS]
  refine wpS_of_wp ?_
  change Code.wp _ _ _ { tmps := #[.pointer (some ⟨b2, 0, none⟩), .pointer (some ⟨b3, 0, none⟩), .pointer (some ⟨b4, 0, none⟩), .nilIface, .nilIface, undef, undef, undef, undef, undef], defers := [] } w
  go_wp2_with fail
  cases c₀
  simp_all [bodyPostS, results, Try.results89]
/-- what a block says -/
inductive Psd where
  | err (c : Int)
  | rc (r : Rc)
  | mark (n : Nat)
def psR (o : Option (Rc × List UInt8)) : Psd := match o with | none => .err 10 | some (r, l) => if l ≠ [] ∨ r.wrong = true then .err 10 else .rc r
def psM (o : Option (Nat × List UInt8)) : Psd := match o with | none => .err 10 | some (n, l) => if l ≠ [] ∨ 2147483647 < n then .err 10 else .mark n
def psB (k : UInt8) (l : List UInt8) : Psd := if k = 1 then psR (tkR l) else if k = 2 then psM (nuN l 4) else .err 22
/-- how it is handed back -/
def PsdAt (w' : World) (B : Nat) (p : Psd) (e : Ending) : Prop :=
  match p with
  | .err c => e = .returned (.tuple #[.agg #[.int .u64 0, .slice none 0 0], .int .i64 0, .int .i64 c])
  | .rc r => ∃ v, e = .returned (.tuple #[.agg #[.int .u64 (r.stamp : Nat), v], .int .i64 (-1), .int .i64 0]) ∧ kW.Own w' B v r.ws ∧ (∀ x ∈ r.ws, x.Ok) ∧ r.stamp < 18446744073709551616 ∧ r.ws.length < 65536
  | .mark n => e = .returned (.tuple #[.agg #[.int .u64 0, .slice none 0 0], .int .i64 (n : Nat), .int .i64 0])
def ParPost (w : World) (p : Psd) (e : Ending) (w' : World) : Prop := Below w.heap.size w w' ∧ PsdAt w' w.heap.size p e
theorem mkf (fn : Fn) (first cap : Array Value) (w : World) : (Instr.makeFunc fn first cap).run Try.prog w = .ok (.func fn first cap) w := rfl
theorem door_ret {u : World} {b2 b3 b4 : Nat} {tm : Array Value} {r0 r1 r2 r3 : Value} {Q : Ending → World → Prop} (h2 : tm[2]?.getD undef = .pointer (some ⟨b2, 0, none⟩)) (h3 : tm[3]?.getD undef = .pointer (some ⟨b3, 0, none⟩)) (h4 : tm[4]?.getD undef = .pointer (some ⟨b4, 0, none⟩))
    (e2 : u.heap[b2]? = some (.cells #[r0, r1] 35)) (e3 : u.heap[b3]? = some (.cells #[r2] 3)) (e4 : u.heap[b4]? = some (.cells #[r3] 36)) (hQ : Q (.returned (.tuple #[.agg #[r0, r1], r2, r3])) u) :
    bodyPostD Try.prog Try.f22 Q .ret { tmps := tm, defers := [{ target := Target.fn (Fn.func 89) #[.pointer (some ⟨b2, 0, none⟩), .pointer (some ⟨b3, 0, none⟩), .pointer (some ⟨b4, 0, none⟩)], args := #[] }] } u := by
  have c0 := cell_of_blk e2 0
  have c1 := cell_of_blk e2 1
  have c2 := cell_of_blk e3 0
  have c3 := cell_of_blk e4 0
  simp at c0 c1 c2 c3
  refine leaves_cons (f := 89) (args := #[.pointer (some ⟨b2, 0, none⟩), .pointer (some ⟨b3, 0, none⟩), .pointer (some ⟨b4, 0, none⟩)]) (by simp) (by simp [go_sem]) ?_
  refine (catch_idle b2 b3 b4 _).mono ?_
  rintro e u' w'' ⟨rfl, rfl, rfl⟩
  simp [Leaves, settle, results, Try.results22, go_sem, h2, h3, h4, c0, c1, c2, c3]
  exact hQ
theorem door_panic {u : World} {b2 b3 b4 : Nat} {tm : Array Value} {x0 x1 x2 x3 : Value} {Q : Ending → World → Prop} (h2 : tm[2]?.getD undef = .pointer (some ⟨b2, 0, none⟩)) (h3 : tm[3]?.getD undef = .pointer (some ⟨b3, 0, none⟩)) (h4 : tm[4]?.getD undef = .pointer (some ⟨b4, 0, none⟩))
    (e2 : u.heap[b2]? = some (.cells #[x0, x1] 35)) (e3 : u.heap[b3]? = some (.cells #[x2] 3)) (e4 : u.heap[b4]? = some (.cells #[x3] 36)) (n1 : b2 ≠ b3) (n2 : b2 ≠ b4) (n3 : b3 ≠ b4)
    (hQ : Q (.returned (.tuple #[.agg #[.int .u64 0, .slice none 0 0], .int .i64 0, .int .i64 10])) (caught u b2 b3 b4)) :
    bodyPostD Try.prog Try.f22 Q (.panic shortP) { tmps := tm, defers := [{ target := Target.fn (Fn.func 89) #[.pointer (some ⟨b2, 0, none⟩), .pointer (some ⟨b3, 0, none⟩), .pointer (some ⟨b4, 0, none⟩)], args := #[] }] } u := by
  have g2 : (caught u b2 b3 b4).heap[b2]? = some (.cells #[.int .u64 0, .slice none 0 0] 35) := by
    unfold caught
    rw [Below.heap_setCell _ _ _ _ (fun e => n2 (by simpa using e)), Below.heap_setCell _ _ _ _ (fun e => n1 (by simpa using e)), setB (setB e2 _) _]; rfl
  have g3 : (caught u b2 b3 b4).heap[b3]? = some (.cells #[.int .i64 0] 3) := by
    unfold caught
    rw [Below.heap_setCell _ _ _ _ (fun e => n3 (by simpa using e)), setB ((Below.heap_setCell _ _ _ _ (fun e => n1 (by simpa using e.symm))).trans ((Below.heap_setCell _ _ _ _ (fun e => n1 (by simpa using e.symm))).trans e3)) _]; rfl
  have g4 : (caught u b2 b3 b4).heap[b4]? = some (.cells #[.int .i64 10] 36) := by
    unfold caught
    rw [setB ((Below.heap_setCell _ _ _ _ (fun e => n3 (by simpa using e.symm))).trans ((Below.heap_setCell _ _ _ _ (fun e => n2 (by simpa using e.symm))).trans ((Below.heap_setCell _ _ _ _ (fun e => n2 (by simpa using e.symm))).trans e4))) _]; rfl
  have c0 := cell_of_blk g2 0
  have c1 := cell_of_blk g2 1
  have c2 := cell_of_blk g3 0
  have c3 := cell_of_blk g4 0
  simp at c0 c1 c2 c3
  refine leaves_cons (f := 89) (args := #[.pointer (some ⟨b2, 0, none⟩), .pointer (some ⟨b3, 0, none⟩), .pointer (some ⟨b4, 0, none⟩)]) (by simp) (by simp [go_sem]) ?_
  refine (catch_panicking b2 b3 b4 x0 x1 x2 x3 u e2 e3 e4 n1 n2 n3).mono ?_
  rintro e u' w'' ⟨rfl, rfl, rfl⟩
  obtain ⟨t, ht⟩ : ∃ t, t = caught u b2 b3 b4 := ⟨_, rfl⟩
  rw [← ht] at c0 c1 c2 c3 hQ ⊢
  simp [Leaves, settle, results, Try.results22, go_sem, h2, h3, h4, c0, c1, c2, c3]
  exact hQ
/-- the boxes of Parse: the block, the record, the epoch, the error -/
structure PB (w u : World) (b1 b2 b3 b4 : Nat) (x0 x1 r0 r1 r2 r3 : Value) : Prop where
  bel : Below w.heap.size w u
  e1 : u.heap[b1]? = some (.cells #[x0, x1] 43)
  e2 : u.heap[b2]? = some (.cells #[r0, r1] 35)
  e3 : u.heap[b3]? = some (.cells #[r2] 3)
  e4 : u.heap[b4]? = some (.cells #[r3] 36)
  lt : w.heap.size ≤ b1 ∧ b1 < b2 ∧ b2 < b3 ∧ b3 < b4
section
variable {w u u' : World} {b1 b2 b3 b4 : Nat} {x0 x1 r0 r1 r2 r3 : Value}
theorem PB.ne (h : PB w u b1 b2 b3 b4 x0 x1 r0 r1 r2 r3) : b2 ≠ b3 ∧ b2 ≠ b4 ∧ b3 ≠ b4 ∧ b4 < u.heap.size := by
  obtain ⟨l1, l2, l3, l4⟩ := h.lt
  exact ⟨by omega, by omega, by omega, (Array.getElem?_eq_some_iff.1 h.e4).1⟩
theorem PB.chg {rb : Nat} (h : PB w u b1 b2 b3 b4 x0 x1 r0 r1 r2 r3) (hc : Chg u u' (· = rb)) (hr : b4 < rb) : PB w u' b1 b2 b3 b4 x0 x1 r0 r1 r2 r3 := by
  obtain ⟨l1, l2, l3, l4⟩ := h.lt
  have hz := h.ne.2.2.2
  exact ⟨h.bel.trans (hc.below h.bel.size (fun i hi => by omega)), (hc.block _ (by omega) (by omega)).trans h.e1, (hc.block _ (by omega) (by omega)).trans h.e2, (hc.block _ (by omega) (by omega)).trans h.e3, (hc.block _ (by omega) (by omega)).trans h.e4, h.lt⟩
theorem PB.below (h : PB w u b1 b2 b3 b4 x0 x1 r0 r1 r2 r3) (hb : Below u.heap.size u u') : PB w u' b1 b2 b3 b4 x0 x1 r0 r1 r2 r3 := by
  obtain ⟨l1, l2, l3, l4⟩ := h.lt
  have hz := h.ne.2.2.2
  exact ⟨below_then h.bel hb, (hb.block _ (by omega)).trans h.e1, (hb.block _ (by omega)).trans h.e2, (hb.block _ (by omega)).trans h.e3, (hb.block _ (by omega)).trans h.e4, h.lt⟩
theorem set_other {u : World} {b c i : Nat} (v : Value) (h : c ≠ b) : (u.setCell ⟨b, i, none⟩ v).heap[c]? = u.heap[c]? := Below.heap_setCell _ _ _ _ (fun e => h (by simpa using e))
theorem below_set {u : World} {b i B : Nat} (h : Below B w u) (hb : B ≤ b) (v : Value) : Below B w (u.setCell ⟨b, i, none⟩ v) := h.setCell (p := ⟨b, i, none⟩) hb v
theorem PB.set2 (h : PB w u b1 b2 b3 b4 x0 x1 r0 r1 r2 r3) (y0 y1 : Value) : PB w ((u.setCell ⟨b2, 0, none⟩ y0).setCell ⟨b2, 1, none⟩ y1) b1 b2 b3 b4 x0 x1 y0 y1 r2 r3 := by
  obtain ⟨l1, l2, l3, l4⟩ := h.lt
  refine ⟨below_set (below_set h.bel (by omega) _) (by omega) _, ?_, ?_, ?_, ?_, h.lt⟩
  · rw [set_other _ (by omega), set_other _ (by omega)]; exact h.e1
  · rw [setB (setB h.e2 _) _]; rfl
  · rw [set_other _ (by omega), set_other _ (by omega)]; exact h.e3
  · rw [set_other _ (by omega), set_other _ (by omega)]; exact h.e4
theorem PB.set3 (h : PB w u b1 b2 b3 b4 x0 x1 r0 r1 r2 r3) (y : Value) : PB w (u.setCell ⟨b3, 0, none⟩ y) b1 b2 b3 b4 x0 x1 r0 r1 y r3 := by
  obtain ⟨l1, l2, l3, l4⟩ := h.lt
  refine ⟨below_set h.bel (by omega) _, ?_, ?_, ?_, ?_, h.lt⟩
  · rw [set_other _ (by omega)]; exact h.e1
  · rw [set_other _ (by omega)]; exact h.e2
  · rw [setB h.e3]; rfl
  · rw [set_other _ (by omega)]; exact h.e4
theorem PB.set4 (h : PB w u b1 b2 b3 b4 x0 x1 r0 r1 r2 r3) (y : Value) : PB w (u.setCell ⟨b4, 0, none⟩ y) b1 b2 b3 b4 x0 x1 r0 r1 r2 y := by
  obtain ⟨l1, l2, l3, l4⟩ := h.lt
  refine ⟨below_set h.bel (by omega) _, ?_, ?_, ?_, ?_, h.lt⟩
  · rw [set_other _ (by omega)]; exact h.e1
  · rw [set_other _ (by omega)]; exact h.e2
  · rw [set_other _ (by omega)]; exact h.e3
  · rw [setB h.e4]; rfl
theorem PB.cells (h : PB w u b1 b2 b3 b4 x0 x1 r0 r1 r2 r3) : u.cell? ⟨b1, 0, none⟩ = some x0 ∧ u.cell? ⟨b1, 1, none⟩ = some x1 ∧ u.cell? ⟨b2, 0, none⟩ = some r0 ∧ u.cell? ⟨b2, 1, none⟩ = some r1 ∧ u.cell? ⟨b3, 0, none⟩ = some r2 ∧ u.cell? ⟨b4, 0, none⟩ = some r3 ∧
    u.frozen? ⟨b2, 0, none⟩ = false ∧ u.frozen? ⟨b2, 1, none⟩ = false ∧ u.frozen? ⟨b3, 0, none⟩ = false ∧ u.frozen? ⟨b4, 0, none⟩ = false :=
  ⟨by rw [cell_of_blk h.e1]; rfl, by rw [cell_of_blk h.e1]; rfl, by rw [cell_of_blk h.e2]; rfl, by rw [cell_of_blk h.e2]; rfl, by rw [cell_of_blk h.e3]; rfl, by rw [cell_of_blk h.e4]; rfl, frozen_of_blk h.e2 0, frozen_of_blk h.e2 1, frozen_of_blk h.e3 0, frozen_of_blk h.e4 0⟩
/-- the error behind an ill-formed block -/
theorem PB.bad (h : PB w u b1 b2 b3 b4 x0 x1 r0 r1 r2 r3) (c : Int) : PB w ((((u.setCell ⟨b2, 0, none⟩ (.int .u64 0)).setCell ⟨b2, 1, none⟩ (.slice none 0 0)).setCell ⟨b3, 0, none⟩ (.int .i64 0)).setCell ⟨b4, 0, none⟩ (.int .i64 c)) b1 b2 b3 b4 x0 x1 (.int .u64 0) (.slice none 0 0) (.int .i64 0) (.int .i64 c) :=
  ((h.set2 _ _).set3 _).set4 _
end
end Go.Proofs.Ytcghgnncmnoalaa
