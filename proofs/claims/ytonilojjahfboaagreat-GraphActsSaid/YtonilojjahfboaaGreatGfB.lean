/- GraphFinds. Conditions: the law's own premises. -/
import Derived.Test.YtonilojjahfboaaGreatGe5
import Derived.Test.YtonilojjahfboaaGreatGlA
import Derived.Test.YtonilojjahfboaaGreatGfA
namespace Go.Proofs.YtonilojjahfboaaGreat
open Go.RowKit Go.Maps

/-- what is asked, in its box -/
def AskB (u : World) (kb : Nat) (lab key : ByteArray) (low high : Vl) : Prop :=
  u.heap[kb]? = some (.cells #[.string lab, .string key, .int .i64 low.kind, .int .i64 low.n, .string low.s, .int .i64 high.kind, .int .i64 high.n, .string high.s] 129 (0, 0))
def AskC (u : World) (kb : Nat) (lab key : ByteArray) (low high : Vl) : Prop :=
  u.cell? ⟨kb, 0, none⟩ = some (.string lab) ∧ u.cell? ⟨kb, 1, none⟩ = some (.string key) ∧ u.cell? ⟨kb, 2, none⟩ = some (.int .i64 low.kind) ∧ u.cell? ⟨kb, 3, none⟩ = some (.int .i64 low.n) ∧ u.cell? ⟨kb, 4, none⟩ = some (.string low.s) ∧ u.cell? ⟨kb, 5, none⟩ = some (.int .i64 high.kind) ∧ u.cell? ⟨kb, 6, none⟩ = some (.int .i64 high.n) ∧ u.cell? ⟨kb, 7, none⟩ = some (.string high.s) ∧ kb < u.heap.size
theorem AskB.cells {u : World} {kb : Nat} {lab key : ByteArray} {low high : Vl} (h : AskB u kb lab key low high) : AskC u kb lab key low high :=
  ⟨by rw [cell_of_blk h]; rfl, by rw [cell_of_blk h]; rfl, by rw [cell_of_blk h]; rfl, by rw [cell_of_blk h]; rfl, by rw [cell_of_blk h]; rfl, by rw [cell_of_blk h]; rfl, by rw [cell_of_blk h]; rfl, by rw [cell_of_blk h]; rfl, (Array.getElem?_eq_some_iff.1 h).1⟩
theorem AskB.below {u u' : World} {kb : Nat} {lab key : ByteArray} {low high : Vl} (h : AskB u kb lab key low high) (hb : Below u.heap.size u u') : AskB u' kb lab key low high := (hb.block _ (Array.getElem?_eq_some_iff.1 h).1).trans h
set_option maxRecDepth 100000 in
set_option maxHeartbeats 4000000 in
theorem finds_refused (a : Option Addr) (cap n : Nat) (lab key : ByteArray) (low high : Vl) (w : World) (_ : n ≤ maxLen) (h : 50 < n ∨ 300 < low.s.size ∨ 300 < high.s.size) :
    Calls Tryz.prog 11 #[.slice a n cap, .agg #[.string lab, .string key, .int .i64 low.kind, .int .i64 low.n, .string low.s, .int .i64 high.kind, .int .i64 high.n, .string high.s]] w fun e w' => e = .returned (.bool true) ∧ Below w.heap.size w w' := by
  obtain ⟨W, hW⟩ : ∃ W, W = w.alloc (.cells #[.string lab, .string key, .int .i64 low.kind, .int .i64 low.n, .string low.s, .int .i64 high.kind, .int .i64 high.n, .string high.s] 129) := ⟨_, rfl⟩
  have hBW : Below w.heap.size w W := by rw [hW]; exact below_box w _
  have hAB : AskB W w.heap.size lab key low high := by unfold AskB; rw [hW]; exact heap_new w _
  obtain ⟨kb, hkb⟩ : ∃ k, k = w.heap.size := ⟨_, rfl⟩
  rw [← hkb] at hAB
  have HW := Lib.hid hW
  have HBW := Lib.hid hBW
  have HAB := Lib.hid hAB
  have HKB := Lib.hid hkb
  obtain ⟨lk, ln, ls⟩ := low
  obtain ⟨hk, hn', hs⟩ := high
  obtain ⟨q1, hq1⟩ : ∃ q, decide (50 < n) = q := ⟨_, rfl⟩
  have hq1' : decide ((50 : Int) < (n : Int)) = q1 := by rw [← hq1]; exact decide_eq_decide.2 (by omega)
  obtain ⟨q2, hq2⟩ : ∃ q, decide (300 < ls.size) = q := ⟨_, rfl⟩
  have hq2' : decide ((300 : Int) < (ls.size : Int)) = q2 := by rw [← hq2]; exact decide_eq_decide.2 (by omega)
  obtain ⟨q3, hq3⟩ : ∃ q, decide (300 < hs.size) = q := ⟨_, rfl⟩
  have hq3' : decide ((300 : Int) < (hs.size : Int)) = q3 := by rw [← hq3]; exact decide_eq_decide.2 (by omega)
  have hor : q1 = true ∨ q2 = true ∨ q3 = true := by
    rcases h with h | h | h
    · left; rw [← hq1]; exact decide_eq_true h
    · right; left; rw [← hq2]; exact decide_eq_true h
    · right; right; rw [← hq3]; exact decide_eq_true h
  clear hW hBW hAB hkb h
  have hall : q1 = true ∨ (q1 = false ∧ q2 = true) ∨ (q1 = false ∧ q2 = false ∧ q3 = true) := by cases q1 <;> cases q2 <;> cases q3 <;> simp_all
  clear hor
  rcases hall with rfl | ⟨rfl, rfl⟩ | ⟨rfl, rfl, rfl⟩
  all_goals
    go_enter Tryz.func11, Tryz.ntmps11
    go_upto_region 1 with fail
    rw [← HW.out, ← HKB.out]
    go_upto_region 2 with (go_at_call 14; refine (awake16_any _).mono ?_; rintro e w1 ⟨rfl, hb1⟩; have HB1 := Lib.hid (below_then HBW.out hb1); have HA1 := Lib.hid (HAB.out.below hb1); obtain ⟨x0, x1, x2, x3, x4, x5, x6, x7, xl⟩ := HA1.out.cells; clear hb1)
    go_wp2_with (go_at_call 14; refine (awake16_any _).mono ?_; rintro e w2 ⟨rfl, hb2⟩; have HB2 := Lib.hid (below_then HB1.out hb2); clear hb2)
    go_ret
    exact ⟨rfl, HB2.out⟩
end Go.Proofs.YtonilojjahfboaaGreat
