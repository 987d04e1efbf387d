/- The reference's value Right. Conditions: each contract's own premises. -/
import Derived.Test.YtonilojjahfboaaGreatGc1
namespace Go.Proofs.YtonilojjahfboaaGreat
open Go.RowKit Go.Maps

set_option maxHeartbeats 1000000 in
theorem r2right_any (v : Vl) (w : World) (h : v.Ok) : Calls Tryz.prog 127 #[.agg #[.int .i64 v.kind, .int .i64 v.n, .string v.s]] w fun e w' => e = .returned (.bool v.right) ∧ Below w.heap.size w w' := by
  have hs := h.s
  unfold maxLen at hs
  have fin := Lib.hid (fun X => below_box w X)
  unfold Vl.right Vl.isN Vl.isT
  by_cases k1 : v.kind = 1
  · have n1 : (v.kind == 1) = true := by simpa using k1
    have n2 : (v.kind == 2) = false := by simp; omega
    rw [decide_eq_true k1, decide_eq_false (show ¬ v.kind = 2 by omega)]
    clear k1
    cases he : v.s.toList.isEmpty
    · have he2 : (v.s.toList == []) = false := by simpa using he
      go_enter Tryz.func127, Tryz.ntmps127
      go_wp2
      go_ret
      exact ⟨rfl, fin.out _⟩
    · have he2 : (v.s.toList == []) = true := by simpa using he
      go_enter Tryz.func127, Tryz.ntmps127
      go_wp2
      go_ret
      exact ⟨rfl, fin.out _⟩
  · have n1 : (v.kind == 1) = false := by simpa using k1
    rw [decide_eq_false k1]
    clear k1
    by_cases k2 : v.kind = 2
    · have n2 : (v.kind == 2) = true := by simpa using k2
      rw [decide_eq_true k2]
      clear k2
      by_cases k3 : v.n = 0
      · have n3 : (v.n == 0) = true := by simpa using k3
        rw [decide_eq_true k3]
        clear k3
        go_enter Tryz.func127, Tryz.ntmps127
        go_wp2
        go_ret
        exact ⟨ret_bool (by rw [Bool.eq_iff_iff]; simp; omega), fin.out _⟩
      · have n3 : (v.n == 0) = false := by simpa using k3
        rw [decide_eq_false k3]
        clear k3
        go_enter Tryz.func127, Tryz.ntmps127
        go_wp2
        go_ret
        exact ⟨rfl, fin.out _⟩
    · have n2 : (v.kind == 2) = false := by simpa using k2
      rw [decide_eq_false k2]
      clear k2
      go_enter Tryz.func127, Tryz.ntmps127
      go_wp2
      go_ret
      exact ⟨rfl, fin.out _⟩

end Go.Proofs.YtonilojjahfboaaGreat
