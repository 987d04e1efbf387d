/- walk.New; path.Bound and the reference's. Conditions: each contract's own premises. -/
import Derived.Test.YtaanohgkdpohhaaWk1
namespace Go.Proofs.Ytaanohgkdpohhaa
open Go.RowKit Go.Maps

def WnPost (w : World) (gb : Nat) (n : Int) (e : Ending) (w' : World) : Prop :=
  if n < 0 ∨ 1073741824 < n then e = .returned (.tuple #[.pointer none, .int .i64 2]) ∧ w = w'
  else e = .returned (.tuple #[.pointer (some ⟨w.heap.size, 0, none⟩), .int .i64 0]) ∧ WkS w w' w.heap.size gb (some n.toNat)
set_option maxRecDepth 100000 in
set_option maxHeartbeats 1000000 in
theorem wnew_any (gb : Nat) (n : Int) (w : World) : Calls Try.prog 48 #[.iface 80 (.pointer (some ⟨gb, 0, none⟩)), .int .i64 n] w (WnPost w gb n) := by
  by_cases h1 : n < 0
  · have HP : Hid (WnPost w gb n (.returned (.tuple #[.pointer none, .int .i64 2])) w) := Lib.hid (by unfold WnPost; rw [if_pos (.inl h1)]; exact ⟨rfl, rfl⟩)
    go_enter Try.func48, Try.ntmps48
    go_wp2
    go_ret2
    exact HP.out
  · by_cases h2 : 1073741824 < n
    · have HP : Hid (WnPost w gb n (.returned (.tuple #[.pointer none, .int .i64 2])) w) := Lib.hid (by unfold WnPost; rw [if_pos (.inr h2)]; exact ⟨rfl, rfl⟩)
      go_enter Try.func48, Try.ntmps48
      go_wp2
      go_ret2
      exact HP.out
    · have HP : ∀ w', WkS w w' w.heap.size gb (some n.toNat) → WnPost w gb n (.returned (.tuple #[.pointer (some ⟨w.heap.size, 0, none⟩), .int .i64 0])) w' := fun w' hw => by unfold WnPost; rw [if_neg (by omega)]; exact ⟨rfl, hw⟩
      have HN : Hid (0 ≤ n ∧ n ≤ 1073741824) := Lib.hid ⟨by omega, by omega⟩
      have HQ := Lib.hid HP
      clear HP
      go_enter Try.func48, Try.ntmps48
      go_wp2
      go_ret2
      refine HQ.out _ ⟨?_, Nat.le_refl _, ?_, ?_⟩
      · exact below_box w _
      · rw [heap_new w _]
        have : ((n.toNat : Nat) : Int) = n := by have := HN.out; omega
        simp [this]
      · have := HN.out
        simp
        omega
def boundI (v e : Int) : Int := if v < 0 ∨ e < 0 ∨ 1073741824 ≤ v ∨ 1073741824 ≤ e then 1073741824 else min (4 + 4 * v + 2 * e) 1073741824
set_option maxRecDepth 100000 in
set_option maxHeartbeats 1000000 in
theorem pbound_any (v e : Int) (w : World) : Calls Try.prog 59 #[.int .i64 v, .int .i64 e] w fun r w' => r = .returned (.int .i64 (boundI v e)) ∧ w = w' := by
  have HB : Hid (boundI v e = if v < 0 ∨ e < 0 ∨ 1073741824 ≤ v ∨ 1073741824 ≤ e then 1073741824 else min (4 + 4 * v + 2 * e) 1073741824) := Lib.hid rfl
  by_cases h : v < 0
  · have HV : Hid (boundI v e = 1073741824) := Lib.hid (by rw [HB.out, if_pos (.inl h)])
    have t1 : decide (v < 0) = true := decide_eq_true h
    clear h
    go_enter Try.func59, Try.ntmps59
    go_wp2
    go_ret
    exact ⟨by rw [HV.out]; rfl, rfl⟩
  have t1 : decide (v < 0) = false := decide_eq_false h
  have H1 := Lib.hid h
  clear h
  by_cases h : e < 0
  · have HV : Hid (boundI v e = 1073741824) := Lib.hid (by rw [HB.out, if_pos (.inr (.inl h))])
    have t2 : decide (e < 0) = true := decide_eq_true h
    clear h
    go_enter Try.func59, Try.ntmps59
    go_wp2
    go_ret
    exact ⟨by rw [HV.out]; rfl, rfl⟩
  have t2 : decide (e < 0) = false := decide_eq_false h
  have H2 := Lib.hid h
  clear h
  by_cases h : 1073741824 ≤ v
  · have HV : Hid (boundI v e = 1073741824) := Lib.hid (by rw [HB.out, if_pos (.inr (.inr (.inl h)))])
    have t3 : decide (1073741824 ≤ v) = true := decide_eq_true h
    clear h
    go_enter Try.func59, Try.ntmps59
    go_wp2
    go_ret
    exact ⟨by rw [HV.out]; rfl, rfl⟩
  have t3 : decide (1073741824 ≤ v) = false := decide_eq_false h
  have H3 := Lib.hid h
  clear h
  by_cases h : 1073741824 ≤ e
  · have HV : Hid (boundI v e = 1073741824) := Lib.hid (by rw [HB.out, if_pos (.inr (.inr (.inr h)))])
    have t4 : decide (1073741824 ≤ e) = true := decide_eq_true h
    clear h
    go_enter Try.func59, Try.ntmps59
    go_wp2
    go_ret
    exact ⟨by rw [HV.out]; rfl, rfl⟩
  have t4 : decide (1073741824 ≤ e) = false := decide_eq_false h
  have H4 := Lib.hid h
  clear h
  have HV : Hid (boundI v e = min (4 + 4 * v + 2 * e) 1073741824) := Lib.hid (by
    have h1 := H1.out
    have h2 := H2.out
    have h3 := H3.out
    have h4 := H4.out
    rw [HB.out, if_neg (by omega)])
  have h1 := H1.out
  have h2 := H2.out
  have h3 := H3.out
  have h4 := H4.out
  have w1 : IntKind.i64.wrap (4 * v) = 4 * v := IntWalk.i64_in _ (by omega)
  have w2 : IntKind.i64.wrap (4 + 4 * v) = 4 + 4 * v := IntWalk.i64_in _ (by omega)
  have w3 : IntKind.i64.wrap (2 * e) = 2 * e := IntWalk.i64_in _ (by omega)
  have w4 : IntKind.i64.wrap (4 + 4 * v + 2 * e) = 4 + 4 * v + 2 * e := IntWalk.i64_in _ (by omega)
  clear h1 h2 h3 h4
  go_enter Try.func59, Try.ntmps59
  go_wp2
  go_ret
  exact ⟨by rw [HV.out]; rfl, rfl⟩
set_option maxRecDepth 100000 in
set_option maxHeartbeats 1000000 in
theorem r19bound_any (v e : Int) (w : World) : Calls Try.prog 56 #[.int .i64 v, .int .i64 e] w fun r w' => r = .returned (.int .i64 (boundI v e)) ∧ w = w' := by
  have HB : Hid (boundI v e = if v < 0 ∨ e < 0 ∨ 1073741824 ≤ v ∨ 1073741824 ≤ e then 1073741824 else min (4 + 4 * v + 2 * e) 1073741824) := Lib.hid rfl
  by_cases h : v < 0
  · have HV : Hid (boundI v e = 1073741824) := Lib.hid (by rw [HB.out, if_pos (.inl h)])
    have t1 : decide (v < 0) = true := decide_eq_true h
    clear h
    go_enter Try.func56, Try.ntmps56
    go_wp2
    go_ret
    exact ⟨by rw [HV.out]; rfl, rfl⟩
  have t1 : decide (v < 0) = false := decide_eq_false h
  have H1 := Lib.hid h
  clear h
  by_cases h : e < 0
  · have HV : Hid (boundI v e = 1073741824) := Lib.hid (by rw [HB.out, if_pos (.inr (.inl h))])
    have t2 : decide (e < 0) = true := decide_eq_true h
    clear h
    go_enter Try.func56, Try.ntmps56
    go_wp2
    go_ret
    exact ⟨by rw [HV.out]; rfl, rfl⟩
  have t2 : decide (e < 0) = false := decide_eq_false h
  have H2 := Lib.hid h
  clear h
  by_cases h : 1073741824 ≤ v
  · have HV : Hid (boundI v e = 1073741824) := Lib.hid (by rw [HB.out, if_pos (.inr (.inr (.inl h)))])
    have t3 : decide (1073741824 ≤ v) = true := decide_eq_true h
    clear h
    go_enter Try.func56, Try.ntmps56
    go_wp2
    go_ret
    exact ⟨by rw [HV.out]; rfl, rfl⟩
  have t3 : decide (1073741824 ≤ v) = false := decide_eq_false h
  have H3 := Lib.hid h
  clear h
  by_cases h : 1073741824 ≤ e
  · have HV : Hid (boundI v e = 1073741824) := Lib.hid (by rw [HB.out, if_pos (.inr (.inr (.inr h)))])
    have t4 : decide (1073741824 ≤ e) = true := decide_eq_true h
    clear h
    go_enter Try.func56, Try.ntmps56
    go_wp2
    go_ret
    exact ⟨by rw [HV.out]; rfl, rfl⟩
  have t4 : decide (1073741824 ≤ e) = false := decide_eq_false h
  have H4 := Lib.hid h
  clear h
  have HV : Hid (boundI v e = min (4 + 4 * v + 2 * e) 1073741824) := Lib.hid (by
    have h1 := H1.out
    have h2 := H2.out
    have h3 := H3.out
    have h4 := H4.out
    rw [HB.out, if_neg (by omega)])
  have h1 := H1.out
  have h2 := H2.out
  have h3 := H3.out
  have h4 := H4.out
  by_cases h5 : 1073741824 ≤ 4 + v + v + v + v + e + e
  · have HM : Hid (boundI v e = 1073741824) := Lib.hid (by rw [HV.out]; omega)
    go_enter Try.func56, Try.ntmps56
    go_wp2
    go_ret
    exact ⟨by rw [HM.out]; rfl, rfl⟩
  · have HM : Hid (boundI v e = 4 + v + v + v + v + e + e) := Lib.hid (by rw [HV.out]; omega)
    go_enter Try.func56, Try.ntmps56
    go_wp2
    go_ret
    exact ⟨by rw [HM.out]; rfl, rfl⟩
end Go.Proofs.Ytaanohgkdpohhaa
