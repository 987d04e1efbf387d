/- Package word and the slots of package cell: what each function does. Conditions: each contract's own premises. -/
import Derived.Test.YtkhkdedjffkhdaaGreatArA
import Derived.Test.YtkhkdedjffkhdaaGreatWordPlain
import Derived.StillTailTactics
import Derived.Deep.RegionHeld3
import Derived.Deep.RegionLaw
import Derived.BigRegion
import Derived.DeepKeys4
import Derived.MapViews
namespace Go.Proofs.YtkhkdedjffkhdaaGreat
open Go.RowKit Go.Maps

/-- a stamp -/
def Sm (n : Nat) : Prop := n < 4611686018427387904

theorem Sm.zero : Sm 0 := by unfold Sm; decide

theorem stamp_num (n : Nat) (w : World) (h : n < 18446744073709551616) : Calls Tryz.prog 80 #[.int .u64 n] w fun e w' => e = .returned (.int .u64 ((n % 4611686018427387904 : Nat) : Int)) ∧ w = w' := by
  have hb := Lib.hid (bits_stamp n h)
  clear h
  go_enter Tryz.func80, Tryz.ntmps80
  go_wp2
  go_ret
  exact ⟨by rw [hb.out]; rfl, rfl⟩
theorem stamp_wd (st : Nat) (lk ab : Bool) (w : World) (h : Sm st) : Calls Tryz.prog 80 #[.int .u64 (wd st lk ab)] w fun e w' => e = .returned (.int .u64 st) ∧ w = w' := by
  refine (stamp_num _ w (wd_lt h)).mono ?_
  rintro e w' ⟨rfl, rfl⟩
  exact ⟨by rw [show wd st lk ab % 4611686018427387904 = st by have := h; unfold Sm at this; unfold wd; omega], rfl⟩
theorem lock_wd (st : Nat) (lk ab : Bool) (w : World) (h : Sm st) : Calls Tryz.prog 90 #[.int .u64 (wd st lk ab)] w fun e w' => e = .returned (.tuple #[.int .u64 (wd st true ab), .bool (!lk)]) ∧ w = w' := by
  have hb := Lib.hid (wd_lock (lk := lk) (ab := ab) h)
  have hc := Lib.hid (wd_locked (lk := lk) (ab := ab) h)
  clear h
  go_enter Tryz.func90, Tryz.ntmps90
  go_wp2
  go_ret2
  exact ⟨by rw [hb.out, hc.out]; cases lk <;> rfl, rfl⟩
theorem unlock_wd (st : Nat) (lk ab : Bool) (w : World) (h : Sm st) : Calls Tryz.prog 115 #[.int .u64 (wd st lk ab)] w fun e w' => e = .returned (.int .u64 (wd st false ab)) ∧ w = w' := by
  have hb := Lib.hid (wd_unlock (lk := lk) (ab := ab) h)
  clear h
  go_enter Tryz.func115, Tryz.ntmps115
  go_wp2
  go_ret
  exact ⟨by rw [hb.out]; rfl, rfl⟩
theorem absent_wd (st : Nat) (lk ab is : Bool) (w : World) (h : Sm st) : Calls Tryz.prog 104 #[.int .u64 (wd st lk ab), .bool is] w fun e w' => e = .returned (.int .u64 (wd st lk is)) ∧ w = w' := by
  have hb := Lib.hid (wd_absent (lk := lk) (ab := ab) h)
  have hc := Lib.hid (wd_present (lk := lk) (ab := ab) h)
  clear h
  cases is
  · go_enter Tryz.func104, Tryz.ntmps104
    go_wp2
    go_ret
    exact ⟨by rw [hc.out]; rfl, rfl⟩
  · go_enter Tryz.func104, Tryz.ntmps104
    go_wp2
    go_ret
    exact ⟨by rw [hb.out]; rfl, rfl⟩

theorem locked_any (ad st : Nat) (lk ab : Bool) (w : World) (h : Sm st) (c2 : w.cell? ⟨ad, 2, none⟩ = some (.int .u64 (wd st lk ab))) :
    Calls Tryz.prog 53 #[.pointer (some ⟨ad, 0, none⟩)] w fun e w' => e = .returned (.bool lk) ∧ w = w' := by
  go_enter Tryz.func53, Tryz.ntmps53
  go_wp2_with (go_at_call 90; refine (lock_wd _ _ _ _ h).mono ?_; rintro e w' ⟨rfl, rfl⟩)
  go_ret
  exact ⟨by simp, rfl⟩
theorem wd_abs_eq {st : Nat} {lk ab : Bool} (h : Sm st) : ((wd st lk true : Int) == (wd st lk ab : Int)) = ab := by
  cases ab
  · have : wd st lk true ≠ wd st lk false := fun e => by have := (wd_inj h h e).2.2; cases this
    have h2 : ¬ ((wd st lk true : Nat) : Int) = ((wd st lk false : Nat) : Int) := fun e => this (Int.ofNat_inj.1 e)
    simpa using h2
  · simp
theorem absent_any (ad st : Nat) (lk ab : Bool) (w : World) (h : Sm st) (c2 : w.cell? ⟨ad, 2, none⟩ = some (.int .u64 (wd st lk ab))) :
    Quiet Tryz.prog 76 #[.pointer (some ⟨ad, 0, none⟩)] w (.bool ab) := by
  unfold Quiet
  have he := Lib.hid (wd_abs_eq (lk := lk) (ab := ab) h)
  go_enter Tryz.func76, Tryz.ntmps76
  go_wp2
  go_quiet ((go_at_call 104; exact quiet_at (quiet_same (absent_wd _ _ _ _ _ h))))
  go_wp2
  go_ret
  exact ⟨by rw [he.out]; rfl, _, rfl⟩
theorem has_any (ad st : Nat) (lk ab : Bool) (w : World) (h : Sm st) (c2 : w.cell? ⟨ad, 2, none⟩ = some (.int .u64 (wd st lk ab))) :
    Quiet Tryz.prog 33 #[.pointer (some ⟨ad, 0, none⟩)] w (.bool (!ab)) := by
  unfold Quiet
  go_enter Tryz.func33, Tryz.ntmps33
  go_wp2_with (go_at_call 76; refine (absent_any _ _ _ _ _ h c2).mono ?_; rintro e w' ⟨rfl, m, rfl⟩)
  go_ret
  exact ⟨rfl, _, rfl⟩
set_option maxHeartbeats 2000000 in
theorem seen_any (ad st : Nat) (lk ab : Bool) (text : ByteArray) (w : World) (h : Sm st) (hl : ad < w.heap.size) (c2 : w.cell? ⟨ad, 2, none⟩ = some (.int .u64 (wd st lk ab))) (c3 : w.cell? ⟨ad, 3, none⟩ = some (.string text)) :
    Calls Tryz.prog 79 #[.pointer (some ⟨ad, 0, none⟩)] w fun e w' => e = .returned (.agg #[.int .u64 st, .string text, .bool (!ab)]) ∧ Below w.heap.size w w' := by
  go_enter Tryz.func79, Tryz.ntmps79
  go_wp2
  go_region_with (first | (go_at_call 80; refine (stamp_wd _ _ _ _ h).mono ?_; rintro e w' ⟨rfl, rfl⟩) | (go_at_call 33; refine (has_any ad st lk ab _ h (by go_simp)).mono ?_; rintro e w' ⟨rfl, m, rfl⟩))
  all_goals
    go_wp2
    refine bodyPost_ret (v := .agg #[.int .u64 st, .string text, .bool (!ab)]) (by simp [results, Tryz.results79, go_sem]) rfl ⟨rfl, ?_⟩
    exact (((below_drewN ((Below.refl _ _).alloc (Nat.le_refl _) _) _).setCell (Nat.le_refl _) _).setCell (Nat.le_refl _) _).setCell (Nat.le_refl _) _
end Go.Proofs.YtkhkdedjffkhdaaGreat
