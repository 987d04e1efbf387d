/- The reference of layer 2 (cobwebref02) and cobwebref21.Five: Right, Order, Compare, Bytes. Conditions: each contract's own premises. -/
import Derived.Test.YtcafedfldmcbiaaWb7
import Derived.Laws.AppendOwnNone
namespace Go.Proofs.Ytcafedfldmcbiaa
open Go.RowKit Go.Maps

theorem sign2_any (b : Bool) (w : World) : Calls Try.prog 41 #[.bool b] w fun e w' => e = .returned (.int .i64 (if b then -1 else 1)) ∧ w' = w := by
  cases b
  · go_enter Try.func41, Try.ntmps41
    go_wp2
    go_ret
    exact ⟨rfl, rfl⟩
  · go_enter Try.func41, Try.ntmps41
    go_wp2
    go_ret
    exact ⟨rfl, rfl⟩

theorem cmpB_same {a b : List UInt8} {k : Nat} (ha : k < a.length) (hb : k < b.length) (h : a[k] = b[k]) : Lib.compareBytes (a.drop k) (b.drop k) = Lib.compareBytes (a.drop (k + 1)) (b.drop (k + 1)) := by
  rw [List.drop_eq_getElem_cons ha, List.drop_eq_getElem_cons hb, h]
  simp [Lib.compareBytes]
theorem cmpB_diff {a b : List UInt8} {k : Nat} (ha : k < a.length) (hb : k < b.length) (h : a[k] ≠ b[k]) : Lib.compareBytes (a.drop k) (b.drop k) = if decide (((a[k].toNat : Nat) : Int) < ((b[k].toNat : Nat) : Int)) then -1 else 1 := by
  rw [List.drop_eq_getElem_cons ha, List.drop_eq_getElem_cons hb]
  unfold Lib.compareBytes
  have h1 : (a[k] < b[k]) ↔ ((a[k].toNat : Nat) : Int) < ((b[k].toNat : Nat) : Int) := by rw [UInt8.lt_iff_toNat_lt]; omega
  by_cases hl : a[k] < b[k]
  · rw [if_pos hl]; simp [h1.1 hl]
  · rw [if_neg hl, if_pos]
    · have : ¬ ((a[k].toNat : Nat) : Int) < ((b[k].toNat : Nat) : Int) := fun e => hl (h1.2 e)
      simp [this]
    · rw [UInt8.lt_iff_toNat_lt]
      have h2 : a[k].toNat ≠ b[k].toNat := fun e => h (UInt8.toNat_inj.1 e)
      have h3 : ¬ a[k].toNat < b[k].toNat := fun e => hl (UInt8.lt_iff_toNat_lt.2 e)
      omega

set_option maxHeartbeats 1000000 in
theorem r2order_any (a b : ByteArray) (w : World) (ha : a.size ≤ maxLen) :
    Calls Try.prog 18 #[.string a, .string b] w fun e w' => e = .returned (.int .i64 (Lib.compareBytes a.data.toList b.data.toList)) ∧ ∃ n, w' = w.drewN n := by
  unfold maxLen at ha
  go_enter Try.func18, Try.ntmps18
  go_wp2
  go_loopw [5] (fun i wr => ∃ k : Nat, k ≤ a.size ∧ k ≤ b.size ∧ i = .int .i64 k ∧ Hid (Lib.compareBytes a.data.toList b.data.toList = Lib.compareBytes (a.data.toList.drop k) (b.data.toList.drop k)) ∧ ∃ n, wr = w.drewN n) (fun i _ => a.size - (intOf i).toNat)
  case atStart => exact ⟨0, Nat.zero_le _, Nat.zero_le _, rfl, Lib.hid (by simp), 0, rfl⟩
  case round =>
    obtain ⟨k, hka, hkb, rfl, HO, n, rfl⟩ := hrel
    by_cases la : k < a.size
    · by_cases lb : k < b.size
      · have la' : k < a.data.toList.length := by simpa using la
        have lb' : k < b.data.toList.length := by simpa using lb
        by_cases e : a[k] = b[k]
        · have HE := Lib.hid (cmpB_same la' lb' e)
          have hne : ((a[k].toNat : Int) != (b[k].toNat : Int)) = false := by rw [e]; simp
          clear e
          go_wp2
          go_quiet (fail)
          go_wp2
          exact ⟨⟨k + 1, la, lb, by go_num, Lib.hid (by rw [HO.out, HE.out]), _, rfl⟩, by simp [intOf]; omega⟩
        · have hne : ((a[k].toNat : Int) != (b[k].toNat : Int)) = true := by
            have : a[k].toNat ≠ b[k].toNat := fun e' => e (UInt8.toNat_inj.1 e')
            simpa using fun e' => this (Int.ofNat_inj.1 e')
          have HE0 := cmpB_diff la' lb' e
          by_cases hd : a[k].toNat < b[k].toNat
          · have hd1 : decide (a[k].toNat < b[k].toNat) = true := by simpa using hd
            have HE : Hid (Lib.compareBytes (a.data.toList.drop k) (b.data.toList.drop k) = -1) := Lib.hid (by rw [HE0]; exact if_pos (decide_eq_true (Int.ofNat_lt.2 hd)))
            clear e HE0
            go_wp2
            go_quiet (fail)
            go_wp2
            go_quiet ((go_at_call 41; first | exact quiet_at2 (quiet_same' (sign2_any _ _)) | exact quiet_at (quiet_same' (sign2_any _ _)) | exact quiet_at3 (quiet_same' (sign2_any _ _))))
            go_wp2
            go_ret
            refine ⟨ret_int (by rw [HO.out, HE.out]), ?_⟩
            first | exact ⟨_, rfl⟩ | exact drewN_ex2 _ _ _ | exact drewN_ex3 _ _ _ _
          · have hd1 : decide (a[k].toNat < b[k].toNat) = false := by simpa using hd
            have HE : Hid (Lib.compareBytes (a.data.toList.drop k) (b.data.toList.drop k) = 1) := Lib.hid (by rw [HE0]; exact if_neg (fun h => hd (Int.ofNat_lt.1 (of_decide_eq_true h))))
            clear e HE0
            go_wp2
            go_quiet (fail)
            go_wp2
            go_quiet ((go_at_call 41; first | exact quiet_at2 (quiet_same' (sign2_any _ _)) | exact quiet_at (quiet_same' (sign2_any _ _)) | exact quiet_at3 (quiet_same' (sign2_any _ _))))
            go_wp2
            go_ret
            refine ⟨ret_int (by rw [HO.out, HE.out]), ?_⟩
            first | exact ⟨_, rfl⟩ | exact drewN_ex2 _ _ _ | exact drewN_ex3 _ _ _ _
      · obtain rfl : k = b.size := by omega
        have hne : ((a.size : Int) == (b.size : Int)) = false := by simp; omega
        have hlt : decide (a.size < b.size) = false := by simp; omega
        have hlt2 : decide ((a.size : Int) < (b.size : Int)) = false := by simp; omega
        have HE : Hid (Lib.compareBytes (a.data.toList.drop b.size) (b.data.toList.drop b.size) = 1) := Lib.hid (by
          rw [List.drop_eq_getElem_cons (show b.size < a.data.toList.length by simpa using la), List.drop_of_length_le (show b.data.toList.length ≤ b.size by simp)]; rfl)
        go_wp2_with (go_at_call 41; refine (sign2_any _ _).mono ?_; rintro e w' ⟨rfl, rfl⟩)
        go_ret
        exact ⟨ret_int (by rw [HO.out, HE.out]), _, rfl⟩
    · obtain rfl : k = a.size := by omega
      by_cases he : a.size = b.size
      · have hne : ((a.size : Int) == (b.size : Int)) = true := by simp; omega
        have HE : Hid (Lib.compareBytes (a.data.toList.drop a.size) (b.data.toList.drop a.size) = 0) := Lib.hid (by
          rw [List.drop_of_length_le (show a.data.toList.length ≤ a.size by simp), List.drop_of_length_le (show b.data.toList.length ≤ a.size by simp; omega)]; rfl)
        clear he
        go_wp2
        go_ret
        exact ⟨ret_int (by rw [HO.out, HE.out]), _, rfl⟩
      · have hne : ((a.size : Int) == (b.size : Int)) = false := by simp; omega
        have hlt : decide (a.size < b.size) = true := by simp; omega
        have hlt2 : decide ((a.size : Int) < (b.size : Int)) = true := by simp; omega
        have HE : Hid (Lib.compareBytes (a.data.toList.drop a.size) (b.data.toList.drop a.size) = -1) := Lib.hid (by
          rw [List.drop_of_length_le (show a.data.toList.length ≤ a.size by simp), List.drop_eq_getElem_cons (show a.size < b.data.toList.length by simp; omega)]; rfl)
        clear he
        go_wp2_with (go_at_call 41; refine (sign2_any _ _).mono ?_; rintro e w' ⟨rfl, rfl⟩)
        go_ret
        exact ⟨ret_int (by rw [HO.out, HE.out]), _, rfl⟩


set_option maxHeartbeats 1000000 in
theorem r2right_any (v : Vl) (w : World) (h : v.Ok) : Calls Try.prog 14 #[.agg #[.int .i64 v.kind, .int .i64 v.n, .string v.s]] w fun e w' => e = .returned (.bool v.right) ∧ Below w.heap.size w w' := by
  have hs := h.s
  unfold maxLen at hs
  have fin := Lib.hid (fun X => below_box w X)
  unfold Vl.right Vl.isN Vl.isT
  by_cases k1 : v.kind = 1
  · have n1 : (v.kind == 1) = true := by simpa using k1
    have n2 : (v.kind == 2) = false := by simp; omega
    rw [decide_eq_true k1, decide_eq_false (show ¬ v.kind = 2 by omega)]
    clear k1
    cases he : v.s.toList.isEmpty
    · have he2 : (v.s.toList == []) = false := by simpa using he
      go_enter Try.func14, Try.ntmps14
      go_wp2
      go_ret
      exact ⟨rfl, fin.out _⟩
    · have he2 : (v.s.toList == []) = true := by simpa using he
      go_enter Try.func14, Try.ntmps14
      go_wp2
      go_ret
      exact ⟨rfl, fin.out _⟩
  · have n1 : (v.kind == 1) = false := by simpa using k1
    rw [decide_eq_false k1]
    clear k1
    by_cases k2 : v.kind = 2
    · have n2 : (v.kind == 2) = true := by simpa using k2
      rw [decide_eq_true k2]
      clear k2
      by_cases k3 : v.n = 0
      · have n3 : (v.n == 0) = true := by simpa using k3
        rw [decide_eq_true k3]
        clear k3
        go_enter Try.func14, Try.ntmps14
        go_wp2
        go_ret
        exact ⟨ret_bool (by rw [Bool.eq_iff_iff]; simp; omega), fin.out _⟩
      · have n3 : (v.n == 0) = false := by simpa using k3
        rw [decide_eq_false k3]
        clear k3
        go_enter Try.func14, Try.ntmps14
        go_wp2
        go_ret
        exact ⟨rfl, fin.out _⟩
    · have n2 : (v.kind == 2) = false := by simpa using k2
      rw [decide_eq_false k2]
      clear k2
      go_enter Try.func14, Try.ntmps14
      go_wp2
      go_ret
      exact ⟨rfl, fin.out _⟩

/-- two values -/
def Vl.cmp (a b : Vl) : Int := if a.kind = b.kind then (if a.n = b.n then Lib.compareBytes a.s.data.toList b.s.data.toList else if a.n < b.n then -1 else 1) else if a.kind < b.kind then -1 else 1
set_option maxHeartbeats 1000000 in
theorem r2compare_any (a b : Vl) (w : World) (ha : a.Ok) : Calls Try.prog 16 #[.agg #[.int .i64 a.kind, .int .i64 a.n, .string a.s], .agg #[.int .i64 b.kind, .int .i64 b.n, .string b.s]] w fun e w' => e = .returned (.int .i64 (a.cmp b)) ∧ Below w.heap.size w w' := by
  have fin := Lib.hid (fun X Y => below_al (below_box w X) Y)
  unfold Vl.cmp
  by_cases h1 : a.kind = b.kind
  · rw [if_pos h1]
    have n1 : (a.kind != b.kind) = false := by simpa using h1
    clear h1
    by_cases h2 : a.n = b.n
    · rw [if_pos h2]
      have n2 : (a.n != b.n) = false := by simpa using h2
      clear h2
      go_enter Try.func16, Try.ntmps16
      go_wp2_with fail
      refine (r2order_any a.s b.s _ ha.s).mono ?_
      rintro e w1 ⟨rfl, m, rfl⟩
      go_wp2_with fail
      go_ret
      exact ⟨rfl, below_drewN' (fin.out _ _) _⟩
    · rw [if_neg h2]
      have n2 : (a.n != b.n) = true := by simpa using h2
      by_cases h3 : a.n < b.n
      · rw [if_pos h3]
        clear h2
        go_enter Try.func16, Try.ntmps16
        go_wp2_with fail
        refine (sign2_any _ _).mono ?_
        rintro e w1 ⟨rfl, rfl⟩
        go_wp2_with fail
        go_ret
        exact ⟨by simp, fin.out _ _⟩
      · rw [if_neg h3]
        have h3' : decide (a.n < b.n) = false := by simpa using h3
        clear h2
        go_enter Try.func16, Try.ntmps16
        go_wp2_with fail
        refine (sign2_any _ _).mono ?_
        rintro e w1 ⟨rfl, rfl⟩
        go_wp2_with fail
        go_ret
        exact ⟨by simp, fin.out _ _⟩
  · rw [if_neg h1]
    have n1 : (a.kind != b.kind) = true := by simpa using h1
    by_cases h3 : a.kind < b.kind
    · rw [if_pos h3]
      clear h1
      go_enter Try.func16, Try.ntmps16
      go_wp2_with fail
      refine (sign2_any _ _).mono ?_
      rintro e w1 ⟨rfl, rfl⟩
      go_wp2_with fail
      go_ret
      exact ⟨by simp, fin.out _ _⟩
    · rw [if_neg h3]
      have h3' : decide (a.kind < b.kind) = false := by simpa using h3
      clear h1
      go_enter Try.func16, Try.ntmps16
      go_wp2_with fail
      refine (sign2_any _ _).mono ?_
      rintro e w1 ⟨rfl, rfl⟩
      go_wp2_with fail
      go_ret
      exact ⟨by simp, fin.out _ _⟩
end Go.Proofs.Ytcafedfldmcbiaa
