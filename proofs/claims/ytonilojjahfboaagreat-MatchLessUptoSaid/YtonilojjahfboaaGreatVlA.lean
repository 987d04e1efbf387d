/- Values held against each other: value.Compare and what it calls, the document's. Conditions: each contract's own premises. The order of values is an order; ranks; what a stable sort of numbers by their values leaves. Plain facts. -/
import Derived.Test.YtonilojjahfboaaGreatWbA
import Derived.Lib.Bytealg
import Derived.LoopTactic
import Derived.StillTailTactics
import Derived.Test.YtonilojjahfboaaGreatSrtP
namespace Go.Proofs.YtonilojjahfboaaGreat
open Go.RowKit Go.Maps

set_option maxRecDepth 100000 in
theorem compareString_any (a b : ByteArray) (w : World) :
    Calls Tryz.prog 319 #[.string a, .string b] w fun e w' => e = .returned (.int .i64 (Lib.compareBytes a.data.toList b.data.toList)) ∧ w' = w := by
  go_enter Tryz.func319, Tryz.ntmps319
  go_wp2
  rw [run_callFunc_extern Tryz.func368 (by kernel_rfl) (by kernel_rfl) (by kernel_rfl) (e := Extern.BytealgCompare.compare) (by kernel_rfl), Lib.run_compareString]
  simp only [Result.andThen]
  rw [Oper.upon_value]
  go_wp2
  go_ret
  exact ⟨rfl, rfl⟩
theorem strCmp_any (a b : ByteArray) (w : World) :
    Calls Tryz.prog 236 #[.string a, .string b] w fun e w' => e = .returned (.int .i64 (Lib.compareBytes a.data.toList b.data.toList)) ∧ w' = w := by
  go_enter Tryz.func236, Tryz.ntmps236
  go_wp2_with (go_at_call 319; refine (compareString_any _ _ _).mono ?_; rintro e w' ⟨rfl, rfl⟩)
  go_ret
  exact ⟨rfl, rfl⟩

/-- two numbers -/
theorem isNaN_any (x : Int) (w : World) : Calls Tryz.prog 318 #[.int .i64 x] w fun e w' => e = .returned (.bool false) ∧ w' = w := by
  go_enter Tryz.func318, Tryz.ntmps318
  go_wp2
  go_ret
  exact ⟨by simp, rfl⟩
theorem cmpC_any (x y : Int) (w : World) : Calls Tryz.prog 235 #[.int .i64 x, .int .i64 y] w fun e w' => e = .returned (.int .i64 (cmpI x y)) ∧ w' = w := by
  unfold cmpI
  rcases Int.lt_trichotomy x y with h | h | h
  · rw [if_pos h]
    go_enter Tryz.func235, Tryz.ntmps235
    go_wp2_with (go_at_call 318; refine (isNaN_any _ _).mono ?_; rintro e w' ⟨rfl, rfl⟩)
    go_ret
    exact ⟨rfl, rfl⟩
  · subst h
    rw [if_neg (by omega), if_neg (by omega)]
    have h1 : decide (x < x) = false := by simp
    go_enter Tryz.func235, Tryz.ntmps235
    go_wp2_with (go_at_call 318; refine (isNaN_any _ _).mono ?_; rintro e w' ⟨rfl, rfl⟩)
    go_ret
    exact ⟨rfl, rfl⟩
  · have h' : ¬ x < y := by omega
    rw [if_neg h', if_pos h]
    go_enter Tryz.func235, Tryz.ntmps235
    go_wp2_with (go_at_call 318; refine (isNaN_any _ _).mono ?_; rintro e w' ⟨rfl, rfl⟩)
    go_ret
    exact ⟨rfl, rfl⟩

/-- the first that isn't 0 -/
def orI : List Int → Int
  | [] => 0
  | x :: l => if x = 0 then orI l else x
theorem orI_drop {l : List Int} {k : Nat} {x : Int} (h : l[k]? = some x) : orI (l.drop k) = if x = 0 then orI (l.drop (k + 1)) else x := by
  obtain ⟨hk, rfl⟩ := List.getElem?_eq_some_iff.1 h
  rw [List.drop_eq_getElem_cons hk]
  rfl
set_option maxHeartbeats 400000 in
theorem cmpOr_any (b cap : Nat) (l : List Int) (w : World) (hl : l.length ≤ 1000) (hc : ∀ i x, l[i]? = some x → w.cell? ⟨b, i, none⟩ = some (.int .i64 x)) :
    Calls Tryz.prog 234 #[.slice (some ⟨b, 0, none⟩) l.length cap] w fun e w' => e = .returned (.int .i64 (orI l)) ∧ w' = w := by
  go_enter Tryz.func234, Tryz.ntmps234
  go_wp2
  go_loop [8] (fun i => ∃ k : Nat, k ≤ l.length ∧ i = .int .i64 k ∧ Hid (orI l = orI (l.drop k))) (fun i => l.length - (intOf i).toNat)
  case atStart => exact ⟨0, Nat.zero_le _, rfl, Lib.hid (by simp)⟩
  case round =>
    obtain ⟨k, hk, rfl, HO⟩ := hrel
    by_cases hlt : k < l.length
    · obtain ⟨x, hx⟩ : ∃ x, l[k]? = some x := ⟨_, List.getElem?_eq_getElem hlt⟩
      have cx := hc k x hx
      have HX := Lib.hid hx
      have HC := Lib.hid hc
      clear hx hc
      by_cases h0 : x = 0
      · subst h0
        go_wp2
        go_round
        case rel => exact ⟨k + 1, by omega, by go_num, Lib.hid (by rw [HO.out, orI_drop HX.out]; rfl)⟩
        case measure => simp [intOf]; omega
      · have hne : (x != 0) = true := by simpa using h0
        go_wp2
        go_ret
        exact ⟨ret_int (by rw [HO.out, orI_drop HX.out, if_neg h0]), rfl⟩
    · have HC := Lib.hid hc
      clear hc
      go_wp2
      go_ret
      exact ⟨ret_int (by rw [HO.out, List.drop_of_length_le (by omega)]; rfl), rfl⟩

theorem sign2_any (b : Bool) (w : World) : Calls Tryz.prog 142 #[.bool b] w fun e w' => e = .returned (.int .i64 (if b then -1 else 1)) ∧ w' = w := by
  cases b
  · go_enter Tryz.func142, Tryz.ntmps142
    go_wp2
    go_ret
    exact ⟨rfl, rfl⟩
  · go_enter Tryz.func142, Tryz.ntmps142
    go_wp2
    go_ret
    exact ⟨rfl, rfl⟩

theorem cmpB_same {a b : List UInt8} {k : Nat} (ha : k < a.length) (hb : k < b.length) (h : a[k] = b[k]) : Lib.compareBytes (a.drop k) (b.drop k) = Lib.compareBytes (a.drop (k + 1)) (b.drop (k + 1)) := by
  rw [List.drop_eq_getElem_cons ha, List.drop_eq_getElem_cons hb, h]
  simp [Lib.compareBytes]
theorem cmpB_diff {a b : List UInt8} {k : Nat} (ha : k < a.length) (hb : k < b.length) (h : a[k] ≠ b[k]) : Lib.compareBytes (a.drop k) (b.drop k) = if decide (((a[k].toNat : Nat) : Int) < ((b[k].toNat : Nat) : Int)) then -1 else 1 := by
  rw [List.drop_eq_getElem_cons ha, List.drop_eq_getElem_cons hb]
  unfold Lib.compareBytes
  have h1 : (a[k] < b[k]) ↔ ((a[k].toNat : Nat) : Int) < ((b[k].toNat : Nat) : Int) := by rw [UInt8.lt_iff_toNat_lt]; omega
  by_cases hl : a[k] < b[k]
  · rw [if_pos hl]; simp [h1.1 hl]
  · rw [if_neg hl, if_pos]
    · have : ¬ ((a[k].toNat : Nat) : Int) < ((b[k].toNat : Nat) : Int) := fun e => hl (h1.2 e)
      simp [this]
    · rw [UInt8.lt_iff_toNat_lt]
      have h2 : a[k].toNat ≠ b[k].toNat := fun e => h (UInt8.toNat_inj.1 e)
      have h3 : ¬ a[k].toNat < b[k].toNat := fun e => hl (UInt8.lt_iff_toNat_lt.2 e)
      omega

set_option maxHeartbeats 1000000 in
theorem r2order_any (a b : ByteArray) (w : World) (ha : a.size ≤ maxLen) :
    Calls Tryz.prog 143 #[.string a, .string b] w fun e w' => e = .returned (.int .i64 (Lib.compareBytes a.data.toList b.data.toList)) ∧ ∃ n, w' = w.drewN n := by
  unfold maxLen at ha
  go_enter Tryz.func143, Tryz.ntmps143
  go_wp2
  go_loopw [5] (fun i wr => ∃ k : Nat, k ≤ a.size ∧ k ≤ b.size ∧ i = .int .i64 k ∧ Hid (Lib.compareBytes a.data.toList b.data.toList = Lib.compareBytes (a.data.toList.drop k) (b.data.toList.drop k)) ∧ ∃ n, wr = w.drewN n) (fun i _ => a.size - (intOf i).toNat)
  case atStart => exact ⟨0, Nat.zero_le _, Nat.zero_le _, rfl, Lib.hid (by simp), 0, rfl⟩
  case round =>
    obtain ⟨k, hka, hkb, rfl, HO, n, rfl⟩ := hrel
    by_cases la : k < a.size
    · by_cases lb : k < b.size
      · have la' : k < a.data.toList.length := by simpa using la
        have lb' : k < b.data.toList.length := by simpa using lb
        by_cases e : a[k] = b[k]
        · have HE := Lib.hid (cmpB_same la' lb' e)
          have hne : ((a[k].toNat : Int) != (b[k].toNat : Int)) = false := by rw [e]; simp
          clear e
          go_wp2
          go_quiet (fail)
          go_wp2
          exact ⟨⟨k + 1, la, lb, by go_num, Lib.hid (by rw [HO.out, HE.out]), _, rfl⟩, by simp [intOf]; omega⟩
        · have hne : ((a[k].toNat : Int) != (b[k].toNat : Int)) = true := by
            have : a[k].toNat ≠ b[k].toNat := fun e' => e (UInt8.toNat_inj.1 e')
            simpa using fun e' => this (Int.ofNat_inj.1 e')
          have HE0 := cmpB_diff la' lb' e
          by_cases hd : a[k].toNat < b[k].toNat
          · have hd1 : decide (a[k].toNat < b[k].toNat) = true := by simpa using hd
            have HE : Hid (Lib.compareBytes (a.data.toList.drop k) (b.data.toList.drop k) = -1) := Lib.hid (by rw [HE0]; exact if_pos (decide_eq_true (Int.ofNat_lt.2 hd)))
            clear e HE0
            go_wp2
            go_quiet (fail)
            go_wp2
            go_quiet ((go_at_call 142; first | exact quiet_at2 (quiet_same' (sign2_any _ _)) | exact quiet_at (quiet_same' (sign2_any _ _)) | exact quiet_at3 (quiet_same' (sign2_any _ _))))
            go_wp2
            go_ret
            refine ⟨ret_int (by rw [HO.out, HE.out]), ?_⟩
            first | exact ⟨_, rfl⟩ | exact drewN_ex2 _ _ _ | exact drewN_ex3 _ _ _ _
          · have hd1 : decide (a[k].toNat < b[k].toNat) = false := by simpa using hd
            have HE : Hid (Lib.compareBytes (a.data.toList.drop k) (b.data.toList.drop k) = 1) := Lib.hid (by rw [HE0]; exact if_neg (fun h => hd (Int.ofNat_lt.1 (of_decide_eq_true h))))
            clear e HE0
            go_wp2
            go_quiet (fail)
            go_wp2
            go_quiet ((go_at_call 142; first | exact quiet_at2 (quiet_same' (sign2_any _ _)) | exact quiet_at (quiet_same' (sign2_any _ _)) | exact quiet_at3 (quiet_same' (sign2_any _ _))))
            go_wp2
            go_ret
            refine ⟨ret_int (by rw [HO.out, HE.out]), ?_⟩
            first | exact ⟨_, rfl⟩ | exact drewN_ex2 _ _ _ | exact drewN_ex3 _ _ _ _
      · obtain rfl : k = b.size := by omega
        have hne : ((a.size : Int) == (b.size : Int)) = false := by simp; omega
        have hlt : decide (a.size < b.size) = false := by simp; omega
        have hlt2 : decide ((a.size : Int) < (b.size : Int)) = false := by simp; omega
        have HE : Hid (Lib.compareBytes (a.data.toList.drop b.size) (b.data.toList.drop b.size) = 1) := Lib.hid (by
          rw [List.drop_eq_getElem_cons (show b.size < a.data.toList.length by simpa using la), List.drop_of_length_le (show b.data.toList.length ≤ b.size by simp)]; rfl)
        go_wp2_with (go_at_call 142; refine (sign2_any _ _).mono ?_; rintro e w' ⟨rfl, rfl⟩)
        go_ret
        exact ⟨ret_int (by rw [HO.out, HE.out]), _, rfl⟩
    · obtain rfl : k = a.size := by omega
      by_cases he : a.size = b.size
      · have hne : ((a.size : Int) == (b.size : Int)) = true := by simp; omega
        have HE : Hid (Lib.compareBytes (a.data.toList.drop a.size) (b.data.toList.drop a.size) = 0) := Lib.hid (by
          rw [List.drop_of_length_le (show a.data.toList.length ≤ a.size by simp), List.drop_of_length_le (show b.data.toList.length ≤ a.size by simp; omega)]; rfl)
        clear he
        go_wp2
        go_ret
        exact ⟨ret_int (by rw [HO.out, HE.out]), _, rfl⟩
      · have hne : ((a.size : Int) == (b.size : Int)) = false := by simp; omega
        have hlt : decide (a.size < b.size) = true := by simp; omega
        have hlt2 : decide ((a.size : Int) < (b.size : Int)) = true := by simp; omega
        have HE : Hid (Lib.compareBytes (a.data.toList.drop a.size) (b.data.toList.drop a.size) = -1) := Lib.hid (by
          rw [List.drop_of_length_le (show a.data.toList.length ≤ a.size by simp), List.drop_eq_getElem_cons (show a.size < b.data.toList.length by simp; omega)]; rfl)
        clear he
        go_wp2_with (go_at_call 142; refine (sign2_any _ _).mono ?_; rintro e w' ⟨rfl, rfl⟩)
        go_ret
        exact ⟨ret_int (by rw [HO.out, HE.out]), _, rfl⟩


def Vl.cmp (a b : Vl) : Int := if a.kind = b.kind then (if a.n = b.n then Lib.compareBytes a.s.data.toList b.s.data.toList else if a.n < b.n then -1 else 1) else if a.kind < b.kind then -1 else 1
set_option maxHeartbeats 1000000 in
theorem r2compare_any (a b : Vl) (w : World) (ha : a.Ok) : Calls Tryz.prog 60 #[.agg #[.int .i64 a.kind, .int .i64 a.n, .string a.s], .agg #[.int .i64 b.kind, .int .i64 b.n, .string b.s]] w fun e w' => e = .returned (.int .i64 (a.cmp b)) ∧ Below w.heap.size w w' := by
  have fin := Lib.hid (fun X Y => below_al (below_box w X) Y)
  unfold Vl.cmp
  by_cases h1 : a.kind = b.kind
  · rw [if_pos h1]
    have n1 : (a.kind != b.kind) = false := by simpa using h1
    clear h1
    by_cases h2 : a.n = b.n
    · rw [if_pos h2]
      have n2 : (a.n != b.n) = false := by simpa using h2
      clear h2
      go_enter Tryz.func60, Tryz.ntmps60
      go_wp2_with fail
      refine (r2order_any a.s b.s _ ha.s).mono ?_
      rintro e w1 ⟨rfl, m, rfl⟩
      go_wp2_with fail
      go_ret
      exact ⟨rfl, below_drewN' (fin.out _ _) _⟩
    · rw [if_neg h2]
      have n2 : (a.n != b.n) = true := by simpa using h2
      by_cases h3 : a.n < b.n
      · rw [if_pos h3]
        clear h2
        go_enter Tryz.func60, Tryz.ntmps60
        go_wp2_with fail
        refine (sign2_any _ _).mono ?_
        rintro e w1 ⟨rfl, rfl⟩
        go_wp2_with fail
        go_ret
        exact ⟨by simp, fin.out _ _⟩
      · rw [if_neg h3]
        have h3' : decide (a.n < b.n) = false := by simpa using h3
        clear h2
        go_enter Tryz.func60, Tryz.ntmps60
        go_wp2_with fail
        refine (sign2_any _ _).mono ?_
        rintro e w1 ⟨rfl, rfl⟩
        go_wp2_with fail
        go_ret
        exact ⟨by simp, fin.out _ _⟩
  · rw [if_neg h1]
    have n1 : (a.kind != b.kind) = true := by simpa using h1
    by_cases h3 : a.kind < b.kind
    · rw [if_pos h3]
      clear h1
      go_enter Tryz.func60, Tryz.ntmps60
      go_wp2_with fail
      refine (sign2_any _ _).mono ?_
      rintro e w1 ⟨rfl, rfl⟩
      go_wp2_with fail
      go_ret
      exact ⟨by simp, fin.out _ _⟩
    · rw [if_neg h3]
      have h3' : decide (a.kind < b.kind) = false := by simpa using h3
      clear h1
      go_enter Tryz.func60, Tryz.ntmps60
      go_wp2_with fail
      refine (sign2_any _ _).mono ?_
      rintro e w1 ⟨rfl, rfl⟩
      go_wp2_with fail
      go_ret
      exact ⟨by simp, fin.out _ _⟩
def Vl.cmp3 (a b : Vl) : Int := orI [cmpI a.kind b.kind, cmpI a.n b.n, Lib.compareBytes a.s.data.toList b.s.data.toList]
theorem Vl.cmp3_eq (a b : Vl) : a.cmp3 b = a.cmp b := by
  unfold Vl.cmp3 Vl.cmp
  show (if cmpI a.kind b.kind = 0 then (if cmpI a.n b.n = 0 then (if Lib.compareBytes a.s.data.toList b.s.data.toList = 0 then 0 else Lib.compareBytes a.s.data.toList b.s.data.toList) else cmpI a.n b.n) else cmpI a.kind b.kind) = _
  have e : ∀ z : Int, (if z = 0 then 0 else z) = z := fun z => by split <;> omega
  rw [e]
  unfold cmpI
  by_cases h1 : a.kind = b.kind
  · rw [h1]
    by_cases h2 : a.n = b.n
    · rw [h2]; simp
    · by_cases h3 : a.n < b.n
      · simp [h2, h3]
      · have h4 : b.n < a.n := by omega
        simp [h2, h3, h4]
  · by_cases h3 : a.kind < b.kind
    · simp [h1, h3]
    · have h4 : b.kind < a.kind := by omega
      simp [h1, h3, h4]
set_option maxRecDepth 100000 in
set_option maxHeartbeats 400000 in
theorem vcompare_any (a b : Vl) (w : World) :
    Calls Tryz.prog 138 #[.agg #[.int .i64 a.kind, .int .i64 a.n, .string a.s], .agg #[.int .i64 b.kind, .int .i64 b.n, .string b.s]] w fun e w' => e = .returned (.int .i64 (a.cmp b)) ∧ Below w.heap.size w w' := by
  rw [← Vl.cmp3_eq]
  unfold Vl.cmp3
  go_enter Tryz.func138, Tryz.ntmps138
  go_wp2
  refine wp_region_still_tail 15 (by kernel_rfl) (by kernel_rfl) ?_
  change wpStill _ _ (World.drew _) (fun a' => wpList _ _ _ _ a' (World.drew _)) _ _
  simp only [List.take_succ_cons, List.take_zero, List.drop_succ_cons, List.drop_zero]
  iterate 4 still_step
  still_call (cmpC_any _ _ _)
  iterate 4 still_step
  still_call (cmpC_any _ _ _)
  iterate 4 still_step
  still_call (strCmp_any _ _ _)
  refine wpStill_nil ?_
  go_wp2_with fail
  refine (cmpOr_any (w.heap.size + 1 + 1) 3 [cmpI a.kind b.kind, cmpI a.n b.n, Lib.compareBytes a.s.data.toList b.s.data.toList] _ (by simp) ?_).mono ?_
  · intro i x hx
    match i, hx with
    | 0, hx => simp at hx; subst hx; go_simp
    | 1, hx => simp at hx; subst hx; go_simp
    | 2, hx => simp at hx; subst hx; go_simp
  rintro e w' ⟨rfl, rfl⟩
  go_wp2
  go_ret
  exact ⟨rfl, ((((Below.refl _ _).alloc (Nat.le_refl _) _).alloc (by simp) _).alloc (by simp; omega) _).drew⟩
end Go.Proofs.YtonilojjahfboaaGreat
namespace Go.Proofs.YtonilojjahfboaaGreat
open Go.RowKit Go.Maps

theorem vB_neg : ∀ (a b : List UInt8), Lib.compareBytes b a = - Lib.compareBytes a b
  | [], [] => rfl
  | [], _ :: _ => rfl
  | _ :: _, [] => rfl
  | x :: a, y :: b => by
    unfold Lib.compareBytes
    have ih := vB_neg a b
    have hx : x < y ↔ x.toNat < y.toNat := UInt8.lt_iff_toNat_lt
    have hy : y < x ↔ y.toNat < x.toNat := UInt8.lt_iff_toNat_lt
    by_cases h1 : x < y
    · have h2 : ¬ y < x := by rw [hy]; rw [hx] at h1; omega
      rw [if_neg h2, if_pos h1, if_pos h1]; rfl
    · by_cases h2 : y < x
      · rw [if_pos h2, if_neg h1, if_pos h2]
      · rw [if_neg h2, if_neg h1, if_neg h1, if_neg h2, ih]
theorem vB_zero : ∀ {a b : List UInt8}, Lib.compareBytes a b = 0 ↔ a = b
  | [], [] => by simp [Lib.compareBytes]
  | [], _ :: _ => by simp [Lib.compareBytes]
  | _ :: _, [] => by simp [Lib.compareBytes]
  | x :: a, y :: b => by
    unfold Lib.compareBytes
    have hx : x < y ↔ x.toNat < y.toNat := UInt8.lt_iff_toNat_lt
    have hy : y < x ↔ y.toNat < x.toNat := UInt8.lt_iff_toNat_lt
    have he : x = y ↔ x.toNat = y.toNat := UInt8.toNat_inj.symm
    rw [List.cons.injEq, he]
    by_cases h1 : x < y
    · rw [if_pos h1]; rw [hx] at h1; constructor
      · intro h; cases h
      · intro h; omega
    · rw [if_neg h1]
      by_cases h2 : y < x
      · rw [if_pos h2]; rw [hy] at h2; constructor
        · intro h; cases h
        · intro h; omega
      · rw [if_neg h2, vB_zero]
        rw [hx] at h1; rw [hy] at h2
        constructor
        · intro h; exact ⟨by omega, h⟩
        · intro h; exact h.2
theorem vB_trans : ∀ {a b c : List UInt8}, Lib.compareBytes a b ≤ 0 → Lib.compareBytes b c ≤ 0 → Lib.compareBytes a c ≤ 0
  | [], _, [], _, _ => by simp [Lib.compareBytes]
  | [], _, _ :: _, _, _ => by simp [Lib.compareBytes]
  | _ :: _, [], _, h, _ => by simp [Lib.compareBytes] at h
  | _ :: _, _ :: _, [], _, h => by simp [Lib.compareBytes] at h
  | x :: a, y :: b, z :: c, h, k => by
    unfold Lib.compareBytes at *
    have h1 : x < y ↔ x.toNat < y.toNat := UInt8.lt_iff_toNat_lt
    have h2 : y < x ↔ y.toNat < x.toNat := UInt8.lt_iff_toNat_lt
    have h3 : y < z ↔ y.toNat < z.toNat := UInt8.lt_iff_toNat_lt
    have h4 : z < y ↔ z.toNat < y.toNat := UInt8.lt_iff_toNat_lt
    have h5 : x < z ↔ x.toNat < z.toNat := UInt8.lt_iff_toNat_lt
    have h6 : z < x ↔ z.toNat < x.toNat := UInt8.lt_iff_toNat_lt
    by_cases e1 : x.toNat < y.toNat
    · by_cases e2 : z.toNat < y.toNat
      · rw [if_neg (mt h3.1 (by omega)), if_pos (h4.2 e2)] at k; omega
      · rw [if_pos (h5.2 (by omega))]; decide
    · rw [if_neg (mt h1.1 e1)] at h
      by_cases e2 : y.toNat < x.toNat
      · rw [if_pos (h2.2 e2)] at h; omega
      · rw [if_neg (mt h2.1 e2)] at h
        by_cases e3 : y.toNat < z.toNat
        · rw [if_pos (h5.2 (by omega))]; decide
        · rw [if_neg (mt h3.1 e3)] at k
          by_cases e4 : z.toNat < y.toNat
          · rw [if_pos (h4.2 e4)] at k; omega
          · rw [if_neg (mt h4.1 e4)] at k
            rw [if_neg (mt h5.1 (by omega)), if_neg (mt h6.1 (by omega))]
            exact vB_trans h k

theorem Vl.cmpN (a b : Vl) : b.cmp a = - a.cmp b := by
  unfold Vl.cmp
  by_cases h1 : a.kind = b.kind
  · rw [if_pos h1, if_pos h1.symm]
    by_cases h2 : a.n = b.n
    · rw [if_pos h2, if_pos h2.symm, vB_neg]
    · rw [if_neg h2, if_neg (Ne.symm h2)]
      by_cases h3 : a.n < b.n
      · rw [if_neg (by omega), if_pos h3]; rfl
      · rw [if_pos (by omega), if_neg h3]
  · rw [if_neg h1, if_neg (Ne.symm h1)]
    by_cases h3 : a.kind < b.kind
    · rw [if_neg (by omega), if_pos h3]; rfl
    · rw [if_pos (by omega), if_neg h3]
theorem Vl.cmp_le_iff (a b : Vl) : a.cmp b ≤ 0 ↔ (a.kind < b.kind ∨ (a.kind = b.kind ∧ (a.n < b.n ∨ (a.n = b.n ∧ Lib.compareBytes a.s.data.toList b.s.data.toList ≤ 0)))) := by
  unfold Vl.cmp
  by_cases h1 : a.kind = b.kind
  · rw [if_pos h1]
    by_cases h2 : a.n = b.n
    · rw [if_pos h2]; constructor
      · intro h; exact .inr ⟨h1, .inr ⟨h2, h⟩⟩
      · rintro (h | ⟨_, h | ⟨_, h⟩⟩)
        · omega
        · omega
        · exact h
    · rw [if_neg h2]
      by_cases h3 : a.n < b.n
      · rw [if_pos h3]; constructor
        · intro _; exact .inr ⟨h1, .inl h3⟩
        · intro _; decide
      · rw [if_neg h3]; constructor
        · intro h; exact absurd h (by decide)
        · rintro (h | ⟨_, h | ⟨h, _⟩⟩) <;> omega
  · rw [if_neg h1]
    by_cases h3 : a.kind < b.kind
    · rw [if_pos h3]; constructor
      · intro _; exact .inl h3
      · intro _; decide
    · rw [if_neg h3]; constructor
      · intro h; exact absurd h (by decide)
      · rintro (h | ⟨h, _⟩) <;> omega
theorem Vl.cmp_tr {a b c : Vl} (h : a.cmp b ≤ 0) (h2 : b.cmp c ≤ 0) : a.cmp c ≤ 0 := by
  rw [Vl.cmp_le_iff] at *
  rcases h with h | ⟨e, h | ⟨e1, h⟩⟩ <;> rcases h2 with h2 | ⟨f, h2 | ⟨f1, h2⟩⟩
  · exact .inl (by omega)
  · exact .inl (by omega)
  · exact .inl (by omega)
  · exact .inl (by omega)
  · exact .inr ⟨by omega, .inl (by omega)⟩
  · exact .inr ⟨by omega, .inl (by omega)⟩
  · exact .inl (by omega)
  · exact .inr ⟨by omega, .inl (by omega)⟩
  · exact .inr ⟨by omega, .inr ⟨by omega, vB_trans h h2⟩⟩
/-- below y, and y not above x: below x -/
theorem Vl.cmp_lt_le {z y x : Vl} (h : z.cmp y < 0) (h2 : ¬ x.cmp y < 0) : z.cmp x < 0 := by
  have e1 := Vl.cmpN x y
  have e2 := Vl.cmpN z x
  refine Int.not_le.1 fun h3 => ?_
  have h4 : x.cmp z ≤ 0 := by omega
  have h5 := Vl.cmp_tr (show y.cmp x ≤ 0 by omega) h4
  have e3 := Vl.cmpN z y
  omega
/-- how many of a list are below -/
def rankV (l : List Vl) (x : Vl) : Nat := (l.filter (fun z => decide (z.cmp x < 0))).length
theorem filter_len_le {α : Type} {p q : α → Bool} : ∀ (l : List α), (∀ x ∈ l, p x = true → q x = true) → (l.filter p).length ≤ (l.filter q).length
  | [], _ => Nat.le_refl _
  | x :: l, h => by
    have ih := filter_len_le l (fun y hy => h y (List.mem_cons_of_mem _ hy))
    have hx := h x (List.mem_cons_self ..)
    simp only [List.filter_cons]
    cases hp : p x
    · cases hq : q x <;> simp <;> omega
    · rw [hx hp]; simpa using ih
theorem filter_len_lt {α : Type} {p q : α → Bool} : ∀ (l : List α), (∀ x ∈ l, p x = true → q x = true) → ∀ {y : α}, y ∈ l → p y = false → q y = true → (l.filter p).length < (l.filter q).length
  | [], _, y, hy, _, _ => by cases hy
  | x :: l, h, y, hy, hp, hq => by
    have hl : ∀ x ∈ l, p x = true → q x = true := fun y hy => h y (List.mem_cons_of_mem _ hy)
    have hx := h x (List.mem_cons_self ..)
    simp only [List.filter_cons]
    rcases List.mem_cons.1 hy with rfl | hy
    · rw [hp, hq]
      have := filter_len_le l hl
      simp; omega
    · have ih := filter_len_lt l hl hy hp hq
      cases hp' : p x
      · cases hq' : q x <;> simp <;> omega
      · rw [hx hp']; simpa using ih
theorem rankV_lt {l : List Vl} {x y : Vl} (hx : x ∈ l) : rankV l x < rankV l y ↔ x.cmp y < 0 := by
  constructor
  · intro h
    refine Classical.byContradiction fun h2 => ?_
    have := filter_len_le (p := fun z => decide (z.cmp y < 0)) (q := fun z => decide (z.cmp x < 0)) l (fun z _ hz => decide_eq_true (Vl.cmp_lt_le (of_decide_eq_true hz) h2))
    unfold rankV at h
    omega
  · intro h
    have e := Vl.cmpN x x
    refine filter_len_lt l (fun z _ hz => decide_eq_true ?_) hx (decide_eq_false (by omega)) (decide_eq_true h)
    refine Vl.cmp_lt_le (of_decide_eq_true hz) (y := x) ?_
    have := Vl.cmpN x y
    omega
/-- the row that a stable sort leaves: the places t of L -/
def rowOf (L : List Int) (t : Nat → Nat) : List Int := (List.range L.length).map (fun i => L[t i]!)
theorem rowOf_len (L : List Int) (t : Nat → Nat) : (rowOf L t).length = L.length := by simp [rowOf]
theorem rowOf_sub {L : List Int} {t : Nat → Nat} (h : Srt.Into t (fun i => i) 0 L.length) {x : Int} (hx : x ∈ rowOf L t) : x ∈ L := by
  obtain ⟨i, hi, rfl⟩ := List.mem_map.1 hx
  obtain ⟨j, _, hj, e⟩ := h.1 i (Nat.zero_le _) (List.mem_range.1 hi)
  rw [e, getElem!_pos L j hj]
  exact List.getElem_mem hj
end Go.Proofs.YtonilojjahfboaaGreat
