/- The order of keys: cell.Order and what it calls. Conditions: each contract's own premises. -/
import Derived.Test.YtfkckdfldalceaaCell2
import Derived.Lib.Bytealg
import Derived.LoopTactic
namespace Go.Proofs.Ytfkckdfldalceaa
open Go.RowKit Go.Maps

set_option maxRecDepth 100000 in
theorem compareString_any (a b : ByteArray) (w : World) :
    Calls Try.prog 102 #[.string a, .string b] w fun e w' => e = .returned (.int .i64 (Lib.compareBytes a.data.toList b.data.toList)) ∧ w' = w := by
  go_enter Try.func102, Try.ntmps102
  go_wp2
  rw [run_callFunc_extern Try.func113 (by kernel_rfl) (by kernel_rfl) (by kernel_rfl) (e := Extern.BytealgCompare.compare) (by kernel_rfl), Lib.run_compareString]
  simp only [Result.andThen]
  rw [Oper.upon_value]
  go_wp2
  go_ret
  exact ⟨rfl, rfl⟩
theorem strCmp_any (a b : ByteArray) (w : World) :
    Calls Try.prog 73 #[.string a, .string b] w fun e w' => e = .returned (.int .i64 (Lib.compareBytes a.data.toList b.data.toList)) ∧ w' = w := by
  go_enter Try.func73, Try.ntmps73
  go_wp2_with (go_at_call 102; refine (compareString_any _ _ _).mono ?_; rintro e w' ⟨rfl, rfl⟩)
  go_ret
  exact ⟨rfl, rfl⟩

/-- two numbers -/
def cmpI (x y : Int) : Int := if x < y then -1 else if y < x then 1 else 0
theorem isNaN_any (x : Int) (w : World) : Calls Try.prog 101 #[.int .i64 x] w fun e w' => e = .returned (.bool false) ∧ w' = w := by
  go_enter Try.func101, Try.ntmps101
  go_wp2
  go_ret
  exact ⟨by simp, rfl⟩
theorem cmpC_any (x y : Int) (w : World) : Calls Try.prog 72 #[.int .i64 x, .int .i64 y] w fun e w' => e = .returned (.int .i64 (cmpI x y)) ∧ w' = w := by
  unfold cmpI
  rcases Int.lt_trichotomy x y with h | h | h
  · rw [if_pos h]
    go_enter Try.func72, Try.ntmps72
    go_wp2_with (go_at_call 101; refine (isNaN_any _ _).mono ?_; rintro e w' ⟨rfl, rfl⟩)
    go_ret
    exact ⟨rfl, rfl⟩
  · subst h
    rw [if_neg (by omega), if_neg (by omega)]
    have h1 : decide (x < x) = false := by simp
    go_enter Try.func72, Try.ntmps72
    go_wp2_with (go_at_call 101; refine (isNaN_any _ _).mono ?_; rintro e w' ⟨rfl, rfl⟩)
    go_ret
    exact ⟨rfl, rfl⟩
  · have h' : ¬ x < y := by omega
    rw [if_neg h', if_pos h]
    go_enter Try.func72, Try.ntmps72
    go_wp2_with (go_at_call 101; refine (isNaN_any _ _).mono ?_; rintro e w' ⟨rfl, rfl⟩)
    go_ret
    exact ⟨rfl, rfl⟩

/-- the first that isn't 0 -/
def orI : List Int → Int
  | [] => 0
  | x :: l => if x = 0 then orI l else x
theorem orI_drop {l : List Int} {k : Nat} {x : Int} (h : l[k]? = some x) : orI (l.drop k) = if x = 0 then orI (l.drop (k + 1)) else x := by
  obtain ⟨hk, rfl⟩ := List.getElem?_eq_some_iff.1 h
  rw [List.drop_eq_getElem_cons hk]
  rfl
theorem ret_int {k : IntKind} {a b : Int} (h : a = b) : Ending.returned (.int k a) = .returned (.int k b) := by rw [h]
set_option maxHeartbeats 400000 in
theorem cmpOr_any (b cap : Nat) (l : List Int) (w : World) (hl : l.length ≤ 1000) (hc : ∀ i x, l[i]? = some x → w.cell? ⟨b, i, none⟩ = some (.int .i64 x)) :
    Calls Try.prog 71 #[.slice (some ⟨b, 0, none⟩) l.length cap] w fun e w' => e = .returned (.int .i64 (orI l)) ∧ w' = w := by
  go_enter Try.func71, Try.ntmps71
  go_wp2
  go_loop [8] (fun i => ∃ k : Nat, k ≤ l.length ∧ i = .int .i64 k ∧ Hid (orI l = orI (l.drop k))) (fun i => l.length - (intOf i).toNat)
  case atStart => exact ⟨0, Nat.zero_le _, rfl, Lib.hid (by simp)⟩
  case round =>
    obtain ⟨k, hk, rfl, HO⟩ := hrel
    by_cases hlt : k < l.length
    · obtain ⟨x, hx⟩ : ∃ x, l[k]? = some x := ⟨_, List.getElem?_eq_getElem hlt⟩
      have cx := hc k x hx
      have HX := Lib.hid hx
      have HC := Lib.hid hc
      clear hx hc
      by_cases h0 : x = 0
      · subst h0
        go_wp2
        go_round
        case rel => exact ⟨k + 1, by omega, by go_num, Lib.hid (by rw [HO.out, orI_drop HX.out]; rfl)⟩
        case measure => simp [intOf]; omega
      · have hne : (x != 0) = true := by simpa using h0
        go_wp2
        go_ret
        exact ⟨ret_int (by rw [HO.out, orI_drop HX.out, if_neg h0]), rfl⟩
    · have HC := Lib.hid hc
      clear hc
      go_wp2
      go_ret
      exact ⟨ret_int (by rw [HO.out, List.drop_of_length_le (by omega)]; rfl), rfl⟩

def Ky.cmp (a b : Ky) : Int := orI [cmpI a.kind b.kind, cmpI a.a b.a, cmpI a.b b.b, Lib.compareBytes a.s.data.toList b.s.data.toList]

set_option maxRecDepth 100000 in
set_option maxHeartbeats 400000 in
theorem order_any (a b : Ky) (w : World) :
    Calls Try.prog 31 #[.agg #[.int .i64 a.kind, .int .i64 a.a, .int .i64 a.b, .string a.s], .agg #[.int .i64 b.kind, .int .i64 b.a, .int .i64 b.b, .string b.s]] w fun e w' => e = .returned (.int .i64 (a.cmp b)) ∧ Below w.heap.size w w' := by
  go_enter Try.func31, Try.ntmps31
  go_wp2
  refine wp_region_still_tail 20 (by kernel_rfl) (by kernel_rfl) ?_
  change wpStill _ _ (World.drew _) (fun a' => wpList _ _ _ _ a' (World.drew _)) _ _
  simp only [List.take_succ_cons, List.take_zero, List.drop_succ_cons, List.drop_zero]
  iterate 4 still_step
  still_call (cmpC_any _ _ _)
  iterate 4 still_step
  still_call (cmpC_any _ _ _)
  iterate 4 still_step
  still_call (cmpC_any _ _ _)
  iterate 4 still_step
  still_call (strCmp_any _ _ _)
  refine wpStill_nil ?_
  go_wp2_with fail
  refine (cmpOr_any (w.heap.size + 1 + 1) 4 [cmpI a.kind b.kind, cmpI a.a b.a, cmpI a.b b.b, Lib.compareBytes a.s.data.toList b.s.data.toList] _ (by simp) ?_).mono ?_
  · intro i x hx
    match i, hx with
    | 0, hx => simp at hx; subst hx; go_simp
    | 1, hx => simp at hx; subst hx; go_simp
    | 2, hx => simp at hx; subst hx; go_simp
    | 3, hx => simp at hx; subst hx; go_simp
  rintro e w' ⟨rfl, rfl⟩
  go_wp2
  go_ret
  exact ⟨rfl, ((((Below.refl _ _).alloc (Nat.le_refl _) _).alloc (by simp) _).alloc (by simp; omega) _).drew⟩

theorem quiet_same' {P : Program} {f : FuncId} {args : Array Value} {w : World} {v : Value} (h : Calls P f args w fun e w' => e = .returned v ∧ w' = w) : Quiet P f args w v :=
  h.mono fun _ _ ⟨h1, h2⟩ => ⟨h1, 0, h2⟩
theorem quiet_at3 {P : Program} {f : FuncId} {args : Array Value} {w : World} {a n : Nat} {v : Value} (h : Quiet P f args ((w.drewN a).drewN n) v) : Calls P f args ((w.drewN a).drewN n) fun e w'' => e = .returned v ∧ ∃ m, w'' = (w.drewN a).drewN m :=
  h.mono fun _ _ ⟨he, m, hm⟩ => ⟨he, n + m, by rw [hm]; simp [World.drewN_drewN, Nat.add_assoc]⟩
theorem drewN_ex2 (w : World) (a b : Nat) : ∃ m, (w.drewN a).drewN b = w.drewN m := ⟨a + b, by rw [World.drewN_drewN]⟩
theorem drewN_ex3 (w : World) (a b c : Nat) : ∃ m, ((w.drewN a).drewN b).drewN c = w.drewN m := ⟨a + b + c, by simp [World.drewN_drewN, Nat.add_assoc]⟩
theorem sign2_any (b : Bool) (w : World) : Calls Try.prog 103 #[.bool b] w fun e w' => e = .returned (.int .i64 (if b then -1 else 1)) ∧ w' = w := by
  cases b
  · go_enter Try.func103, Try.ntmps103
    go_wp2
    go_ret
    exact ⟨rfl, rfl⟩
  · go_enter Try.func103, Try.ntmps103
    go_wp2
    go_ret
    exact ⟨rfl, rfl⟩

theorem cmpB_same {a b : List UInt8} {k : Nat} (ha : k < a.length) (hb : k < b.length) (h : a[k] = b[k]) : Lib.compareBytes (a.drop k) (b.drop k) = Lib.compareBytes (a.drop (k + 1)) (b.drop (k + 1)) := by
  rw [List.drop_eq_getElem_cons ha, List.drop_eq_getElem_cons hb, h]
  simp [Lib.compareBytes]
theorem cmpB_diff {a b : List UInt8} {k : Nat} (ha : k < a.length) (hb : k < b.length) (h : a[k] ≠ b[k]) : Lib.compareBytes (a.drop k) (b.drop k) = if decide (((a[k].toNat : Nat) : Int) < ((b[k].toNat : Nat) : Int)) then -1 else 1 := by
  rw [List.drop_eq_getElem_cons ha, List.drop_eq_getElem_cons hb]
  unfold Lib.compareBytes
  have h1 : (a[k] < b[k]) ↔ ((a[k].toNat : Nat) : Int) < ((b[k].toNat : Nat) : Int) := by rw [UInt8.lt_iff_toNat_lt]; omega
  by_cases hl : a[k] < b[k]
  · rw [if_pos hl]; simp [h1.1 hl]
  · rw [if_neg hl, if_pos]
    · have : ¬ ((a[k].toNat : Nat) : Int) < ((b[k].toNat : Nat) : Int) := fun e => hl (h1.2 e)
      simp [this]
    · rw [UInt8.lt_iff_toNat_lt]
      have h2 : a[k].toNat ≠ b[k].toNat := fun e => h (UInt8.toNat_inj.1 e)
      have h3 : ¬ a[k].toNat < b[k].toNat := fun e => hl (UInt8.lt_iff_toNat_lt.2 e)
      omega

set_option maxHeartbeats 1000000 in
theorem r2order_any (a b : ByteArray) (w : World) (ha : a.size ≤ maxLen) :
    Calls Try.prog 75 #[.string a, .string b] w fun e w' => e = .returned (.int .i64 (Lib.compareBytes a.data.toList b.data.toList)) ∧ ∃ n, w' = w.drewN n := by
  unfold maxLen at ha
  go_enter Try.func75, Try.ntmps75
  go_wp2
  go_loopw [5] (fun i wr => ∃ k : Nat, k ≤ a.size ∧ k ≤ b.size ∧ i = .int .i64 k ∧ Hid (Lib.compareBytes a.data.toList b.data.toList = Lib.compareBytes (a.data.toList.drop k) (b.data.toList.drop k)) ∧ ∃ n, wr = w.drewN n) (fun i _ => a.size - (intOf i).toNat)
  case atStart => exact ⟨0, Nat.zero_le _, Nat.zero_le _, rfl, Lib.hid (by simp), 0, rfl⟩
  case round =>
    obtain ⟨k, hka, hkb, rfl, HO, n, rfl⟩ := hrel
    by_cases la : k < a.size
    · by_cases lb : k < b.size
      · have la' : k < a.data.toList.length := by simpa using la
        have lb' : k < b.data.toList.length := by simpa using lb
        by_cases e : a[k] = b[k]
        · have HE := Lib.hid (cmpB_same la' lb' e)
          have hne : ((a[k].toNat : Int) != (b[k].toNat : Int)) = false := by rw [e]; simp
          clear e
          go_wp2
          go_quiet (fail)
          go_wp2
          exact ⟨⟨k + 1, la, lb, by go_num, Lib.hid (by rw [HO.out, HE.out]), _, rfl⟩, by simp [intOf]; omega⟩
        · have hne : ((a[k].toNat : Int) != (b[k].toNat : Int)) = true := by
            have : a[k].toNat ≠ b[k].toNat := fun e' => e (UInt8.toNat_inj.1 e')
            simpa using fun e' => this (Int.ofNat_inj.1 e')
          have HE0 := cmpB_diff la' lb' e
          by_cases hd : a[k].toNat < b[k].toNat
          · have hd1 : decide (a[k].toNat < b[k].toNat) = true := by simpa using hd
            have HE : Hid (Lib.compareBytes (a.data.toList.drop k) (b.data.toList.drop k) = -1) := Lib.hid (by rw [HE0]; exact if_pos (decide_eq_true (Int.ofNat_lt.2 hd)))
            clear e HE0
            go_wp2
            go_quiet (fail)
            go_wp2
            go_quiet ((go_at_call 103; first | exact quiet_at2 (quiet_same' (sign2_any _ _)) | exact quiet_at (quiet_same' (sign2_any _ _)) | exact quiet_at3 (quiet_same' (sign2_any _ _))))
            go_wp2
            go_ret
            refine ⟨ret_int (by rw [HO.out, HE.out]), ?_⟩
            first | exact ⟨_, rfl⟩ | exact drewN_ex2 _ _ _ | exact drewN_ex3 _ _ _ _
          · have hd1 : decide (a[k].toNat < b[k].toNat) = false := by simpa using hd
            have HE : Hid (Lib.compareBytes (a.data.toList.drop k) (b.data.toList.drop k) = 1) := Lib.hid (by rw [HE0]; exact if_neg (fun h => hd (Int.ofNat_lt.1 (of_decide_eq_true h))))
            clear e HE0
            go_wp2
            go_quiet (fail)
            go_wp2
            go_quiet ((go_at_call 103; first | exact quiet_at2 (quiet_same' (sign2_any _ _)) | exact quiet_at (quiet_same' (sign2_any _ _)) | exact quiet_at3 (quiet_same' (sign2_any _ _))))
            go_wp2
            go_ret
            refine ⟨ret_int (by rw [HO.out, HE.out]), ?_⟩
            first | exact ⟨_, rfl⟩ | exact drewN_ex2 _ _ _ | exact drewN_ex3 _ _ _ _
      · obtain rfl : k = b.size := by omega
        have hne : ((a.size : Int) == (b.size : Int)) = false := by simp; omega
        have hlt : decide (a.size < b.size) = false := by simp; omega
        have hlt2 : decide ((a.size : Int) < (b.size : Int)) = false := by simp; omega
        have HE : Hid (Lib.compareBytes (a.data.toList.drop b.size) (b.data.toList.drop b.size) = 1) := Lib.hid (by
          rw [List.drop_eq_getElem_cons (show b.size < a.data.toList.length by simpa using la), List.drop_of_length_le (show b.data.toList.length ≤ b.size by simp)]; rfl)
        go_wp2_with (go_at_call 103; refine (sign2_any _ _).mono ?_; rintro e w' ⟨rfl, rfl⟩)
        go_ret
        exact ⟨ret_int (by rw [HO.out, HE.out]), _, rfl⟩
    · obtain rfl : k = a.size := by omega
      by_cases he : a.size = b.size
      · have hne : ((a.size : Int) == (b.size : Int)) = true := by simp; omega
        have HE : Hid (Lib.compareBytes (a.data.toList.drop a.size) (b.data.toList.drop a.size) = 0) := Lib.hid (by
          rw [List.drop_of_length_le (show a.data.toList.length ≤ a.size by simp), List.drop_of_length_le (show b.data.toList.length ≤ a.size by simp; omega)]; rfl)
        clear he
        go_wp2
        go_ret
        exact ⟨ret_int (by rw [HO.out, HE.out]), _, rfl⟩
      · have hne : ((a.size : Int) == (b.size : Int)) = false := by simp; omega
        have hlt : decide (a.size < b.size) = true := by simp; omega
        have hlt2 : decide ((a.size : Int) < (b.size : Int)) = true := by simp; omega
        have HE : Hid (Lib.compareBytes (a.data.toList.drop a.size) (b.data.toList.drop a.size) = -1) := Lib.hid (by
          rw [List.drop_of_length_le (show a.data.toList.length ≤ a.size by simp), List.drop_eq_getElem_cons (show a.size < b.data.toList.length by simp; omega)]; rfl)
        clear he
        go_wp2_with (go_at_call 103; refine (sign2_any _ _).mono ?_; rintro e w' ⟨rfl, rfl⟩)
        go_ret
        exact ⟨ret_int (by rw [HO.out, HE.out]), _, rfl⟩

theorem r9num_any (x y : Int) (w : World) : Calls Try.prog 74 #[.int .i64 x, .int .i64 y] w fun e w' => e = .returned (.int .i64 (cmpI x y)) ∧ w' = w := by
  unfold cmpI
  rcases Int.lt_trichotomy x y with h | h | h
  · rw [if_pos h]
    go_enter Try.func74, Try.ntmps74
    go_wp2
    go_ret
    exact ⟨rfl, rfl⟩
  · subst h
    rw [if_neg (by omega), if_neg (by omega)]
    have h1 : decide (x < x) = false := by simp
    go_enter Try.func74, Try.ntmps74
    go_wp2
    go_ret
    exact ⟨rfl, rfl⟩
  · have h' : ¬ x < y := by omega
    rw [if_neg h', if_pos h]
    go_enter Try.func74, Try.ntmps74
    go_wp2
    go_ret
    exact ⟨rfl, rfl⟩

theorem cmpI_ne {x y : Int} (h : x ≠ y) : cmpI x y ≠ 0 := by
  unfold cmpI
  split
  · decide
  · split
    · decide
    · omega
theorem cmpI_self (x : Int) : cmpI x x = 0 := by simp [cmpI]

set_option maxRecDepth 100000 in
set_option maxHeartbeats 400000 in
theorem r9order_any (a b : Ky) (w : World) (ha : a.s.size ≤ maxLen) :
    Calls Try.prog 32 #[.agg #[.int .i64 a.kind, .int .i64 a.a, .int .i64 a.b, .string a.s], .agg #[.int .i64 b.kind, .int .i64 b.a, .int .i64 b.b, .string b.s]] w fun e w' => e = .returned (.int .i64 (a.cmp b)) ∧ Below w.heap.size w w' := by
  by_cases h1 : a.kind = b.kind
  · by_cases h2 : a.a = b.a
    · by_cases h3 : a.b = b.b
      · have HC : Hid (a.cmp b = Lib.compareBytes a.s.data.toList b.s.data.toList) := Lib.hid (by simp [Ky.cmp, h1, h2, h3, cmpI_self, orI]; exact fun e => e.symm)
        have n1 : (a.kind != b.kind) = false := by simpa using h1
        have n2 : (a.a != b.a) = false := by simpa using h2
        have n3 : (a.b != b.b) = false := by simpa using h3
        clear h1 h2 h3
        go_enter Try.func32, Try.ntmps32
        go_wp2_with (go_at_call 75; refine (r2order_any _ _ _ ha).mono ?_; rintro e w' ⟨rfl, n, rfl⟩)
        go_ret
        exact ⟨ret_int (by rw [HC.out]), below_drewN (((Below.refl _ _).alloc (Nat.le_refl _) _).alloc (by simp) _) _⟩
      · have HC : Hid (a.cmp b = cmpI a.b b.b) := Lib.hid (by simp [Ky.cmp, h1, h2, cmpI_self, orI, cmpI_ne h3])
        have n1 : (a.kind != b.kind) = false := by simpa using h1
        have n2 : (a.a != b.a) = false := by simpa using h2
        have n3 : (a.b != b.b) = true := by simpa using h3
        clear h1 h2 h3
        go_enter Try.func32, Try.ntmps32
        go_wp2_with (go_at_call 74; refine (r9num_any _ _ _).mono ?_; rintro e w' ⟨rfl, rfl⟩)
        go_ret
        exact ⟨ret_int (by rw [HC.out]), ((Below.refl _ _).alloc (Nat.le_refl _) _).alloc (by simp) _⟩
    · have HC : Hid (a.cmp b = cmpI a.a b.a) := Lib.hid (by simp [Ky.cmp, h1, cmpI_self, orI, cmpI_ne h2])
      have n1 : (a.kind != b.kind) = false := by simpa using h1
      have n2 : (a.a != b.a) = true := by simpa using h2
      clear h1 h2
      go_enter Try.func32, Try.ntmps32
      go_wp2_with (go_at_call 74; refine (r9num_any _ _ _).mono ?_; rintro e w' ⟨rfl, rfl⟩)
      go_ret
      exact ⟨ret_int (by rw [HC.out]), ((Below.refl _ _).alloc (Nat.le_refl _) _).alloc (by simp) _⟩
  · have HC : Hid (a.cmp b = cmpI a.kind b.kind) := Lib.hid (by simp [Ky.cmp, orI, cmpI_ne h1])
    have n1 : (a.kind != b.kind) = true := by simpa using h1
    clear h1
    go_enter Try.func32, Try.ntmps32
    go_wp2_with (go_at_call 74; refine (r9num_any _ _ _).mono ?_; rintro e w' ⟨rfl, rfl⟩)
    go_ret
    exact ⟨ret_int (by rw [HC.out]), ((Below.refl _ _).alloc (Nat.le_refl _) _).alloc (by simp) _⟩
end Go.Proofs.Ytfkckdfldalceaa
