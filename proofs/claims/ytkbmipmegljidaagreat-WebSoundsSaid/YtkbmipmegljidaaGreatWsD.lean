/- The order of keys: cell.Order and what it calls. Conditions: each contract's own premises. The order of keys is an order: plain facts. No program here beyond the plain keys. -/
import Derived.Test.YtkbmipmegljidaaGreatWb4
import Derived.Test.YtkbmipmegljidaaGreatWsC
import Derived.Lib.Bytealg
import Derived.LoopTactic
namespace Go.Proofs.YtkbmipmegljidaaGreat
open Go.RowKit Go.Maps

set_option maxRecDepth 100000 in
theorem compareString_any (a b : ByteArray) (w : World) :
    Calls Tryz.prog 159 #[.string a, .string b] w fun e w' => e = .returned (.int .i64 (Lib.compareBytes a.data.toList b.data.toList)) ∧ w' = w := by
  go_enter Tryz.func159, Tryz.ntmps159
  go_wp2
  rw [run_callFunc_extern Tryz.func174 (by kernel_rfl) (by kernel_rfl) (by kernel_rfl) (e := Extern.BytealgCompare.compare) (by kernel_rfl), Lib.run_compareString]
  simp only [Result.andThen]
  rw [Oper.upon_value]
  go_wp2
  go_ret
  exact ⟨rfl, rfl⟩
theorem strCmp_any (a b : ByteArray) (w : World) :
    Calls Tryz.prog 124 #[.string a, .string b] w fun e w' => e = .returned (.int .i64 (Lib.compareBytes a.data.toList b.data.toList)) ∧ w' = w := by
  go_enter Tryz.func124, Tryz.ntmps124
  go_wp2_with (go_at_call 159; refine (compareString_any _ _ _).mono ?_; rintro e w' ⟨rfl, rfl⟩)
  go_ret
  exact ⟨rfl, rfl⟩

theorem isNaN_any (x : Int) (w : World) : Calls Tryz.prog 158 #[.int .i64 x] w fun e w' => e = .returned (.bool false) ∧ w' = w := by
  go_enter Tryz.func158, Tryz.ntmps158
  go_wp2
  go_ret
  exact ⟨by simp, rfl⟩
theorem cmpC_any (x y : Int) (w : World) : Calls Tryz.prog 123 #[.int .i64 x, .int .i64 y] w fun e w' => e = .returned (.int .i64 (cmpI x y)) ∧ w' = w := by
  unfold cmpI
  rcases Int.lt_trichotomy x y with h | h | h
  · rw [if_pos h]
    go_enter Tryz.func123, Tryz.ntmps123
    go_wp2_with (go_at_call 158; refine (isNaN_any _ _).mono ?_; rintro e w' ⟨rfl, rfl⟩)
    go_ret
    exact ⟨rfl, rfl⟩
  · subst h
    rw [if_neg (by omega), if_neg (by omega)]
    have h1 : decide (x < x) = false := by simp
    go_enter Tryz.func123, Tryz.ntmps123
    go_wp2_with (go_at_call 158; refine (isNaN_any _ _).mono ?_; rintro e w' ⟨rfl, rfl⟩)
    go_ret
    exact ⟨rfl, rfl⟩
  · have h' : ¬ x < y := by omega
    rw [if_neg h', if_pos h]
    go_enter Tryz.func123, Tryz.ntmps123
    go_wp2_with (go_at_call 158; refine (isNaN_any _ _).mono ?_; rintro e w' ⟨rfl, rfl⟩)
    go_ret
    exact ⟨rfl, rfl⟩

/-- the first that isn't 0 -/
def orI : List Int → Int
  | [] => 0
  | x :: l => if x = 0 then orI l else x
theorem orI_drop {l : List Int} {k : Nat} {x : Int} (h : l[k]? = some x) : orI (l.drop k) = if x = 0 then orI (l.drop (k + 1)) else x := by
  obtain ⟨hk, rfl⟩ := List.getElem?_eq_some_iff.1 h
  rw [List.drop_eq_getElem_cons hk]
  rfl
set_option maxHeartbeats 400000 in
theorem cmpOr_any (b cap : Nat) (l : List Int) (w : World) (hl : l.length ≤ 1000) (hc : ∀ i x, l[i]? = some x → w.cell? ⟨b, i, none⟩ = some (.int .i64 x)) :
    Calls Tryz.prog 122 #[.slice (some ⟨b, 0, none⟩) l.length cap] w fun e w' => e = .returned (.int .i64 (orI l)) ∧ w' = w := by
  go_enter Tryz.func122, Tryz.ntmps122
  go_wp2
  go_loop [8] (fun i => ∃ k : Nat, k ≤ l.length ∧ i = .int .i64 k ∧ Hid (orI l = orI (l.drop k))) (fun i => l.length - (intOf i).toNat)
  case atStart => exact ⟨0, Nat.zero_le _, rfl, Lib.hid (by simp)⟩
  case round =>
    obtain ⟨k, hk, rfl, HO⟩ := hrel
    by_cases hlt : k < l.length
    · obtain ⟨x, hx⟩ : ∃ x, l[k]? = some x := ⟨_, List.getElem?_eq_getElem hlt⟩
      have cx := hc k x hx
      have HX := Lib.hid hx
      have HC := Lib.hid hc
      clear hx hc
      by_cases h0 : x = 0
      · subst h0
        go_wp2
        go_round
        case rel => exact ⟨k + 1, by omega, by go_num, Lib.hid (by rw [HO.out, orI_drop HX.out]; rfl)⟩
        case measure => simp [intOf]; omega
      · have hne : (x != 0) = true := by simpa using h0
        go_wp2
        go_ret
        exact ⟨ret_int (by rw [HO.out, orI_drop HX.out, if_neg h0]), rfl⟩
    · have HC := Lib.hid hc
      clear hc
      go_wp2
      go_ret
      exact ⟨ret_int (by rw [HO.out, List.drop_of_length_le (by omega)]; rfl), rfl⟩

def Ky.cmp (a b : Ky) : Int := orI [cmpI a.kind b.kind, cmpI a.a b.a, cmpI a.b b.b, Lib.compareBytes a.s.data.toList b.s.data.toList]

set_option maxRecDepth 100000 in
set_option maxHeartbeats 400000 in
theorem order_any (a b : Ky) (w : World) :
    Calls Tryz.prog 93 #[.agg #[.int .i64 a.kind, .int .i64 a.a, .int .i64 a.b, .string a.s], .agg #[.int .i64 b.kind, .int .i64 b.a, .int .i64 b.b, .string b.s]] w fun e w' => e = .returned (.int .i64 (a.cmp b)) ∧ Below w.heap.size w w' := by
  go_enter Tryz.func93, Tryz.ntmps93
  go_wp2
  refine wp_region_still_tail 20 (by kernel_rfl) (by kernel_rfl) ?_
  change wpStill _ _ (World.drew _) (fun a' => wpList _ _ _ _ a' (World.drew _)) _ _
  simp only [List.take_succ_cons, List.take_zero, List.drop_succ_cons, List.drop_zero]
  iterate 4 still_step
  still_call (cmpC_any _ _ _)
  iterate 4 still_step
  still_call (cmpC_any _ _ _)
  iterate 4 still_step
  still_call (cmpC_any _ _ _)
  iterate 4 still_step
  still_call (strCmp_any _ _ _)
  refine wpStill_nil ?_
  go_wp2_with fail
  refine (cmpOr_any (w.heap.size + 1 + 1) 4 [cmpI a.kind b.kind, cmpI a.a b.a, cmpI a.b b.b, Lib.compareBytes a.s.data.toList b.s.data.toList] _ (by simp) ?_).mono ?_
  · intro i x hx
    match i, hx with
    | 0, hx => simp at hx; subst hx; go_simp
    | 1, hx => simp at hx; subst hx; go_simp
    | 2, hx => simp at hx; subst hx; go_simp
    | 3, hx => simp at hx; subst hx; go_simp
  rintro e w' ⟨rfl, rfl⟩
  go_wp2
  go_ret
  exact ⟨rfl, ((((Below.refl _ _).alloc (Nat.le_refl _) _).alloc (by simp) _).alloc (by simp; omega) _).drew⟩

theorem cmpI_ne {x y : Int} (h : x ≠ y) : cmpI x y ≠ 0 := by
  unfold cmpI
  split
  · decide
  · split
    · decide
    · omega
theorem cmpI_self (x : Int) : cmpI x x = 0 := by simp [cmpI]

end Go.Proofs.YtkbmipmegljidaaGreat
namespace Go.Proofs.YtkbmipmegljidaaGreat
open Go.RowKit Go.Maps

theorem cmpI_neg (x y : Int) : cmpI y x = - cmpI x y := by
  unfold cmpI
  rcases Int.lt_trichotomy x y with h | h | h
  · rw [if_neg (by omega), if_pos h, if_pos h]; rfl
  · subst h; simp
  · rw [if_pos h, if_neg (by omega), if_pos h]
theorem cmpI_zero {x y : Int} : cmpI x y = 0 ↔ x = y := ⟨fun h => Classical.byContradiction fun n => cmpI_ne n h, fun h => by rw [h, cmpI_self]⟩
theorem cmpI_le {x y : Int} : cmpI x y ≤ 0 ↔ x ≤ y := by
  unfold cmpI
  rcases Int.lt_trichotomy x y with h | h | h
  · rw [if_pos h]; omega
  · subst h; simp
  · rw [if_neg (by omega), if_pos h]; omega
theorem cmpB_neg : ∀ (a b : List UInt8), Lib.compareBytes b a = - Lib.compareBytes a b
  | [], [] => rfl
  | [], _ :: _ => rfl
  | _ :: _, [] => rfl
  | x :: a, y :: b => by
    unfold Lib.compareBytes
    have ih := cmpB_neg a b
    have hx : x < y ↔ x.toNat < y.toNat := UInt8.lt_iff_toNat_lt
    have hy : y < x ↔ y.toNat < x.toNat := UInt8.lt_iff_toNat_lt
    by_cases h1 : x < y
    · have h2 : ¬ y < x := by rw [hy]; rw [hx] at h1; omega
      rw [if_neg h2, if_pos h1, if_pos h1]; rfl
    · by_cases h2 : y < x
      · rw [if_pos h2, if_neg h1, if_pos h2]
      · rw [if_neg h2, if_neg h1, if_neg h1, if_neg h2, ih]
theorem cmpB_zero : ∀ {a b : List UInt8}, Lib.compareBytes a b = 0 ↔ a = b
  | [], [] => by simp [Lib.compareBytes]
  | [], _ :: _ => by simp [Lib.compareBytes]
  | _ :: _, [] => by simp [Lib.compareBytes]
  | x :: a, y :: b => by
    unfold Lib.compareBytes
    have hx : x < y ↔ x.toNat < y.toNat := UInt8.lt_iff_toNat_lt
    have hy : y < x ↔ y.toNat < x.toNat := UInt8.lt_iff_toNat_lt
    have he : x = y ↔ x.toNat = y.toNat := UInt8.toNat_inj.symm
    rw [List.cons.injEq, he]
    by_cases h1 : x < y
    · rw [if_pos h1]; rw [hx] at h1; constructor
      · intro h; cases h
      · intro h; omega
    · rw [if_neg h1]
      by_cases h2 : y < x
      · rw [if_pos h2]; rw [hy] at h2; constructor
        · intro h; cases h
        · intro h; omega
      · rw [if_neg h2, cmpB_zero]
        rw [hx] at h1; rw [hy] at h2
        constructor
        · intro h; exact ⟨by omega, h⟩
        · intro h; exact h.2
theorem cmpB_trans : ∀ {a b c : List UInt8}, Lib.compareBytes a b ≤ 0 → Lib.compareBytes b c ≤ 0 → Lib.compareBytes a c ≤ 0
  | [], _, [], _, _ => by simp [Lib.compareBytes]
  | [], _, _ :: _, _, _ => by simp [Lib.compareBytes]
  | _ :: _, [], _, h, _ => by simp [Lib.compareBytes] at h
  | _ :: _, _ :: _, [], _, h => by simp [Lib.compareBytes] at h
  | x :: a, y :: b, z :: c, h, k => by
    unfold Lib.compareBytes at *
    have h1 : x < y ↔ x.toNat < y.toNat := UInt8.lt_iff_toNat_lt
    have h2 : y < x ↔ y.toNat < x.toNat := UInt8.lt_iff_toNat_lt
    have h3 : y < z ↔ y.toNat < z.toNat := UInt8.lt_iff_toNat_lt
    have h4 : z < y ↔ z.toNat < y.toNat := UInt8.lt_iff_toNat_lt
    have h5 : x < z ↔ x.toNat < z.toNat := UInt8.lt_iff_toNat_lt
    have h6 : z < x ↔ z.toNat < x.toNat := UInt8.lt_iff_toNat_lt
    by_cases e1 : x.toNat < y.toNat
    · by_cases e2 : z.toNat < y.toNat
      · rw [if_neg (mt h3.1 (by omega)), if_pos (h4.2 e2)] at k; omega
      · rw [if_pos (h5.2 (by omega))]; decide
    · rw [if_neg (mt h1.1 e1)] at h
      by_cases e2 : y.toNat < x.toNat
      · rw [if_pos (h2.2 e2)] at h; omega
      · rw [if_neg (mt h2.1 e2)] at h
        by_cases e3 : y.toNat < z.toNat
        · rw [if_pos (h5.2 (by omega))]; decide
        · rw [if_neg (mt h3.1 e3)] at k
          by_cases e4 : z.toNat < y.toNat
          · rw [if_pos (h4.2 e4)] at k; omega
          · rw [if_neg (mt h4.1 e4)] at k
            rw [if_neg (mt h5.1 (by omega)), if_neg (mt h6.1 (by omega))]
            exact cmpB_trans h k

theorem or4 (p q r s : Int) : orI [p, q, r, s] = if p = 0 then (if q = 0 then (if r = 0 then s else r) else q) else p := by
  unfold orI
  split
  · unfold orI
    split
    · unfold orI
      split
      · unfold orI; split
        · rename_i h; rw [h]; rfl
        · rfl
      · rfl
    · rfl
  · rfl
theorem Ky.cmp_neg (a b : Ky) : b.cmp a = - a.cmp b := by
  unfold Ky.cmp
  rw [or4, or4, cmpI_neg a.kind, cmpI_neg a.a, cmpI_neg a.b, cmpB_neg a.s.data.toList]
  simp only [Int.neg_eq_zero]
  split
  · split
    · split <;> rfl
    · rfl
  · rfl
theorem Ky.cmp_zero (a b : Ky) : a.cmp b = 0 ↔ a = b := by
  unfold Ky.cmp
  rw [or4]
  constructor
  · intro h
    split at h
    · split at h
      · split at h
        · rename_i h1 h2 h3
          obtain ⟨k, x, y, s⟩ := a
          obtain ⟨k', x', y', s'⟩ := b
          have e1 := cmpI_zero.1 h1
          have e2 := cmpI_zero.1 h2
          have e3 := cmpI_zero.1 h3
          have e4 := cmpB_zero.1 h
          dsimp only at e1 e2 e3 e4
          have e5 : s = s' := by
            cases s; cases s'
            congr 1
            exact Array.toList_inj.1 e4
          subst e1 e2 e3 e5
          rfl
        · rename_i h3; exact absurd h h3
      · rename_i h2; exact absurd h h2
    · rename_i h1; exact absurd h h1
  · intro h
    subst h
    simp [cmpI_self, cmpB_zero]
theorem Ky.cmp_trans (a b c : Ky) (h : a.cmp b ≤ 0) (k : b.cmp c ≤ 0) : a.cmp c ≤ 0 := by
  unfold Ky.cmp at *
  rw [or4] at *
  by_cases e1 : a.kind = b.kind
  · by_cases f1 : b.kind = c.kind
    · rw [if_pos (cmpI_zero.2 e1)] at h
      rw [if_pos (cmpI_zero.2 f1)] at k
      rw [if_pos (cmpI_zero.2 (e1.trans f1))]
      by_cases e2 : a.a = b.a
      · by_cases f2 : b.a = c.a
        · rw [if_pos (cmpI_zero.2 e2)] at h
          rw [if_pos (cmpI_zero.2 f2)] at k
          rw [if_pos (cmpI_zero.2 (e2.trans f2))]
          by_cases e3 : a.b = b.b
          · by_cases f3 : b.b = c.b
            · rw [if_pos (cmpI_zero.2 e3)] at h
              rw [if_pos (cmpI_zero.2 f3)] at k
              rw [if_pos (cmpI_zero.2 (e3.trans f3))]
              exact cmpB_trans h k
            · rw [if_neg (cmpI_ne f3), cmpI_le] at k
              rw [if_neg (cmpI_ne (by omega)), cmpI_le]; omega
          · rw [if_neg (cmpI_ne e3), cmpI_le] at h
            by_cases f3 : b.b = c.b
            · rw [if_neg (cmpI_ne (by omega)), cmpI_le]; omega
            · rw [if_neg (cmpI_ne f3), cmpI_le] at k
              rw [if_neg (cmpI_ne (by omega)), cmpI_le]; omega
        · rw [if_neg (cmpI_ne f2), cmpI_le] at k
          rw [if_neg (cmpI_ne (by omega)), cmpI_le]; omega
      · rw [if_neg (cmpI_ne e2), cmpI_le] at h
        by_cases f2 : b.a = c.a
        · rw [if_neg (cmpI_ne (by omega)), cmpI_le]; omega
        · rw [if_neg (cmpI_ne f2), cmpI_le] at k
          rw [if_neg (cmpI_ne (by omega)), cmpI_le]; omega
    · rw [if_neg (cmpI_ne f1), cmpI_le] at k
      rw [if_neg (cmpI_ne (by omega)), cmpI_le]; omega
  · rw [if_neg (cmpI_ne e1), cmpI_le] at h
    by_cases f1 : b.kind = c.kind
    · rw [if_neg (cmpI_ne (by omega)), cmpI_le]; omega
    · rw [if_neg (cmpI_ne f1), cmpI_le] at k
      rw [if_neg (cmpI_ne (by omega)), cmpI_le]; omega
end Go.Proofs.YtkbmipmegljidaaGreat
