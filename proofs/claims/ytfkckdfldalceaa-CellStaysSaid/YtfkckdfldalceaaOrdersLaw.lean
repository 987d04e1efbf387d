/- CellOrders: the walk. Conditions: the theorem's own premises. -/
import Derived.Test.YtfkckdfldalceaaOrdPlain
import Derived.Test.YtfkckdfldalceaaAwake9
import Derived.Test.YtfkckdfldalceaaKyMem
import Derived.Deep.RegionHeld3
namespace Go.Proofs.Ytfkckdfldalceaa
open Go.RowKit Go.Maps

/-- are two keys one? -/
def Ky.eqB (a b : Ky) : Bool := a.kind == b.kind && (a.a == b.a && (a.b == b.b && a.s.toList == b.s.toList))
theorem Ky.eqB_iff (a b : Ky) : a.eqB b = true ↔ a = b := by
  unfold Ky.eqB
  cases a; cases b
  simp [ByteArray.toList_eq]
  intro _ _ _
  rw [ByteArray.ext_iff]
theorem eqKy (a b : Ky) (w : World) : (binOp .eql 56 (.agg #[.int .i64 a.kind, .int .i64 a.a, .int .i64 a.b, .string a.s]) (.agg #[.int .i64 b.kind, .int .i64 b.a, .int .i64 b.b, .string b.s])).run Try.prog w = .ok (.bool (a.eqB b)) w := by
  unfold Ky.eqB
  cases h1 : (a.kind == b.kind) <;> cases h2 : (a.a == b.a) <;> cases h3 : (a.b == b.b) <;> cases h4 : (a.s.toList == b.s.toList) <;> go_simp
set_option maxRecDepth 100000 in
set_option maxHeartbeats 1000000 in
theorem orders_all (a b c : Ky) (w : World) (ha : a.Ok) (l1 : a.s.size ≤ 500) (l2 : b.s.size ≤ 500) (l3 : c.s.size ≤ 500) :
    Calls Try.prog 7 #[.agg #[.int .i64 a.kind, .int .i64 a.a, .int .i64 a.b, .string a.s], .agg #[.int .i64 b.kind, .int .i64 b.a, .int .i64 b.b, .string b.s], .agg #[.int .i64 c.kind, .int .i64 c.a, .int .i64 c.b, .string c.s]] w fun e w' => e = .returned (.bool true) ∧ Below w.heap.size w w' := by
  go_enter Try.func7, Try.ntmps7
  go_wp2_with fail
  refine (awake9_any _).mono ?_
  rintro e w1 ⟨rfl, hb1⟩
  obtain ⟨W, hW⟩ : ∃ W : World, W = w1 := ⟨_, rfl⟩
  subst hW
  have hz := hb1.size
  simp at hz
  have A0 : W.heap[w.heap.size]? = some (.cells #[.int .i64 a.kind, .int .i64 a.a, .int .i64 a.b, .string a.s] 56) := by
    rw [hb1.block _ (by simp; omega), Below.heap_alloc _ _ _ (by simp; omega), Below.heap_alloc _ _ _ (by simp)]; exact heap_new w _
  have B0 : W.heap[w.heap.size + 1]? = some (.cells #[.int .i64 b.kind, .int .i64 b.a, .int .i64 b.b, .string b.s] 56) := by
    rw [hb1.block _ (by simp), Below.heap_alloc _ _ _ (by simp)]
    have := heap_new (w.alloc (.cells #[.int .i64 a.kind, .int .i64 a.a, .int .i64 a.b, .string a.s] 56)) (.cells #[.int .i64 b.kind, .int .i64 b.a, .int .i64 b.b, .string b.s] 56)
    rw [size_alloc] at this; exact this
  have C0 : W.heap[w.heap.size + 1 + 1]? = some (.cells #[.int .i64 c.kind, .int .i64 c.a, .int .i64 c.b, .string c.s] 56) := by
    rw [hb1.block _ (by simp)]
    have := heap_new ((w.alloc (.cells #[.int .i64 a.kind, .int .i64 a.a, .int .i64 a.b, .string a.s] 56)).alloc (.cells #[.int .i64 b.kind, .int .i64 b.a, .int .i64 b.b, .string b.s] 56)) (.cells #[.int .i64 c.kind, .int .i64 c.a, .int .i64 c.b, .string c.s] 56)
    rw [size_alloc, size_alloc] at this; exact this
  have a0 := cell_of_blk A0 0
  have a1 := cell_of_blk A0 1
  have a2 := cell_of_blk A0 2
  have a3 := cell_of_blk A0 3
  have b0 := cell_of_blk B0 0
  have b1 := cell_of_blk B0 1
  have b2 := cell_of_blk B0 2
  have b3 := cell_of_blk B0 3
  have d0 := cell_of_blk C0 0
  have d1 := cell_of_blk C0 1
  have d2 := cell_of_blk C0 2
  have d3 := cell_of_blk C0 3
  simp at a0 a1 a2 a3 b0 b1 b2 b3 d0 d1 d2 d3
  go_wp2_with fail
  have la := (Array.getElem?_eq_some_iff.1 A0).1
  have lb := (Array.getElem?_eq_some_iff.1 B0).1
  have lc := (Array.getElem?_eq_some_iff.1 C0).1
  have ks : ∀ w', Below W.heap.size W w' → Below W.heap.size W w' ∧ w'.cell? ⟨w.heap.size, 0, none⟩ = some (.int .i64 a.kind) ∧ w'.cell? ⟨w.heap.size, 1, none⟩ = some (.int .i64 a.a) ∧ w'.cell? ⟨w.heap.size, 2, none⟩ = some (.int .i64 a.b) ∧ w'.cell? ⟨w.heap.size, 3, none⟩ = some (.string a.s) ∧ w'.cell? ⟨w.heap.size + 1, 0, none⟩ = some (.int .i64 b.kind) ∧ w'.cell? ⟨w.heap.size + 1, 1, none⟩ = some (.int .i64 b.a) ∧ w'.cell? ⟨w.heap.size + 1, 2, none⟩ = some (.int .i64 b.b) ∧ w'.cell? ⟨w.heap.size + 1, 3, none⟩ = some (.string b.s) ∧ w'.cell? ⟨w.heap.size + 1 + 1, 0, none⟩ = some (.int .i64 c.kind) ∧ w'.cell? ⟨w.heap.size + 1 + 1, 1, none⟩ = some (.int .i64 c.a) ∧ w'.cell? ⟨w.heap.size + 1 + 1, 2, none⟩ = some (.int .i64 c.b) ∧ w'.cell? ⟨w.heap.size + 1 + 1, 3, none⟩ = some (.string c.s) := fun w' hb => ⟨hb, below_cell hb 0 la a0, below_cell hb 1 la a1, below_cell hb 2 la a2, below_cell hb 3 la a3, below_cell hb 0 lb b0, below_cell hb 1 lb b1, below_cell hb 2 lb b2, below_cell hb 3 lb b3, below_cell hb 0 lc d0, below_cell hb 1 lc d1, below_cell hb 2 lc d2, below_cell hb 3 lc d3⟩
  have KS := Lib.hid ks
  clear ks a0 a1 a2 a3 b0 b1 b2 b3 d0 d1 d2 d3 A0 B0 C0
  go_region_held3 (fun w' => Below W.heap.size W w' ∧ w'.cell? ⟨w.heap.size, 0, none⟩ = some (.int .i64 a.kind) ∧ w'.cell? ⟨w.heap.size, 1, none⟩ = some (.int .i64 a.a) ∧ w'.cell? ⟨w.heap.size, 2, none⟩ = some (.int .i64 a.b) ∧ w'.cell? ⟨w.heap.size, 3, none⟩ = some (.string a.s) ∧ w'.cell? ⟨w.heap.size + 1, 0, none⟩ = some (.int .i64 b.kind) ∧ w'.cell? ⟨w.heap.size + 1, 1, none⟩ = some (.int .i64 b.a) ∧ w'.cell? ⟨w.heap.size + 1, 2, none⟩ = some (.int .i64 b.b) ∧ w'.cell? ⟨w.heap.size + 1, 3, none⟩ = some (.string b.s) ∧ w'.cell? ⟨w.heap.size + 1 + 1, 0, none⟩ = some (.int .i64 c.kind) ∧ w'.cell? ⟨w.heap.size + 1 + 1, 1, none⟩ = some (.int .i64 c.a) ∧ w'.cell? ⟨w.heap.size + 1 + 1, 2, none⟩ = some (.int .i64 c.b) ∧ w'.cell? ⟨w.heap.size + 1 + 1, 3, none⟩ = some (.string c.s))
    (first | exact KS.out _ (Below.refl _ _).drew | (go_split_ands; refine KS.out _ (below_then ?_ hbc); assumption))
    ((go_at_call 31; (with_reducible refine (order_any _ _ _).mono ?_); rintro e wc ⟨rfl, hbc⟩))
  go_split_ands
  obtain ⟨X, hX⟩ : ∃ X, a.cmp b = X := ⟨_, rfl⟩
  obtain ⟨Y, hY⟩ : ∃ Y, b.cmp c = Y := ⟨_, rfl⟩
  obtain ⟨Z, hZ⟩ : ∃ Z, a.cmp c = Z := ⟨_, rfl⟩
  have hN : b.cmp a = - X := by rw [← hX]; exact Ky.cmp_neg a b
  have hx0 : (X == 0) = a.eqB b := by rw [← hX, Bool.eq_iff_iff]; simp [Ky.cmp_zero, Ky.eqB_iff]
  have hT : X ≤ 0 → Y ≤ 0 → Z ≤ 0 := by rw [← hX, ← hY, ← hZ]; exact Ky.cmp_trans a b c
  obtain ⟨r1, r2⟩ := Ky.cmp_range a b
  rw [hX] at r1 r2
  have hE := eqKy a b
  generalize a.eqB b = E at hE hx0
  rw [hX, hY, hZ]
  have HX := Lib.hid hX
  have HN := Lib.hid hN
  clear hX hY hZ hN
  go_wp2_with fail
  (with_reducible refine (r9order_any _ _ _ ha.s).mono ?_)
  rintro e wd ⟨rfl, hbd⟩
  rw [HX.out]
  have kd := KS.out _ (below_then (by assumption) hbd)
  clear hbd
  obtain ⟨Wd, hWd⟩ : ∃ Wd : World, Wd = wd := ⟨_, rfl⟩
  subst hWd
  go_split_ands
  go_wp2_with fail
  (with_reducible refine (order_any _ _ _).mono ?_)
  rintro e we ⟨rfl, hbe⟩
  rw [HN.out]
  have ke := KS.out _ (below_then (by assumption) hbe)
  clear hbe
  obtain ⟨We, hWe⟩ : ∃ We : World, We = we := ⟨_, rfl⟩
  subst hWe
  obtain ⟨hBe, ke⟩ := ke
  go_split_ands
  have hfin : Below w.heap.size w We := ((((Below.refl w.heap.size w).alloc (Nat.le_refl _) _).alloc (by simp) _).alloc (by simp; omega) _).trans ((hb1.mono (by simp; omega)).trans (hBe.mono (by omega)))
  by_cases hx : X ≤ 0
  · by_cases hy : Y ≤ 0
    · have hZ0 := hT hx hy
      clear hT
      go_wp2_with fail
      go_ret
      exact ⟨rfl, hfin⟩
    · clear hT
      go_wp2_with fail
      go_ret
      exact ⟨rfl, hfin⟩
  · clear hT
    go_wp2_with fail
    go_ret
    exact ⟨rfl, hfin⟩

theorem box3 (w : World) (A B C : Obj) {W : World} (h : Below (((w.alloc A).alloc B).alloc C).heap.size (((w.alloc A).alloc B).alloc C) W) : Below w.heap.size w W :=
  ((((Below.refl w.heap.size w).alloc (Nat.le_refl _) _).alloc (by simp) _).alloc (by simp; omega) _).trans (h.mono (by simp; omega))
set_option maxRecDepth 100000 in
set_option maxHeartbeats 1000000 in
theorem orders_long (a b c : Ky) (w : World) (ha : a.Ok) (hb : b.Ok) (hc : c.Ok) (h : 500 < a.s.size ∨ 500 < b.s.size ∨ 500 < c.s.size) :
    Calls Try.prog 7 #[.agg #[.int .i64 a.kind, .int .i64 a.a, .int .i64 a.b, .string a.s], .agg #[.int .i64 b.kind, .int .i64 b.a, .int .i64 b.b, .string b.s], .agg #[.int .i64 c.kind, .int .i64 c.a, .int .i64 c.b, .string c.s]] w fun e w' => e = .returned (.bool true) ∧ Below w.heap.size w w' := by
  go_enter Try.func7, Try.ntmps7
  go_wp2_with fail
  refine (awake9_any _).mono ?_
  rintro e w1 ⟨rfl, hb1⟩
  obtain ⟨W, hW⟩ : ∃ W : World, W = w1 := ⟨_, rfl⟩
  subst hW
  have hz := hb1.size
  simp at hz
  have hB := box3 w _ _ _ hb1
  have A0 : W.heap[w.heap.size]? = some (.cells #[.int .i64 a.kind, .int .i64 a.a, .int .i64 a.b, .string a.s] 56) := by
    rw [hb1.block _ (by simp; omega), Below.heap_alloc _ _ _ (by simp; omega), Below.heap_alloc _ _ _ (by simp)]; exact heap_new w _
  have B0 : W.heap[w.heap.size + 1]? = some (.cells #[.int .i64 b.kind, .int .i64 b.a, .int .i64 b.b, .string b.s] 56) := by
    rw [hb1.block _ (by simp), Below.heap_alloc _ _ _ (by simp)]
    have := heap_new (w.alloc (.cells #[.int .i64 a.kind, .int .i64 a.a, .int .i64 a.b, .string a.s] 56)) (.cells #[.int .i64 b.kind, .int .i64 b.a, .int .i64 b.b, .string b.s] 56)
    rw [size_alloc] at this; exact this
  have C0 : W.heap[w.heap.size + 1 + 1]? = some (.cells #[.int .i64 c.kind, .int .i64 c.a, .int .i64 c.b, .string c.s] 56) := by
    rw [hb1.block _ (by simp)]
    have := heap_new ((w.alloc (.cells #[.int .i64 a.kind, .int .i64 a.a, .int .i64 a.b, .string a.s] 56)).alloc (.cells #[.int .i64 b.kind, .int .i64 b.a, .int .i64 b.b, .string b.s] 56)) (.cells #[.int .i64 c.kind, .int .i64 c.a, .int .i64 c.b, .string c.s] 56)
    rw [size_alloc, size_alloc] at this; exact this
  have a3 := cell_of_blk A0 3
  have b3 := cell_of_blk B0 3
  have d3 := cell_of_blk C0 3
  simp at a3 b3 d3
  have h1 := ha.s
  have h2 := hb.s
  have h3 := hc.s
  unfold maxLen at h1 h2 h3
  clear hb1 A0 B0 C0 ha hb hc
  by_cases g1 : a.s.size ≤ 500
  · by_cases g2 : b.s.size ≤ 500
    · have g3 : 500 < c.s.size := by omega
      clear h
      go_wp2_with fail
      refine (awake9_any _).mono ?_
      rintro e w2 ⟨rfl, hb2⟩
      go_wp2_with fail
      go_ret
      exact ⟨rfl, below_then hB hb2⟩
    · clear h
      go_wp2_with fail
      refine (awake9_any _).mono ?_
      rintro e w2 ⟨rfl, hb2⟩
      go_wp2_with fail
      go_ret
      exact ⟨rfl, below_then hB hb2⟩
  · clear h
    go_wp2_with fail
    refine (awake9_any _).mono ?_
    rintro e w2 ⟨rfl, hb2⟩
    go_wp2_with fail
    go_ret
    exact ⟨rfl, below_then hB hb2⟩

theorem orders_any (a b c : Ky) (w : World) (ha : a.Ok) (hb : b.Ok) (hc : c.Ok) :
    Calls Try.prog 7 #[.agg #[.int .i64 a.kind, .int .i64 a.a, .int .i64 a.b, .string a.s], .agg #[.int .i64 b.kind, .int .i64 b.a, .int .i64 b.b, .string b.s], .agg #[.int .i64 c.kind, .int .i64 c.a, .int .i64 c.b, .string c.s]] w fun e w' => e = .returned (.bool true) ∧ Below w.heap.size w w' := by
  by_cases h : a.s.size ≤ 500 ∧ b.s.size ≤ 500 ∧ c.s.size ≤ 500
  · exact orders_all a b c w ha h.1 h.2.1 h.2.2
  · exact orders_long a b c w ha hb hc (by omega)
end Go.Proofs.Ytfkckdfldalceaa
