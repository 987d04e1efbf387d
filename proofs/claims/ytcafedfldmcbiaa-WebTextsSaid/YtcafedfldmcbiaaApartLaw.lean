/- WebApart: the walk. Conditions: the theorem's own premises. -/
import Derived.Test.YtcafedfldmcbiaaApartPlain
namespace Go.Proofs.Ytcafedfldmcbiaa
open Go.RowKit Go.Maps

/-- the boxes of the law's arguments, behind whatever is made since -/
theorem boxesA (w : World) (C0 C1 C2 : Array Value) : ∀ w', Below (((w.alloc (.cells C0 24)).alloc (.cells C1 24)).alloc (.cells C2 25)).heap.size (((w.alloc (.cells C0 24)).alloc (.cells C1 24)).alloc (.cells C2 25)) w' →
    w'.heap[w.heap.size]? = some (.cells C0 24) ∧ w'.heap[w.heap.size + 1]? = some (.cells C1 24) ∧ w'.heap[w.heap.size + 2]? = some (.cells C2 25) ∧ w.heap.size + 2 < w'.heap.size ∧ Below w.heap.size w w' := by
  intro w' hb
  obtain ⟨W1, hW1⟩ : ∃ W1, W1 = w.alloc (.cells C0 24) := ⟨_, rfl⟩
  rw [← hW1] at hb
  obtain ⟨W2, hW2⟩ : ∃ W2, W2 = W1.alloc (.cells C1 24) := ⟨_, rfl⟩
  rw [← hW2] at hb
  obtain ⟨W3, hW3⟩ : ∃ W3, W3 = W2.alloc (.cells C2 25) := ⟨_, rfl⟩
  rw [← hW3] at hb
  have z1 : W1.heap.size = w.heap.size + 1 := by rw [hW1, size_alloc]
  have z2 : W2.heap.size = w.heap.size + 2 := by rw [hW2, size_alloc, z1]
  have z3 : W3.heap.size = w.heap.size + 3 := by rw [hW3, size_alloc, z2]
  have e3 : W3.heap[w.heap.size + 2]? = some (.cells C2 25) := by rw [hW3, ← z2]; exact heap_new W2 _
  have e2 : W3.heap[w.heap.size + 1]? = some (.cells C1 24) := by rw [hW3, Below.heap_alloc _ _ _ (by rw [z2]; omega), hW2, ← z1]; exact heap_new W1 _
  have e1 : W3.heap[w.heap.size]? = some (.cells C0 24) := by rw [hW3, Below.heap_alloc _ _ _ (by rw [z2]; omega), hW2, Below.heap_alloc _ _ _ (by rw [z1]; omega), hW1]; exact heap_new w _
  have B3 : Below w.heap.size w W3 := by rw [hW3, hW2, hW1]; exact below_al (below_al (below_box w _) _) _
  have d3 := (hb.block _ (by rw [z3]; omega)).trans e3
  exact ⟨(hb.block _ (by rw [z3]; omega)).trans e1, (hb.block _ (by rw [z3]; omega)).trans e2, d3, (Array.getElem?_eq_some_iff.1 d3).1, below_then B3 hb⟩
set_option maxRecDepth 100000 in
set_option maxHeartbeats 2000000 in
theorem apart_out (i1 i2 e0 e1 : Int) (l1 l2 : ByteArray) (a1 a2 : Option Addr) (c1 c2 : Nat) (x y : List Pr) (w : World) (hx : PrV w a1 x) (hy : PrV w a2 y) (lx : x.length ≤ maxLen) (ly : y.length ≤ maxLen) (s1 : l1.size ≤ maxLen) (s2 : l2.size ≤ maxLen)
    (h : smallP x = false ∨ smallP y = false ∨ 200 < l1.size ∨ 200 < l2.size) :
    Calls Try.prog 3 #[.agg #[.int .i64 i1, .string l1, .slice a1 x.length c1], .agg #[.int .i64 i2, .string l2, .slice a2 y.length c2], .agg #[.int .i64 e0, .int .i64 e1]] w fun e w' => e = .returned (.bool true) ∧ Below w.heap.size w w' := by
  have HE := Lib.hid (boxesA w #[.int .i64 i1, .string l1, .slice a1 x.length c1] #[.int .i64 i2, .string l2, .slice a2 y.length c2] #[.int .i64 e0, .int .i64 e1])
  have HX := Lib.hid hx
  have HY := Lib.hid hy
  have LX := Lib.hid lx
  have LY := Lib.hid ly
  unfold maxLen at s1 s2
  clear hx hy lx ly
  go_enter Try.func3, Try.ntmps3
  go_wp2_with fail
  refine (awake21_any _).mono ?_
  rintro e w1 ⟨rfl, hb1⟩
  obtain ⟨k0, k1, _, hlw, hB⟩ := HE.out w1 hb1
  have v1 := cell_of_blk k0 1
  have v2 := cell_of_blk k0 2
  have u1 := cell_of_blk k1 1
  have u2 := cell_of_blk k1 2
  simp at v1 v2 u1 u2
  clear k0 k1
  go_wp2_with fail
  refine (props21_any a1 c1 x _ (HX.out.below hB) LX.out).mono ?_
  rintro e w2 ⟨rfl, rfl⟩
  cases hs1 : smallP x
  · clear h
    go_wp2_with fail
    refine (awake21_any _).mono ?_
    rintro e w3 ⟨rfl, hb3⟩
    go_wp2_with fail
    go_ret
    exact ⟨rfl, below_then hB hb3⟩
  · go_wp2_with fail
    refine (props21_any a2 c2 y _ (HY.out.below hB) LY.out).mono ?_
    rintro e w3 ⟨rfl, rfl⟩
    cases hs2 : smallP y
    · clear h
      go_wp2_with fail
      refine (awake21_any _).mono ?_
      rintro e w3 ⟨rfl, hb3⟩
      go_wp2_with fail
      go_ret
      exact ⟨rfl, below_then hB hb3⟩
    · by_cases h3 : 200 < l1.size
      · clear h
        go_wp2_with fail
        refine (awake21_any _).mono ?_
        rintro e w3 ⟨rfl, hb3⟩
        go_wp2_with fail
        go_ret
        exact ⟨rfl, below_then hB hb3⟩
      · have h4 : 200 < l2.size := by
          rcases h with h | h | h | h
          · rw [hs1] at h; cases h
          · rw [hs2] at h; cases h
          · exact absurd h h3
          · exact h
        clear h
        go_wp2_with fail
        refine (awake21_any _).mono ?_
        rintro e w3 ⟨rfl, hb3⟩
        go_wp2_with fail
        go_ret
        exact ⟨rfl, below_then hB hb3⟩
end Go.Proofs.Ytcafedfldmcbiaa
