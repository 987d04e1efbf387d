/- WebTexts: the walk where something is too great. Conditions: the theorem's own premises. -/
import Derived.Test.YtcafedfldmcbiaaTextsPlain
import Derived.Deep.DeepCutAuto
namespace Go.Proofs.Ytcafedfldmcbiaa
open Go.RowKit Go.Maps Go.Lib

/-- the boxes of the law's arguments, behind whatever is made since -/
theorem boxesT (w : World) (C0 C1 : Array Value) : ∀ w', Below ((w.alloc (.cells C0 24)).alloc (.cells C1 35)).heap.size ((w.alloc (.cells C0 24)).alloc (.cells C1 35)) w' →
    w'.heap[w.heap.size]? = some (.cells C0 24) ∧ w'.heap[w.heap.size + 1]? = some (.cells C1 35) ∧ w.heap.size + 1 < w'.heap.size ∧ Below w.heap.size w w' := by
  intro w' hb
  obtain ⟨W1, hW1⟩ : ∃ W1, W1 = w.alloc (.cells C0 24) := ⟨_, rfl⟩
  rw [← hW1] at hb
  obtain ⟨W2, hW2⟩ : ∃ W2, W2 = W1.alloc (.cells C1 35) := ⟨_, rfl⟩
  rw [← hW2] at hb
  have z1 : W1.heap.size = w.heap.size + 1 := by rw [hW1, size_alloc]
  have z2 : W2.heap.size = w.heap.size + 2 := by rw [hW2, size_alloc, z1]
  have e2 : W2.heap[w.heap.size + 1]? = some (.cells C1 35) := by rw [hW2, ← z1]; exact heap_new W1 _
  have e1 : W2.heap[w.heap.size]? = some (.cells C0 24) := by rw [hW2, Below.heap_alloc _ _ _ (by rw [z1]; omega), hW1]; exact heap_new w _
  have B2 : Below w.heap.size w W2 := by rw [hW2, hW1]; exact below_al (below_box w _) _
  have d2 := (hb.block _ (by rw [z2]; omega)).trans e2
  exact ⟨(hb.block _ (by rw [z2]; omega)).trans e1, d2, (Array.getElem?_eq_some_iff.1 d2).1, below_then B2 hb⟩
set_option maxRecDepth 100000 in
set_option maxHeartbeats 2000000 in
theorem texts_out (i1 i2 f t : Int) (l1 l2 s : ByteArray) (a1 a2 : Option Addr) (c1 c2 : Nat) (x y : List Pr) (w : World) (hx : PrV w a1 x) (hy : PrV w a2 y) (lx : x.length ≤ maxLen) (ly : y.length ≤ maxLen) (s1 : l1.size ≤ maxLen) (s2 : l2.size ≤ maxLen) (s3 : s.size ≤ maxLen)
    (h : smallP x = false ∨ smallP y = false ∨ 2000 < s.size ∨ 200 < l1.size ∨ 200 < l2.size) :
    Calls Try.prog 6 #[.agg #[.int .i64 i1, .string l1, .slice a1 x.length c1], .agg #[.int .i64 i2, .string l2, .int .i64 f, .int .i64 t, .slice a2 y.length c2], .string s] w fun e w' => e = .returned (.bool true) ∧ Below w.heap.size w w' := by
  have HE := Lib.hid (boxesT w #[.int .i64 i1, .string l1, .slice a1 x.length c1] #[.int .i64 i2, .string l2, .int .i64 f, .int .i64 t, .slice a2 y.length c2])
  have HX := Lib.hid hx
  have HY := Lib.hid hy
  have LX := Lib.hid lx
  have LY := Lib.hid ly
  unfold maxLen at s1 s2 s3
  clear hx hy lx ly
  go_enter Try.func6, Try.ntmps6
  go_wp2_with fail
  refine (awake21_any _).mono ?_
  rintro e w1 ⟨rfl, hb1⟩
  obtain ⟨k0, k1, hlw, hB⟩ := HE.out w1 hb1
  have v1 := cell_of_blk k0 1
  have v2 := cell_of_blk k0 2
  have u1 := cell_of_blk k1 1
  have u4 := cell_of_blk k1 4
  simp at v1 v2 u1 u4
  clear k0 k1
  go_wp2_with fail
  refine (props21_any a1 c1 x _ (HX.out.below hB) LX.out).mono ?_
  rintro e w2 ⟨rfl, rfl⟩
  cases hs1 : smallP x
  · clear h
    go_wp2_with fail
    refine (awake21_any _).mono ?_
    rintro e w3 ⟨rfl, hb3⟩
    go_wp2_with fail
    go_ret
    exact ⟨rfl, below_then hB hb3⟩
  · go_wp2_with fail
    refine (props21_any a2 c2 y _ (HY.out.below hB) LY.out).mono ?_
    rintro e w3 ⟨rfl, rfl⟩
    cases hs2 : smallP y
    · clear h
      go_wp2_with fail
      refine (awake21_any _).mono ?_
      rintro e w3 ⟨rfl, hb3⟩
      go_wp2_with fail
      go_ret
      exact ⟨rfl, below_then hB hb3⟩
    · by_cases h0 : 2000 < s.size
      · clear h
        go_wp2_with fail
        refine (awake21_any _).mono ?_
        rintro e w3 ⟨rfl, hb3⟩
        go_wp2_with fail
        go_ret
        exact ⟨rfl, below_then hB hb3⟩
      · by_cases h3 : 200 < l1.size
        · clear h
          go_wp2_with fail
          refine (awake21_any _).mono ?_
          rintro e w3 ⟨rfl, hb3⟩
          go_wp2_with fail
          go_ret
          exact ⟨rfl, below_then hB hb3⟩
        · have h4 : 200 < l2.size := by
            rcases h with h | h | h | h | h
            · rw [hs1] at h; cases h
            · rw [hs2] at h; cases h
            · exact absurd h h0
            · exact absurd h h3
            · exact h
          clear h
          go_wp2_with fail
          refine (awake21_any _).mono ?_
          rintro e w3 ⟨rfl, hb3⟩
          go_wp2_with fail
          go_ret
          exact ⟨rfl, below_then hB hb3⟩
end Go.Proofs.Ytcafedfldmcbiaa
