/- WebKeys: the walk. Conditions: the theorem's own premises. -/
import Derived.Test.YtcafedfldmcbiaaWbAwake
import Derived.Test.YtcafedfldmcbiaaWbMem
namespace Go.Proofs.Ytcafedfldmcbiaa
open Go.RowKit Go.Maps

set_option maxRecDepth 100000 in
set_option maxHeartbeats 4000000 in
theorem keys_all (a b : Int) (n m : ByteArray) (w : World) (hn : n.size ≤ 500) (hm : m.size ≤ 500) :
    Calls Try.prog 5 #[.int .i64 a, .int .i64 b, .agg #[.string n, .string m]] w fun e w' => e = .returned (.bool true) ∧ Below w.heap.size w w' := by
  have hd1 : decide ((500 : Int) < (n.size : Int)) = false := by simp; omega
  have hd2 : decide ((500 : Int) < (m.size : Int)) = false := by simp; omega
  go_enter Try.func5, Try.ntmps5
  go_wp2_with fail
  refine (awake21_any _).mono ?_
  rintro e w1 ⟨rfl, hb1⟩
  have e0 := (hb1.block w.heap.size (by simp)).trans (heap_new w _)
  have c0 := cell_of_blk e0 0
  have c1 := cell_of_blk e0 1
  simp at c0 c1
  have hB1 := below_then (below_box w _) hb1
  have hlw := (Array.getElem?_eq_some_iff.1 e0).1
  clear e0 hb1
  go_wp2_with fail
  go_quiet (fail)
  go_wp2_with fail
  have hBq := below_drewN' hB1 nq
  refine (vertexKey_any a _).mono ?_
  rintro e w2 ⟨rfl, hb2⟩
  have hB2 := below_then hBq hb2
  clear hb2 hBq c0 c1 hlw
  go_wp2_with fail
  refine (edgeKey_any a _).mono ?_
  rintro e w3 ⟨rfl, hb3⟩
  have hB3 := below_then hB2 hb3
  clear hb3 hB2
  go_wp2_with fail
  refine (chunkKey_out a b _).mono ?_
  rintro e w4 ⟨rfl, hb4⟩
  have hB4 := below_then hB3 hb4
  clear hb4 hB3
  go_wp2_with fail
  refine (chunkKey_in a b _).mono ?_
  rintro e w5 ⟨rfl, hb5⟩
  have hB5 := below_then hB4 hb5
  clear hb5 hB4
  go_wp2_with fail
  refine (rootKey_any n _).mono ?_
  rintro e w6 ⟨rfl, hb6⟩
  have hB6 := below_then hB5 hb6
  clear hb6 hB5
  go_wp2_with fail
  refine (leafKey_any n b _).mono ?_
  rintro e w7 ⟨rfl, hb7⟩
  have hB7 := below_then hB6 hb7
  clear hb7 hB6
  go_wp2_with fail
  obtain ⟨W, hW⟩ : ∃ W, W = (w7.alloc (.cells #[.int .i64 1, .int .i64 a, .int .i64 0, .string ⟨#[]⟩, .int .i64 2, .int .i64 a, .int .i64 0, .string ⟨#[]⟩, .int .i64 3, .int .i64 a, .int .i64 b, .string ⟨#[]⟩, .int .i64 4, .int .i64 a, .int .i64 b, .string ⟨#[]⟩, .int .i64 5, .int .i64 0, .int .i64 0, .string n, .int .i64 6, .int .i64 0, .int .i64 b, .string n] 55)).alloc (.cells #[.int .i64 1, .int .i64 a, .int .i64 0, .string ⟨#[]⟩, .int .i64 2, .int .i64 a, .int .i64 0, .string ⟨#[]⟩, .int .i64 3, .int .i64 a, .int .i64 b, .string ⟨#[]⟩, .int .i64 4, .int .i64 a, .int .i64 b, .string ⟨#[]⟩, .int .i64 5, .int .i64 0, .int .i64 0, .string n, .int .i64 6, .int .i64 0, .int .i64 b, .string n] 55) := ⟨_, rfl⟩
  have eA : W.heap[w7.heap.size]? = some (.cells #[.int .i64 1, .int .i64 a, .int .i64 0, .string ⟨#[]⟩, .int .i64 2, .int .i64 a, .int .i64 0, .string ⟨#[]⟩, .int .i64 3, .int .i64 a, .int .i64 b, .string ⟨#[]⟩, .int .i64 4, .int .i64 a, .int .i64 b, .string ⟨#[]⟩, .int .i64 5, .int .i64 0, .int .i64 0, .string n, .int .i64 6, .int .i64 0, .int .i64 b, .string n] 55) := by rw [hW, Below.heap_alloc _ _ _ (by simp)]; exact heap_new w7 _
  have eB : W.heap[w7.heap.size + 1]? = some (.cells #[.int .i64 1, .int .i64 a, .int .i64 0, .string ⟨#[]⟩, .int .i64 2, .int .i64 a, .int .i64 0, .string ⟨#[]⟩, .int .i64 3, .int .i64 a, .int .i64 b, .string ⟨#[]⟩, .int .i64 4, .int .i64 a, .int .i64 b, .string ⟨#[]⟩, .int .i64 5, .int .i64 0, .int .i64 0, .string n, .int .i64 6, .int .i64 0, .int .i64 b, .string n] 55) := by
    have := heap_new (w7.alloc (.cells #[.int .i64 1, .int .i64 a, .int .i64 0, .string ⟨#[]⟩, .int .i64 2, .int .i64 a, .int .i64 0, .string ⟨#[]⟩, .int .i64 3, .int .i64 a, .int .i64 b, .string ⟨#[]⟩, .int .i64 4, .int .i64 a, .int .i64 b, .string ⟨#[]⟩, .int .i64 5, .int .i64 0, .int .i64 0, .string n, .int .i64 6, .int .i64 0, .int .i64 b, .string n] 55)) (.cells #[.int .i64 1, .int .i64 a, .int .i64 0, .string ⟨#[]⟩, .int .i64 2, .int .i64 a, .int .i64 0, .string ⟨#[]⟩, .int .i64 3, .int .i64 a, .int .i64 b, .string ⟨#[]⟩, .int .i64 4, .int .i64 a, .int .i64 b, .string ⟨#[]⟩, .int .i64 5, .int .i64 0, .int .i64 0, .string n, .int .i64 6, .int .i64 0, .int .i64 b, .string n] 55)
    rw [size_alloc] at this
    rw [hW]; exact this
  have hBW : Below w.heap.size w W := by rw [hW]; exact below_al (below_al hB7 _) _
  have hlW : w7.heap.size + 1 < W.heap.size := (Array.getElem?_eq_some_iff.1 eB).1
  have hcell : ∀ j, j < 6 → ∃ (x y z : Int) (s : ByteArray), (W.cell? ⟨w7.heap.size, j * 4, none⟩ = some (.int .i64 x) ∧ W.cell? ⟨w7.heap.size, j * 4 + 1, none⟩ = some (.int .i64 y) ∧ W.cell? ⟨w7.heap.size, j * 4 + 2, none⟩ = some (.int .i64 z) ∧ W.cell? ⟨w7.heap.size, j * 4 + 3, none⟩ = some (.string s)) ∧
      (W.cell? ⟨w7.heap.size + 1, j * 4, none⟩ = some (.int .i64 x) ∧ W.cell? ⟨w7.heap.size + 1, j * 4 + 1, none⟩ = some (.int .i64 y) ∧ W.cell? ⟨w7.heap.size + 1, j * 4 + 2, none⟩ = some (.int .i64 z) ∧ W.cell? ⟨w7.heap.size + 1, j * 4 + 3, none⟩ = some (.string s)) := by
    intro j hj
    simp only [cell_of_blk eA, cell_of_blk eB]
    match j, hj with
    | 0, _ => exact ⟨_, _, _, _, ⟨rfl, rfl, rfl, rfl⟩, ⟨rfl, rfl, rfl, rfl⟩⟩
    | 1, _ => exact ⟨_, _, _, _, ⟨rfl, rfl, rfl, rfl⟩, ⟨rfl, rfl, rfl, rfl⟩⟩
    | 2, _ => exact ⟨_, _, _, _, ⟨rfl, rfl, rfl, rfl⟩, ⟨rfl, rfl, rfl, rfl⟩⟩
    | 3, _ => exact ⟨_, _, _, _, ⟨rfl, rfl, rfl, rfl⟩, ⟨rfl, rfl, rfl, rfl⟩⟩
    | 4, _ => exact ⟨_, _, _, _, ⟨rfl, rfl, rfl, rfl⟩, ⟨rfl, rfl, rfl, rfl⟩⟩
    | 5, _ => exact ⟨_, _, _, _, ⟨rfl, rfl, rfl, rfl⟩, ⟨rfl, rfl, rfl, rfl⟩⟩
  have HC := Lib.hid hcell
  rw [← hW]
  clear hcell eA eB hW hB7
  go_loopw [11] (fun i wr => ∃ j : Nat, j ≤ 6 ∧ i = .int .i64 j ∧ ∃ q, wr = W.drewN q) (fun i _ => 6 - (intOf i).toNat)
  case atStart => exact ⟨0, by omega, rfl, 0, rfl⟩
  case round =>
    obtain ⟨j, hj, rfl, q, rfl⟩ := hrel
    by_cases hlt : j < 6
    · obtain ⟨x, y, z, s, ⟨p0, p1, p2, p3⟩, ⟨r0, r1, r2, r3⟩⟩ := HC.out j hlt
      go_wp2_with fail
      go_quiet (fail)
      go_wp2_with fail
      exact ⟨⟨j + 1, by omega, by go_num, ⟨_, rfl⟩⟩, by simp [intOf]; omega⟩
    · have hBq := below_drewN' hBW q
      have h1 : ∀ w, (Op.stringOp .add ⟨#[76]⟩ n).run Try.prog w = .ok (.string (⟨#[76]⟩ ++ n)) w := fun w => run_string_add_sum w _ _ (by show 1 + n.size ≤ _; omega)
      have h2 : ∀ w, (Op.stringOp .add ⟨#[80]⟩ n).run Try.prog w = .ok (.string (⟨#[80]⟩ ++ n)) w := fun w => run_string_add_sum w _ _ (by show 1 + n.size ≤ _; omega)
      have h3 : ∀ w, (Op.stringOp .add (⟨#[80]⟩ ++ n) ⟨#[32]⟩).run Try.prog w = .ok (.string (⟨#[80]⟩ ++ n ++ ⟨#[32]⟩)) w := fun w => run_string_add_sum w _ _ (by rw [size_app]; show 1 + n.size + 1 ≤ _; omega)
      have h4 : ∀ w, (Op.stringOp .add (⟨#[80]⟩ ++ n ++ ⟨#[32]⟩) m).run Try.prog w = .ok (.string (⟨#[80]⟩ ++ n ++ ⟨#[32]⟩ ++ m)) w := fun w => run_string_add_sum w _ _ (by rw [size_app, size_app]; show 1 + n.size + 1 + m.size ≤ _; omega)
      by_cases h5 : n.size < 5
      · go_wp2_with fail
        refine (entryID_short n _ h5).mono ?_
        rintro e w8 ⟨rfl, rfl⟩
        go_wp2_with fail
        refine (labelIndex_any n _ (by omega)).mono ?_
        rintro e w9 ⟨rfl, rfl⟩
        go_wp2_with fail
        refine (valueIndex_any n m _ (by omega) (by omega)).mono ?_
        rintro e w10 ⟨rfl, rfl⟩
        go_wp2_with fail
        go_ret
        exact ⟨rfl, hBq⟩
      · have hml : n.size ≤ maxLen := by unfold maxLen; omega
        have HML := Lib.hid hml
        clear hml
        have hz := Lib.hid (last_size (s := n) (by omega))
        go_wp2_with fail
        refine (entryID_long n _ (by omega) HML.out).mono ?_
        rintro e w8 ⟨rfl, hb8⟩
        have hB8 := below_then hBq hb8
        obtain ⟨lf, hlf⟩ : ∃ lf, lastFive n = lf := ⟨_, rfl⟩
        rw [hlf]
        have HLF : Hid (num5 (n.extract (n.size - 5) n.size) = lf) := Lib.hid hlf
        clear hlf
        go_wp2_with fail
        refine (labelIndex_any n _ (by omega)).mono ?_
        rintro e w9 ⟨rfl, rfl⟩
        go_wp2_with fail
        refine (valueIndex_any n m _ (by omega) (by omega)).mono ?_
        rintro e w10 ⟨rfl, rfl⟩
        go_wp2_with fail
        refine (r21number5 (n.extract (n.size - 5) n.size) _ (by rw [hz.out]; exact Nat.le_refl _) (by rw [hz.out]; unfold maxLen; omega)).mono ?_
        rintro e w11 ⟨rfl, rfl⟩
        rw [HLF.out]
        go_wp2_with fail
        go_ret
        exact ⟨rfl, hB8⟩
theorem keys_long (a b : Int) (n m : ByteArray) (w : World) (hn : n.size ≤ maxLen) (hm : m.size ≤ maxLen) (h : 500 < n.size ∨ 500 < m.size) :
    Calls Try.prog 5 #[.int .i64 a, .int .i64 b, .agg #[.string n, .string m]] w fun e w' => e = .returned (.bool true) ∧ Below w.heap.size w w' := by
  unfold maxLen at hn hm
  go_enter Try.func5, Try.ntmps5
  go_wp2_with fail
  refine (awake21_any _).mono ?_
  rintro e w1 ⟨rfl, hb1⟩
  have e0 := (hb1.block w.heap.size (by simp)).trans (heap_new w _)
  have c0 := cell_of_blk e0 0
  have c1 := cell_of_blk e0 1
  simp at c0 c1
  have hB1 := below_then (below_box w _) hb1
  have hlw := (Array.getElem?_eq_some_iff.1 e0).1
  clear e0 hb1
  by_cases h1 : n.size ≤ 500
  · have h2 : 500 < m.size := by omega
    clear h
    go_wp2_with fail
    refine (awake21_any _).mono ?_
    rintro e w2 ⟨rfl, hb2⟩
    go_wp2_with fail
    go_ret
    exact ⟨rfl, below_then hB1 hb2⟩
  · clear h
    go_wp2_with fail
    refine (awake21_any _).mono ?_
    rintro e w2 ⟨rfl, hb2⟩
    go_wp2_with fail
    go_ret
    exact ⟨rfl, below_then hB1 hb2⟩
end Go.Proofs.Ytcafedfldmcbiaa
