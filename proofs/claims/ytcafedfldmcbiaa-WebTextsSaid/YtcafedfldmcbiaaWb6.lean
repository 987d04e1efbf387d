/- Indexes' names, cells' keys, EntryID; graph.Check. Conditions: each contract's own premises. -/
import Derived.Test.YtcafedfldmcbiaaWb5
namespace Go.Proofs.Ytcafedfldmcbiaa
open Go.RowKit Go.Maps

theorem labelIndex_any (s : ByteArray) (w : World) (hs : s.size ≤ 1000000) : Calls Try.prog 25 #[.string s] w fun e w' => e = .returned (.string (⟨#[76]⟩ ++ s)) ∧ w = w' := by
  have ha : ∀ w, (Op.stringOp .add ⟨#[76]⟩ s).run Try.prog w = .ok (.string (⟨#[76]⟩ ++ s)) w := fun w => run_string_add_sum w _ _ (by show 1 + s.size ≤ _; omega)
  go_enter Try.func25, Try.ntmps25
  go_wp2
  go_ret
  exact ⟨rfl, rfl⟩
theorem size_app (a b : ByteArray) : (a ++ b).size = a.size + b.size := by simp
theorem valueIndex_any (s t : ByteArray) (w : World) (hs : s.size ≤ 1000000) (ht : t.size ≤ 1000000) : Calls Try.prog 26 #[.string s, .string t] w fun e w' => e = .returned (.string (⟨#[80]⟩ ++ s ++ ⟨#[32]⟩ ++ t)) ∧ w = w' := by
  have ha : ∀ w, (Op.stringOp .add ⟨#[80]⟩ s).run Try.prog w = .ok (.string (⟨#[80]⟩ ++ s)) w := fun w => run_string_add_sum w _ _ (by show 1 + s.size ≤ _; omega)
  have hb : ∀ w, (Op.stringOp .add (⟨#[80]⟩ ++ s) ⟨#[32]⟩).run Try.prog w = .ok (.string (⟨#[80]⟩ ++ s ++ ⟨#[32]⟩)) w := fun w => run_string_add_sum w _ _ (by rw [size_app]; show 1 + s.size + 1 ≤ _; omega)
  have hc : ∀ w, (Op.stringOp .add (⟨#[80]⟩ ++ s ++ ⟨#[32]⟩) t).run Try.prog w = .ok (.string (⟨#[80]⟩ ++ s ++ ⟨#[32]⟩ ++ t)) w := fun w => run_string_add_sum w _ _ (by rw [size_app, size_app]; show 1 + s.size + 1 + t.size ≤ _; omega)
  go_enter Try.func26, Try.ntmps26
  go_wp2
  go_ret
  exact ⟨rfl, rfl⟩
theorem vertexKey_any (n : Int) (w : World) : Calls Try.prog 19 #[.int .i64 n] w fun e w' => e = .returned (.agg #[.int .i64 1, .int .i64 n, .int .i64 0, .string ⟨#[]⟩]) ∧ Below w.heap.size w w' := by
  go_enter Try.func19, Try.ntmps19
  go_wp2
  refine bodyPost_ret (v := .agg #[.int .i64 1, .int .i64 n, .int .i64 0, .string ⟨#[]⟩]) (by simp [results, Try.results19, go_sem]) rfl ⟨rfl, below_box w _⟩
theorem edgeKey_any (n : Int) (w : World) : Calls Try.prog 20 #[.int .i64 n] w fun e w' => e = .returned (.agg #[.int .i64 2, .int .i64 n, .int .i64 0, .string ⟨#[]⟩]) ∧ Below w.heap.size w w' := by
  go_enter Try.func20, Try.ntmps20
  go_wp2
  refine bodyPost_ret (v := .agg #[.int .i64 2, .int .i64 n, .int .i64 0, .string ⟨#[]⟩]) (by simp [results, Try.results20, go_sem]) rfl ⟨rfl, below_box w _⟩
theorem chunkKey_out (n m : Int) (w : World) : Calls Try.prog 21 #[.int .i64 n, .bool true, .int .i64 m] w fun e w' => e = .returned (.agg #[.int .i64 3, .int .i64 n, .int .i64 m, .string ⟨#[]⟩]) ∧ Below w.heap.size w w' := by
  go_enter Try.func21, Try.ntmps21
  go_wp2
  refine bodyPost_ret (v := .agg #[.int .i64 3, .int .i64 n, .int .i64 m, .string ⟨#[]⟩]) (by simp [results, Try.results21, go_sem]) rfl ⟨rfl, below_box w _⟩
theorem chunkKey_in (n m : Int) (w : World) : Calls Try.prog 21 #[.int .i64 n, .bool false, .int .i64 m] w fun e w' => e = .returned (.agg #[.int .i64 4, .int .i64 n, .int .i64 m, .string ⟨#[]⟩]) ∧ Below w.heap.size w w' := by
  go_enter Try.func21, Try.ntmps21
  go_wp2
  refine bodyPost_ret (v := .agg #[.int .i64 4, .int .i64 n, .int .i64 m, .string ⟨#[]⟩]) (by simp [results, Try.results21, go_sem]) rfl ⟨rfl, below_box w _⟩
theorem rootKey_any (s : ByteArray) (w : World) : Calls Try.prog 22 #[.string s] w fun e w' => e = .returned (.agg #[.int .i64 5, .int .i64 0, .int .i64 0, .string s]) ∧ Below w.heap.size w w' := by
  go_enter Try.func22, Try.ntmps22
  go_wp2
  refine bodyPost_ret (v := .agg #[.int .i64 5, .int .i64 0, .int .i64 0, .string s]) (by simp [results, Try.results22, go_sem]) rfl ⟨rfl, below_box w _⟩
theorem leafKey_any (s : ByteArray) (n : Int) (w : World) : Calls Try.prog 23 #[.string s, .int .i64 n] w fun e w' => e = .returned (.agg #[.int .i64 6, .int .i64 0, .int .i64 n, .string s]) ∧ Below w.heap.size w w' := by
  go_enter Try.func23, Try.ntmps23
  go_wp2
  refine bodyPost_ret (v := .agg #[.int .i64 6, .int .i64 0, .int .i64 n, .string s]) (by simp [results, Try.results23, go_sem]) rfl ⟨rfl, below_box w _⟩
/-- the number of a text's first five bytes; of its last five -/
def num5 (s : ByteArray) : Nat := numL (s.data.toList.take 5)
def lastFive (s : ByteArray) : Nat := num5 (s.extract (s.size - 5) s.size)
theorem number5 (s : ByteArray) (w : World) (h5 : 5 ≤ s.size) (hm : s.size ≤ maxLen) : Calls Try.prog 42 #[.string s] w fun e w' => e = .returned (.int .i64 (num5 s)) ∧ Below w.heap.size w w' := number_any s w h5 hm
theorem r21number5 (s : ByteArray) (w : World) (h5 : 5 ≤ s.size) (hm : s.size ≤ maxLen) : Calls Try.prog 27 #[.string s] w fun e w' => e = .returned (.int .i64 (num5 s)) ∧ w = w' := r21number_any s w h5 hm
theorem last_size {s : ByteArray} (h : 5 ≤ s.size) : (s.extract (s.size - 5) s.size).size = 5 := by simp; omega
theorem entryID_short (s : ByteArray) (w : World) (h : s.size < 5) : Calls Try.prog 24 #[.string s] w fun e w' => e = .returned (.int .i64 (-1)) ∧ w = w' := by
  go_enter Try.func24, Try.ntmps24
  go_wp2
  go_ret
  exact ⟨rfl, rfl⟩
theorem entryID_long (s : ByteArray) (w : World) (h : 5 ≤ s.size) (hm : s.size ≤ maxLen) : Calls Try.prog 24 #[.string s] w fun e w' => e = .returned (.int .i64 (lastFive s)) ∧ Below w.heap.size w w' := by
  have hz := Lib.hid (last_size h)
  have HM := Lib.hid hm
  unfold maxLen at hm
  go_enter Try.func24, Try.ntmps24
  go_wp2_with fail
  refine (number5 (s.extract (s.size - 5) s.size) _ (by rw [hz.out]; exact Nat.le_refl _) (by rw [hz.out]; unfold maxLen; omega)).mono ?_
  rintro e w1 ⟨rfl, hb⟩
  go_wp2_with fail
  go_ret
  exact ⟨rfl, hb⟩

/-- what Check says -/
noncomputable def checkR (label : ByteArray) (ps : List Pr) (ids : List Int) : Int := if ids.any idB = true then 2 else if badS label = true then 30 else if rightPs ps = true then 0 else 10
set_option maxHeartbeats 400000 in
theorem check_any (label : ByteArray) (pa ia : Option Addr) (pc ic : Nat) (ps : List Pr) (ids : List Int) (w : World) (hl : label.size ≤ maxLen) (hp : PsV w pa ps) (hi : IsV w ia ids) (lp : ps.length ≤ 100000) (li : ids.length ≤ 100000) :
    Calls Try.prog 36 #[.string label, .slice pa ps.length pc, .slice ia ids.length ic] w fun e w' => e = .returned (.int .i64 (checkR label ps ids)) ∧ Below w.heap.size w w' := by
  have HL := Lib.hid hl
  clear hl
  go_enter Try.func36, Try.ntmps36
  go_wp2_with fail
  refine (conIs_any ia ic ids _ hi li).mono ?_
  rintro e w1 ⟨rfl, hb1⟩
  clear hi
  obtain ⟨b1, h1⟩ : ∃ b1, ids.any idB = b1 := ⟨_, rfl⟩
  rw [h1]
  have H1 := Lib.hid h1
  clear h1
  cases b1
  · go_wp2_with fail
    refine (lright_one w1.heap.size 1 label 9 (0, 0) _ (heap_new w1 _) HL.out).mono ?_
    rintro e w2 ⟨rfl, hb2⟩
    have hB2 := below_then (below_al hb1 _) hb2
    obtain ⟨b2, h2⟩ : ∃ b2, badS label = b2 := ⟨_, rfl⟩
    rw [h2]
    have H2 := Lib.hid h2
    clear h2 hb1 hb2
    cases b2
    · go_wp2_with fail
      refine (pright_any pa pc ps _ (hp.below hB2) lp).mono ?_
      rintro e w3 ⟨rfl, hb3⟩
      obtain ⟨b3, h3⟩ : ∃ b3, rightPs ps = b3 := ⟨_, rfl⟩
      rw [h3]
      have H3 := Lib.hid h3
      clear h3 hp
      cases b3
      · go_wp2_with fail
        go_ret
        exact ⟨ret_int (by unfold checkR; rw [H1.out, H2.out, H3.out]; rfl), below_then hB2 hb3⟩
      · go_wp2_with fail
        go_ret
        exact ⟨ret_int (by unfold checkR; rw [H1.out, H2.out, H3.out]; rfl), below_then hB2 hb3⟩
    · go_wp2_with fail
      go_ret
      exact ⟨ret_int (by unfold checkR; rw [H1.out, H2.out]; rfl), hB2⟩
  · go_wp2_with fail
    go_ret
    exact ⟨ret_int (by unfold checkR; rw [H1.out]; rfl), hb1⟩
end Go.Proofs.Ytcafedfldmcbiaa
