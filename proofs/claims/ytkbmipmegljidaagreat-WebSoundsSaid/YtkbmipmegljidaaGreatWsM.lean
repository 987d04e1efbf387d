/- Bytes and texts: conversions at the operation; web.five, web.number, LabelIndex, ValueIndex, keys. Conditions: each contract's own premises. Indexes' names, cells' keys, EntryID; graph.Check. Conditions: each contract's own premises. awake (layer 21): it returns true. No condition. -/
import Derived.Test.YtkbmipmegljidaaGreatWb4
import Derived.Laws.Concat
import Derived.Laws.BitsAllLaws
import Derived.Test.YtkbmipmegljidaaGreatWsK
namespace Go.Proofs.YtkbmipmegljidaaGreat
open Go.RowKit Go.Maps

/-- a byte as a value -/
def bv (b : UInt8) : Value := .int .u8 (b.toNat : Int)
/-- 'string(b)' at the operation, b's cells known -/
theorem wpList_toStr (w : World) {ops : Array Oper} {rest : List Oper} {o : Oper} {a : Act} {Q : Exit → Act → World → Prop} (hg : o.guard = none) (x : Operand) (hop : o.op = Op.convert 102 9 x) (ad : Addr) (n cap : Nat) (l : List UInt8) (hx : a.eval x = .slice (some ad) n cap) (hn : n = l.length)
    (hc : ∀ j (hj : j < l.length), w.cell? (ad.add j) = some (.int .u8 (l[j].toNat : Int))) (hK : wpList Tryz.prog ops Q rest (a.put o.dst (.string ⟨l.toArray⟩)) w) :
    wpList Tryz.prog ops Q (o :: rest) a w := by
  subst hn
  refine wpList_plain hg fun K' hK' => ?_
  have hrun := run_convert_bytes_back (P := Tryz.prog) w 102 9 5 ad cap l Tryz.underlying102 Tryz.underlying5 Tryz.underlying9 hc
  unfold Oper.wp
  simp [execOp, hop, hx, hrun, Result.andThen]
  exact hK' _ _ hK
/-- bytes in memory -/
structure BsAt (w : World) (b off : Nat) (l : List UInt8) : Prop where
  cells : ∀ (i : Nat) (x : UInt8), l[i]? = some x → w.cell? ⟨b, off + i, none⟩ = some (bv x)
  lt : b < w.heap.size
theorem BsAt.of_block {w w' : World} {b off : Nat} {l : List UInt8} (h : BsAt w b off l) (hb : w'.heap[b]? = w.heap[b]?) : BsAt w' b off l :=
  ⟨fun i x hx => (World.cell?_of_block (a := ⟨b, off + i, none⟩) hb).trans (h.cells i x hx), (Array.getElem?_eq_some_iff.1 (hb.trans (Array.getElem?_eq_getElem h.lt))).1⟩
theorem BsAt.conv {w : World} {b off : Nat} {l : List UInt8} (h : BsAt w b off l) : ∀ j (hj : j < l.length), w.cell? ((⟨b, off, none⟩ : Addr).add j) = some (.int .u8 (l[j].toNat : Int)) := fun j hj => by
  rw [add_none]; exact h.cells j l[j] (List.getElem?_eq_getElem hj)
/-- '[]byte(s)' at the operation -/
theorem wpList_toBytes (w : World) {ops : Array Oper} {rest : List Oper} {o : Oper} {a : Act} {Q : Exit → Act → World → Prop} (hg : o.guard = none) (x : Operand) (hop : o.op = Op.convert 9 102 x) (s : ByteArray) (hx : a.eval x = .string s)
    (hK : ∀ w1 cap, BsAt w1 w.heap.size 0 s.data.toList → Below w.heap.size w w1 → w1.heap.size = w.heap.size + 1 → s.size ≤ cap → wpList Tryz.prog ops Q rest (a.put o.dst (.slice (some ⟨w.heap.size, 0, none⟩) s.size cap)) w1) :
    wpList Tryz.prog ops Q (o :: rest) a w := by
  refine wpList_plain hg fun K' hK' => ?_
  have hrun := run_bytes_of_string (P := Tryz.prog) w 9 102 5 s Tryz.underlying9 Tryz.underlying102 Tryz.underlying5
  unfold Oper.wp
  simp [execOp, hop, hx, hrun, Result.andThen]
  refine hK' _ _ (hK _ _ ⟨fun i y hy => ?_, by simp⟩ ?_ (by simp) ?_)
  · have hb := heap_new w.drew (.cells (bytesRow s (grownCap w s.size 0 5)) 5 ((bytesRow s (grownCap w s.size 0 5)).size, (bytesRow s (grownCap w s.size 0 5)).size + 1))
    rw [Nat.zero_add]
    refine (cell_of_blk hb i).trans ?_
    obtain ⟨hi, e⟩ := List.getElem?_eq_some_iff.1 hy
    have hi' : i < s.data.size := by simpa using hi
    rw [bytesRow_at s _ i hi']
    have : s.data[i] = y := by rw [← e]; simp
    rw [this]; rfl
  · exact ((Below.refl _ _).drew).alloc (Nat.le_refl _) _
  · exact grownCap_ge w s.size 0 5

/-- a number in five bytes -/
def fiveL (n : Nat) : List UInt8 := [UInt8.ofNat (n / 4294967296), UInt8.ofNat (n / 16777216), UInt8.ofNat (n / 65536), UInt8.ofNat (n / 256), UInt8.ofNat n]
set_option maxRecDepth 10000 in
theorem five_any (n : Nat) (w : World) (h : n < 1099511627776) : Calls Tryz.prog 21 #[.int .i64 n] w fun e w' => e = .returned (.string ⟨(fiveL n).toArray⟩) ∧ Below w.heap.size w w' := by
  go_enter Tryz.func21, Tryz.ntmps21
  go_wp2_with (refine wpList_toStr _ rfl (.tmp 17) rfl ⟨w.heap.size, 0, none⟩ 5 5 (fiveL n) rfl rfl ?hc5 ?_)
  case hc5 =>
    intro j hj
    have hb := heap_new w (.cells #[.int .u8 ((n : Int) / 4294967296), .int .u8 ((n : Int) / 16777216 % 256), .int .u8 ((n : Int) / 65536 % 256), .int .u8 ((n : Int) / 256 % 256), .int .u8 ((n : Int) % 256)] 5)
    rw [add_none]
    refine (cell_of_blk hb _).trans ?_
    match j, hj with
    | 0, _ => simp [fiveL]; omega
    | 1, _ => simp [fiveL]
    | 2, _ => simp [fiveL]
    | 3, _ => simp [fiveL]
    | 4, _ => simp [fiveL]
  go_ret
  exact ⟨rfl, below_box w _⟩

/-- bytes as a number -/
def numL (l : List UInt8) : Nat := l.foldl (fun n b => n * 256 + b.toNat) 0
theorem numL_snoc {l : List UInt8} {k : Nat} (h : k < l.length) : numL (l.take (k + 1)) = numL (l.take k) * 256 + (l[k]).toNat := by
  unfold numL
  rw [List.take_succ_eq_append_getElem h, List.foldl_append]; rfl
theorem numL_take (l : List UInt8) : ∀ k, k ≤ l.length → numL (l.take k) < 256 ^ k
  | 0, _ => by simp [numL]
  | k + 1, h => by
    have ih := numL_take l k (by omega)
    have hb := (l[k]'(by omega)).toNat_lt
    rw [numL_snoc (by omega), Nat.pow_succ]
    omega
theorem i64_or_byte (a b : Nat) (ha : a < 4294967296) (hb : b < 256) : bits .or .i64 ((a : Int) * 256) (b : Int) = (a : Int) * 256 + b := by
  have e : ((a : Int) * 256) = ((a * 256 : Nat) : Int) := by simp
  have e2 : a * 256 ||| b = a * 256 + b := by
    have := Nat.two_pow_add_eq_or_of_lt (i := 8) (b := b) (by omega) a
    rw [show 2 ^ 8 * a = a * 256 by omega] at this
    exact this.symm
  rw [e]
  show IntKind.i64.wrap ((BitVec.ofInt 64 ((a * 256 : Nat) : Int) ||| BitVec.ofInt 64 (b : Int)).toNat : Int) = _
  rw [BitVec.toNat_or, ofInt_u64 (a * 256) (by omega), ofInt_u64 b (by omega), e2]
  simp [IntKind.wrap, IntKind.bits, IntKind.signed]
  omega
set_option maxHeartbeats 400000 in
theorem number_any (s : ByteArray) (w : World) (h5 : 5 ≤ s.size) (hm : s.size ≤ maxLen) : Calls Tryz.prog 96 #[.string s] w fun e w' => e = .returned (.int .i64 (numL (s.data.toList.take 5))) ∧ Below w.heap.size w w' := by
  unfold maxLen at hm
  have hx : (s.extract 0 5).size = 5 := by simp; omega
  have HX := Lib.hid hx
  have HD : Hid ((s.extract 0 5).data.toList = s.data.toList.take 5) := Lib.hid (by simp)
  have hlen : (s.data.toList.take 5).length = 5 := by simp; omega
  have HLN := Lib.hid hlen
  clear hx hlen
  go_enter Tryz.func96, Tryz.ntmps96
  go_wp2_with (refine wpList_toBytes _ rfl (.tmp 7) rfl (s.extract 0 5) rfl ?_; intro w1 cap hb1 bel z1 hcap; rw [HX.out] at hcap ⊢; rw [HD.out] at hb1)
  obtain ⟨l, hl⟩ : ∃ l, s.data.toList.take 5 = l := ⟨_, rfl⟩
  rw [hl] at hb1 HLN
  have HL := Lib.hid hl
  clear hl HX HD
  have llen : l.length ≤ 5 := by rw [HLN.out]; exact Nat.le_refl _
  go_loop [3, 10] (fun n i => ∃ k : Nat, k ≤ 5 ∧ i = .int .i64 k ∧ n = .int .i64 (numL (l.take k) : Nat)) (fun _ i => 5 - (intOf i).toNat)
  case atStart => exact ⟨0, by omega, rfl, rfl⟩
  case round =>
    obtain ⟨k, hk, rfl, rfl⟩ := hrel
    by_cases hlt : k < 5
    · have hlk : k < l.length := by rw [HLN.out]; exact hlt
      have c1 := hb1.cells k l[k] (List.getElem?_eq_getElem hlk)
      rw [Nat.zero_add] at c1
      unfold bv at c1
      have hlw := hb1.lt
      have hs := Lib.hid (numL_snoc hlk)
      have hn := numL_take l k (by omega)
      have hn2 : numL (l.take k) < 4294967296 := Nat.lt_of_lt_of_le hn (Nat.le_trans (Nat.pow_le_pow_right (by omega) (show k ≤ 4 by omega)) (by decide))
      obtain ⟨y, hy⟩ : ∃ y, (l[k]).toNat = y := ⟨_, rfl⟩
      have hy2 : y < 256 := by rw [← hy]; exact (l[k]).toNat_lt
      rw [hy] at c1 hs
      obtain ⟨m, hm'⟩ : ∃ m, numL (l.take k) = m := ⟨_, rfl⟩
      rw [hm'] at hs hn2 ⊢
      have hor := i64_or_byte m y hn2 hy2
      clear hy hm' hn hb1
      go_wp2
      go_round
      case rel => exact ⟨k + 1, by omega, by go_num, by rw [hs.out]; simp⟩
      case measure => simp [intOf]; omega
    · obtain rfl : k = 5 := by omega
      clear hb1
      go_wp2
      go_ret
      exact ⟨ret_int (by rw [HL.out, List.take_of_length_le llen]), bel⟩
end Go.Proofs.YtkbmipmegljidaaGreat
namespace Go.Proofs.YtkbmipmegljidaaGreat
open Go.RowKit Go.Maps

theorem labelIndex_any (s : ByteArray) (w : World) (hs : s.size ≤ 1000000) : Calls Tryz.prog 40 #[.string s] w fun e w' => e = .returned (.string (⟨#[76]⟩ ++ s)) ∧ w = w' := by
  have ha : ∀ w, (Op.stringOp .add ⟨#[76]⟩ s).run Tryz.prog w = .ok (.string (⟨#[76]⟩ ++ s)) w := fun w => run_string_add_sum w _ _ (by show 1 + s.size ≤ _; omega)
  go_enter Tryz.func40, Tryz.ntmps40
  go_wp2
  go_ret
  exact ⟨rfl, rfl⟩
theorem size_app (a b : ByteArray) : (a ++ b).size = a.size + b.size := by simp
theorem valueIndex_any (s t : ByteArray) (w : World) (hs : s.size ≤ 1000000) (ht : t.size ≤ 1000000) : Calls Tryz.prog 42 #[.string s, .string t] w fun e w' => e = .returned (.string (⟨#[80]⟩ ++ s ++ ⟨#[32]⟩ ++ t)) ∧ w = w' := by
  have ha : ∀ w, (Op.stringOp .add ⟨#[80]⟩ s).run Tryz.prog w = .ok (.string (⟨#[80]⟩ ++ s)) w := fun w => run_string_add_sum w _ _ (by show 1 + s.size ≤ _; omega)
  have hb : ∀ w, (Op.stringOp .add (⟨#[80]⟩ ++ s) ⟨#[32]⟩).run Tryz.prog w = .ok (.string (⟨#[80]⟩ ++ s ++ ⟨#[32]⟩)) w := fun w => run_string_add_sum w _ _ (by rw [size_app]; show 1 + s.size + 1 ≤ _; omega)
  have hc : ∀ w, (Op.stringOp .add (⟨#[80]⟩ ++ s ++ ⟨#[32]⟩) t).run Tryz.prog w = .ok (.string (⟨#[80]⟩ ++ s ++ ⟨#[32]⟩ ++ t)) w := fun w => run_string_add_sum w _ _ (by rw [size_app, size_app]; show 1 + s.size + 1 + t.size ≤ _; omega)
  go_enter Tryz.func42, Tryz.ntmps42
  go_wp2
  go_ret
  exact ⟨rfl, rfl⟩
theorem vertexKey_any (n : Int) (w : World) : Calls Tryz.prog 8 #[.int .i64 n] w fun e w' => e = .returned (.agg #[.int .i64 1, .int .i64 n, .int .i64 0, .string ⟨#[]⟩]) ∧ Below w.heap.size w w' := by
  go_enter Tryz.func8, Tryz.ntmps8
  go_wp2
  refine bodyPost_ret (v := .agg #[.int .i64 1, .int .i64 n, .int .i64 0, .string ⟨#[]⟩]) (by simp [results, Tryz.results8, go_sem]) rfl ⟨rfl, below_box w _⟩
theorem edgeKey_any (n : Int) (w : World) : Calls Tryz.prog 10 #[.int .i64 n] w fun e w' => e = .returned (.agg #[.int .i64 2, .int .i64 n, .int .i64 0, .string ⟨#[]⟩]) ∧ Below w.heap.size w w' := by
  go_enter Tryz.func10, Tryz.ntmps10
  go_wp2
  refine bodyPost_ret (v := .agg #[.int .i64 2, .int .i64 n, .int .i64 0, .string ⟨#[]⟩]) (by simp [results, Tryz.results10, go_sem]) rfl ⟨rfl, below_box w _⟩
theorem chunkKey_out (n m : Int) (w : World) : Calls Tryz.prog 66 #[.int .i64 n, .bool true, .int .i64 m] w fun e w' => e = .returned (.agg #[.int .i64 3, .int .i64 n, .int .i64 m, .string ⟨#[]⟩]) ∧ Below w.heap.size w w' := by
  go_enter Tryz.func66, Tryz.ntmps66
  go_wp2
  refine bodyPost_ret (v := .agg #[.int .i64 3, .int .i64 n, .int .i64 m, .string ⟨#[]⟩]) (by simp [results, Tryz.results66, go_sem]) rfl ⟨rfl, below_box w _⟩
theorem chunkKey_in (n m : Int) (w : World) : Calls Tryz.prog 66 #[.int .i64 n, .bool false, .int .i64 m] w fun e w' => e = .returned (.agg #[.int .i64 4, .int .i64 n, .int .i64 m, .string ⟨#[]⟩]) ∧ Below w.heap.size w w' := by
  go_enter Tryz.func66, Tryz.ntmps66
  go_wp2
  refine bodyPost_ret (v := .agg #[.int .i64 4, .int .i64 n, .int .i64 m, .string ⟨#[]⟩]) (by simp [results, Tryz.results66, go_sem]) rfl ⟨rfl, below_box w _⟩
theorem rootKey_any (s : ByteArray) (w : World) : Calls Tryz.prog 76 #[.string s] w fun e w' => e = .returned (.agg #[.int .i64 5, .int .i64 0, .int .i64 0, .string s]) ∧ Below w.heap.size w w' := by
  go_enter Tryz.func76, Tryz.ntmps76
  go_wp2
  refine bodyPost_ret (v := .agg #[.int .i64 5, .int .i64 0, .int .i64 0, .string s]) (by simp [results, Tryz.results76, go_sem]) rfl ⟨rfl, below_box w _⟩
/-- the number of a text's first five bytes; of its last five -/
def num5 (s : ByteArray) : Nat := numL (s.data.toList.take 5)
theorem number5 (s : ByteArray) (w : World) (h5 : 5 ≤ s.size) (hm : s.size ≤ maxLen) : Calls Tryz.prog 96 #[.string s] w fun e w' => e = .returned (.int .i64 (num5 s)) ∧ Below w.heap.size w w' := number_any s w h5 hm
end Go.Proofs.YtkbmipmegljidaaGreat
namespace Go.Proofs.YtkbmipmegljidaaGreat
open Go.RowKit Go.Maps

theorem rightPs_nil : rightPs [] = true := by
  rw [rightPs_end (fun i hi => absurd hi (Nat.not_lt_zero _))]; rfl
theorem bad_a : badS ⟨#[97]⟩ = false := by kernel_rfl
theorem check_a (ib : Nat) (w : World) (hb : w.heap[ib]? = some (.cells #[.int .i64 7] 3 (0, 0))) :
    Calls Tryz.prog 19 #[.string ⟨#[97]⟩, .slice none 0 0, .slice (some ⟨ib, 0, none⟩) 1 1] w fun e w' => e = .returned (.int .i64 0) ∧ Below w.heap.size w w' := by
  have hi : IsV w (some ⟨ib, 0, none⟩) [7] := fun _ => ⟨ib, 0, rfl, ⟨fun x hx => by rw [List.mem_singleton.1 hx]; constructor <;> omega, fun i x hx => by
    cases i with
    | zero => simp at hx; subst hx; rw [cell_of_blk hb]; rfl
    | succ i => simp at hx, (Array.getElem?_eq_some_iff.1 hb).1⟩⟩
  have h := check_any ⟨#[97]⟩ none (some ⟨ib, 0, none⟩) 0 1 [] [7] w (by unfold maxLen; decide) (fun e => absurd rfl e) hi (by simp) (by simp)
  have e : checkR ⟨#[97]⟩ [] [7] = 0 := by unfold checkR; rw [bad_a, rightPs_nil]; rfl
  rw [e] at h
  exact h
def PbPost (w : World) (e : Ending) (w' : World) : Prop := ∃ b, e = .returned (.tuple #[.slice (some ⟨b, 0, none⟩) 1 1, .int .i64 0]) ∧ w'.heap[b]? = some (.cells #[.int .u8 0] 5) ∧ Below w.heap.size w w'
theorem pbytes_nil (w : World) : Calls Tryz.prog 50 #[.slice none 0 0] w (PbPost w) := by
  go_enter Tryz.func50, Tryz.ntmps50
  go_wp2_with fail
  have hp := pright_any none 0 [] w (fun e => absurd rfl e) (by simp)
  rw [rightPs_nil] at hp
  refine hp.mono ?_
  rintro e w1 ⟨rfl, hb⟩
  clear hp
  go_wp2_with fail
  refine wp_loop_rounds 1 ?_
  rw [rounds_succ]
  go_wp2_with fail
  go_ret2
  exact ⟨_, rfl, heap_new w1 _, below_al hb _⟩
theorem text_a (w : World) : Calls Tryz.prog 20 #[.string ⟨#[97]⟩, .slice none 0 0] w fun e w' => e = .returned (.string ⟨#[1, 97, 0]⟩) ∧ Below w.heap.size w w' := by
  have h1 : ∀ w, (Op.stringOp .add ⟨#[1]⟩ ⟨#[97]⟩).run Tryz.prog w = .ok (.string ⟨#[1, 97]⟩) w := fun w => run_string_add_sum w _ _ (by decide)
  have h2 : ∀ w, (Op.stringOp .add ⟨#[1, 97]⟩ ⟨#[0]⟩).run Tryz.prog w = .ok (.string ⟨#[1, 97, 0]⟩) w := fun w => run_string_add_sum w _ _ (by decide)
  go_enter Tryz.func20, Tryz.ntmps20
  go_wp2_with fail
  refine (pbytes_nil _).mono ?_
  rintro e w1 ⟨b, rfl, hb, bel⟩
  have hlt := (Array.getElem?_eq_some_iff.1 hb).1
  have c0 := cell_of_blk hb 0
  simp at c0
  go_wp2_with (first | (refine wpList_toStr _ rfl (.tmp 15) rfl ⟨w1.heap.size, 0, none⟩ 1 1 [1] rfl rfl ?hta ?_) | (refine wpList_toStr _ rfl (.tmp 19) rfl ⟨b, 0, none⟩ 1 1 [0] rfl rfl ?htb ?_))
  case hta =>
    intro j hj
    have : j = 0 := by simp at hj; omega
    subst this
    rw [add_none]
    exact (cell_of_blk (heap_new w1 _) 0).trans rfl
  case htb =>
    intro j hj
    have : j = 0 := by simp at hj; omega
    subst this
    rw [add_none]
    refine (World.cell?_of_block (a := ⟨b, 0, none⟩) (Below.heap_alloc w1 _ b hlt)).trans ?_
    exact c0
  go_ret
  exact ⟨rfl, below_al bel _⟩
theorem vertexText_a (w : World) : Calls Tryz.prog 7 #[.agg #[.int .i64 7, .string ⟨#[97]⟩, .slice none 0 0]] w fun e w' => e = .returned (.tuple #[.string ⟨#[1, 97, 0]⟩, .int .i64 0]) ∧ Below w.heap.size w w' := by
  go_enter Tryz.func7, Tryz.ntmps7
  go_wp2_with fail
  have hn := heap_new (w.alloc (.cells #[.int .i64 7, .string ⟨#[97]⟩, .slice none 0 0] 30)) (.cells #[.int .i64 7] 3)
  rw [size_alloc] at hn
  refine (check_a (w.heap.size + 1) _ hn).mono ?_
  rintro e w1 ⟨rfl, hb⟩
  have e0 := (hb.block w.heap.size (by simp; omega)).trans ((Below.heap_alloc _ _ _ (by simp)).trans (heap_new w _))
  have c1 := cell_of_blk e0 1
  have c2 := cell_of_blk e0 2
  simp at c1 c2
  have hB := below_then (below_al (below_box w _) _) hb
  clear e0 hn hb
  go_wp2_with fail
  refine (text_a _).mono ?_
  rintro e w2 ⟨rfl, hb2⟩
  go_wp2_with fail
  go_ret2
  exact ⟨rfl, below_then hB hb2⟩
def EaPost (w : World) (e : Ending) (w' : World) : Prop := ∃ b, e = .returned (.slice (some ⟨b, 0, none⟩) 1 1) ∧ w'.heap[b]? = some (.cells #[.string ⟨#[76, 97]⟩, .string ⟨#[0, 0, 0, 0, 7]⟩] 58) ∧ Below w.heap.size w w'
set_option maxHeartbeats 400000 in
theorem entries_a (w : World) : Calls Tryz.prog 16 #[.agg #[.int .i64 7, .string ⟨#[97]⟩, .slice none 0 0]] w (EaPost w) := by
  go_enter Tryz.func16, Tryz.ntmps16
  go_wp2_with fail
  have hn := heap_new (w.alloc (.cells #[.int .i64 7, .string ⟨#[97]⟩, .slice none 0 0] 30)) (.cells #[.int .i64 7] 3)
  rw [size_alloc] at hn
  refine (check_a (w.heap.size + 1) _ hn).mono ?_
  rintro e w1 ⟨rfl, hb⟩
  have e0 := (hb.block w.heap.size (by simp; omega)).trans ((Below.heap_alloc _ _ _ (by simp)).trans (heap_new w _))
  have hB := below_then (below_al (below_box w _) _) hb
  have ks : ∀ w', Below w1.heap.size w1 w' → Below w1.heap.size w1 w' ∧ w'.cell? ⟨w.heap.size, 0, none⟩ = some (.int .i64 7) ∧ w'.cell? ⟨w.heap.size, 1, none⟩ = some (.string ⟨#[97]⟩) ∧ w'.cell? ⟨w.heap.size, 2, none⟩ = some (.slice none 0 0) := fun w' hb' => by
    have e := (hb'.block _ (Array.getElem?_eq_some_iff.1 e0).1).trans e0
    exact ⟨hb', by rw [cell_of_blk e]; rfl, by rw [cell_of_blk e]; rfl, by rw [cell_of_blk e]; rfl⟩
  have KS := Lib.hid ks
  clear e0 hn hb ks
  go_wp2_with fail
  go_region_held3 (fun w' => Below w1.heap.size w1 w' ∧ w'.cell? ⟨w.heap.size, 0, none⟩ = some (.int .i64 7) ∧ w'.cell? ⟨w.heap.size, 1, none⟩ = some (.string ⟨#[97]⟩) ∧ w'.cell? ⟨w.heap.size, 2, none⟩ = some (.slice none 0 0))
    (first | exact KS.out _ (Below.refl _ _).drew | (go_split_ands; refine KS.out _ (below_then ?_ hbc); assumption) | (go_split_ands; refine KS.out _ (below_al ?_ _); assumption))
    (first | (go_at_call 40; refine (labelIndex_any ⟨#[97]⟩ _ (by decide)).mono ?_; rintro e wl ⟨rfl, rfl⟩) | (go_at_call 21; refine (five_any 7 _ (by omega)).mono ?_; rintro e wc ⟨rfl, hbc⟩))
  go_split_ands
  go_wp2_with fail
  refine wp_loop_rounds 1 ?_
  rw [rounds_succ]
  go_wp2_with fail
  go_ret
  exact ⟨_, rfl, heap_new wc _, below_then hB (by assumption)⟩

set_option maxHeartbeats 400000 in
theorem awake21_any (w : World) : Calls Tryz.prog 4 #[] w fun e w' => e = .returned (.bool true) ∧ Below w.heap.size w w' := by
  go_enter Tryz.func4, Tryz.ntmps4
  go_wp2_with fail
  refine (vertexText_a _).mono ?_
  rintro e w1 ⟨rfl, hb1⟩
  have e0 := (hb1.block w.heap.size (by simp)).trans (heap_new w _)
  have c0 := cell_of_blk e0 0
  have c1 := cell_of_blk e0 1
  have c2 := cell_of_blk e0 2
  simp at c0 c1 c2
  have hB1 := below_then (below_box w _) hb1
  have hlw := (Array.getElem?_eq_some_iff.1 e0).1
  clear e0 hb1
  go_wp2_with fail
  refine (entries_a _).mono ?_
  rintro e w2 ⟨b, rfl, hb, bel⟩
  have d0 := cell_of_blk hb 0
  have d1 := cell_of_blk hb 1
  simp at d0 d1
  have hlb := (Array.getElem?_eq_some_iff.1 hb).1
  have hB2 := below_then hB1 bel
  clear hb bel
  go_wp2_with fail
  refine (vertexKey_any 7 _).mono ?_
  rintro e w3 ⟨rfl, hb3⟩
  go_wp2_with fail
  go_ret
  exact ⟨rfl, below_then hB2 hb3⟩
end Go.Proofs.YtkbmipmegljidaaGreat
