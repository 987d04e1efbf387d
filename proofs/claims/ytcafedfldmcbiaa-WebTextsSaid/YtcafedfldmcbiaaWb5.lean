/- Bytes and texts: conversions at the operation; web.five, web.number, LabelIndex, ValueIndex, keys. Conditions: each contract's own premises. -/
import Derived.Test.YtcafedfldmcbiaaWb4
import Derived.Laws.Concat
import Derived.Laws.BitsAllLaws
namespace Go.Proofs.Ytcafedfldmcbiaa
open Go.RowKit Go.Maps

/-- a byte as a value -/
def bv (b : UInt8) : Value := .int .u8 (b.toNat : Int)
/-- 'string(b)' at the operation, b's cells known -/
theorem wpList_toStr (w : World) {ops : Array Oper} {rest : List Oper} {o : Oper} {a : Act} {Q : Exit → Act → World → Prop} (hg : o.guard = none) (x : Operand) (hop : o.op = Op.convert 46 9 x) (ad : Addr) (n cap : Nat) (l : List UInt8) (hx : a.eval x = .slice (some ad) n cap) (hn : n = l.length)
    (hc : ∀ j (hj : j < l.length), w.cell? (ad.add j) = some (.int .u8 (l[j].toNat : Int))) (hK : wpList Try.prog ops Q rest (a.put o.dst (.string ⟨l.toArray⟩)) w) :
    wpList Try.prog ops Q (o :: rest) a w := by
  subst hn
  refine wpList_plain hg fun K' hK' => ?_
  have hrun := run_convert_bytes_back (P := Try.prog) w 46 9 5 ad cap l Try.underlying46 Try.underlying5 Try.underlying9 hc
  unfold Oper.wp
  simp [execOp, hop, hx, hrun, Result.andThen]
  exact hK' _ _ hK
/-- bytes in memory -/
structure BsAt (w : World) (b off : Nat) (l : List UInt8) : Prop where
  cells : ∀ (i : Nat) (x : UInt8), l[i]? = some x → w.cell? ⟨b, off + i, none⟩ = some (bv x)
  lt : b < w.heap.size
theorem BsAt.of_block {w w' : World} {b off : Nat} {l : List UInt8} (h : BsAt w b off l) (hb : w'.heap[b]? = w.heap[b]?) : BsAt w' b off l :=
  ⟨fun i x hx => (World.cell?_of_block (a := ⟨b, off + i, none⟩) hb).trans (h.cells i x hx), (Array.getElem?_eq_some_iff.1 (hb.trans (Array.getElem?_eq_getElem h.lt))).1⟩
theorem BsAt.conv {w : World} {b off : Nat} {l : List UInt8} (h : BsAt w b off l) : ∀ j (hj : j < l.length), w.cell? ((⟨b, off, none⟩ : Addr).add j) = some (.int .u8 (l[j].toNat : Int)) := fun j hj => by
  rw [add_none]; exact h.cells j l[j] (List.getElem?_eq_getElem hj)
/-- '[]byte(s)' at the operation -/
theorem wpList_toBytes (w : World) {ops : Array Oper} {rest : List Oper} {o : Oper} {a : Act} {Q : Exit → Act → World → Prop} (hg : o.guard = none) (x : Operand) (hop : o.op = Op.convert 9 46 x) (s : ByteArray) (hx : a.eval x = .string s)
    (hK : ∀ w1 cap, BsAt w1 w.heap.size 0 s.data.toList → Below w.heap.size w w1 → w1.heap.size = w.heap.size + 1 → s.size ≤ cap → wpList Try.prog ops Q rest (a.put o.dst (.slice (some ⟨w.heap.size, 0, none⟩) s.size cap)) w1) :
    wpList Try.prog ops Q (o :: rest) a w := by
  refine wpList_plain hg fun K' hK' => ?_
  have hrun := run_bytes_of_string (P := Try.prog) w 9 46 5 s Try.underlying9 Try.underlying46 Try.underlying5
  unfold Oper.wp
  simp [execOp, hop, hx, hrun, Result.andThen]
  refine hK' _ _ (hK _ _ ⟨fun i y hy => ?_, by simp⟩ ?_ (by simp) ?_)
  · have hb := heap_new w.drew (.cells (bytesRow s (grownCap w s.size 0 5)) 5 ((bytesRow s (grownCap w s.size 0 5)).size, (bytesRow s (grownCap w s.size 0 5)).size + 1))
    rw [Nat.zero_add]
    refine (cell_of_blk hb i).trans ?_
    obtain ⟨hi, e⟩ := List.getElem?_eq_some_iff.1 hy
    have hi' : i < s.data.size := by simpa using hi
    rw [bytesRow_at s _ i hi']
    have : s.data[i] = y := by rw [← e]; simp
    rw [this]; rfl
  · exact ((Below.refl _ _).drew).alloc (Nat.le_refl _) _
  · exact grownCap_ge w s.size 0 5

/-- a number in five bytes -/
def fiveL (n : Nat) : List UInt8 := [UInt8.ofNat (n / 4294967296), UInt8.ofNat (n / 16777216), UInt8.ofNat (n / 65536), UInt8.ofNat (n / 256), UInt8.ofNat n]
set_option maxRecDepth 10000 in
theorem five_any (n : Nat) (w : World) (h : n < 1099511627776) : Calls Try.prog 39 #[.int .i64 n] w fun e w' => e = .returned (.string ⟨(fiveL n).toArray⟩) ∧ Below w.heap.size w w' := by
  go_enter Try.func39, Try.ntmps39
  go_wp2_with (refine wpList_toStr _ rfl (.tmp 17) rfl ⟨w.heap.size, 0, none⟩ 5 5 (fiveL n) rfl rfl ?hc5 ?_)
  case hc5 =>
    intro j hj
    have hb := heap_new w (.cells #[.int .u8 ((n : Int) / 4294967296), .int .u8 ((n : Int) / 16777216 % 256), .int .u8 ((n : Int) / 65536 % 256), .int .u8 ((n : Int) / 256 % 256), .int .u8 ((n : Int) % 256)] 5)
    rw [add_none]
    refine (cell_of_blk hb _).trans ?_
    match j, hj with
    | 0, _ => simp [fiveL]; omega
    | 1, _ => simp [fiveL]
    | 2, _ => simp [fiveL]
    | 3, _ => simp [fiveL]
    | 4, _ => simp [fiveL]
  go_ret
  exact ⟨rfl, below_box w _⟩

/-- bytes as a number -/
def numL (l : List UInt8) : Nat := l.foldl (fun n b => n * 256 + b.toNat) 0
theorem numL_snoc {l : List UInt8} {k : Nat} (h : k < l.length) : numL (l.take (k + 1)) = numL (l.take k) * 256 + (l[k]).toNat := by
  unfold numL
  rw [List.take_succ_eq_append_getElem h, List.foldl_append]; rfl
theorem numL_take (l : List UInt8) : ∀ k, k ≤ l.length → numL (l.take k) < 256 ^ k
  | 0, _ => by simp [numL]
  | k + 1, h => by
    have ih := numL_take l k (by omega)
    have hb := (l[k]'(by omega)).toNat_lt
    rw [numL_snoc (by omega), Nat.pow_succ]
    omega
theorem i64_or_byte (a b : Nat) (ha : a < 4294967296) (hb : b < 256) : bits .or .i64 ((a : Int) * 256) (b : Int) = (a : Int) * 256 + b := by
  have e : ((a : Int) * 256) = ((a * 256 : Nat) : Int) := by simp
  have e2 : a * 256 ||| b = a * 256 + b := by
    have := Nat.two_pow_add_eq_or_of_lt (i := 8) (b := b) (by omega) a
    rw [show 2 ^ 8 * a = a * 256 by omega] at this
    exact this.symm
  rw [e]
  show IntKind.i64.wrap ((BitVec.ofInt 64 ((a * 256 : Nat) : Int) ||| BitVec.ofInt 64 (b : Int)).toNat : Int) = _
  rw [BitVec.toNat_or, ofInt_u64 (a * 256) (by omega), ofInt_u64 b (by omega), e2]
  simp [IntKind.wrap, IntKind.bits, IntKind.signed]
  omega
set_option maxHeartbeats 400000 in
theorem number_any (s : ByteArray) (w : World) (h5 : 5 ≤ s.size) (hm : s.size ≤ maxLen) : Calls Try.prog 42 #[.string s] w fun e w' => e = .returned (.int .i64 (numL (s.data.toList.take 5))) ∧ Below w.heap.size w w' := by
  unfold maxLen at hm
  have hx : (s.extract 0 5).size = 5 := by simp; omega
  have HX := Lib.hid hx
  have HD : Hid ((s.extract 0 5).data.toList = s.data.toList.take 5) := Lib.hid (by simp)
  have hlen : (s.data.toList.take 5).length = 5 := by simp; omega
  have HLN := Lib.hid hlen
  clear hx hlen
  go_enter Try.func42, Try.ntmps42
  go_wp2_with (refine wpList_toBytes _ rfl (.tmp 7) rfl (s.extract 0 5) rfl ?_; intro w1 cap hb1 bel z1 hcap; rw [HX.out] at hcap ⊢; rw [HD.out] at hb1)
  obtain ⟨l, hl⟩ : ∃ l, s.data.toList.take 5 = l := ⟨_, rfl⟩
  rw [hl] at hb1 HLN
  have HL := Lib.hid hl
  clear hl HX HD
  have llen : l.length ≤ 5 := by rw [HLN.out]; exact Nat.le_refl _
  go_loop [3, 10] (fun n i => ∃ k : Nat, k ≤ 5 ∧ i = .int .i64 k ∧ n = .int .i64 (numL (l.take k) : Nat)) (fun _ i => 5 - (intOf i).toNat)
  case atStart => exact ⟨0, by omega, rfl, rfl⟩
  case round =>
    obtain ⟨k, hk, rfl, rfl⟩ := hrel
    by_cases hlt : k < 5
    · have hlk : k < l.length := by rw [HLN.out]; exact hlt
      have c1 := hb1.cells k l[k] (List.getElem?_eq_getElem hlk)
      rw [Nat.zero_add] at c1
      unfold bv at c1
      have hlw := hb1.lt
      have hs := Lib.hid (numL_snoc hlk)
      have hn := numL_take l k (by omega)
      have hn2 : numL (l.take k) < 4294967296 := Nat.lt_of_lt_of_le hn (Nat.le_trans (Nat.pow_le_pow_right (by omega) (show k ≤ 4 by omega)) (by decide))
      obtain ⟨y, hy⟩ : ∃ y, (l[k]).toNat = y := ⟨_, rfl⟩
      have hy2 : y < 256 := by rw [← hy]; exact (l[k]).toNat_lt
      rw [hy] at c1 hs
      obtain ⟨m, hm'⟩ : ∃ m, numL (l.take k) = m := ⟨_, rfl⟩
      rw [hm'] at hs hn2 ⊢
      have hor := i64_or_byte m y hn2 hy2
      clear hy hm' hn hb1
      go_wp2
      go_round
      case rel => exact ⟨k + 1, by omega, by go_num, by rw [hs.out]; simp⟩
      case measure => simp [intOf]; omega
    · obtain rfl : k = 5 := by omega
      clear hb1
      go_wp2
      go_ret
      exact ⟨ret_int (by rw [HL.out, List.take_of_length_le llen]), bel⟩
set_option maxHeartbeats 400000 in
theorem r21number_any (s : ByteArray) (w : World) (h5 : 5 ≤ s.size) (hm : s.size ≤ maxLen) : Calls Try.prog 27 #[.string s] w fun e w' => e = .returned (.int .i64 (numL (s.data.toList.take 5))) ∧ w = w' := by
  unfold maxLen at hm
  have hlen : (s.data.toList.take 5).length = 5 := by simp; omega
  have HLN := Lib.hid hlen
  have hget : ∀ k (hk : k < 5), (s.data.toList.take 5)[k]'(by rw [HLN.out]; exact hk) = s[k]'(by omega) := fun k hk => by simp; rfl
  have HG := Lib.hid hget
  clear hlen hget
  go_enter Try.func27, Try.ntmps27
  go_wp2
  obtain ⟨l, hl⟩ : ∃ l, s.data.toList.take 5 = l := ⟨_, rfl⟩
  have llen : l.length ≤ 5 := by rw [← hl, HLN.out]; exact Nat.le_refl _
  go_loop [3, 4] (fun n i => ∃ k : Nat, k ≤ 5 ∧ i = .int .i64 k ∧ n = .int .i64 (numL (l.take k) : Nat)) (fun _ i => 5 - (intOf i).toNat)
  case atStart => exact ⟨0, by omega, rfl, rfl⟩
  case round =>
    obtain ⟨k, hk, rfl, rfl⟩ := hrel
    by_cases hlt : k < 5
    · have hlk : k < l.length := by rw [← hl, HLN.out]; exact hlt
      have hs := numL_snoc hlk
      have hg : l[k] = s[k] := by have := HG.out k hlt; simp only [hl] at this; exact this
      rw [hg] at hs
      have HS := Lib.hid hs
      have hn := numL_take l k (by omega)
      have hn2 : numL (l.take k) < 4294967296 := Nat.lt_of_lt_of_le hn (Nat.le_trans (Nat.pow_le_pow_right (by omega) (show k ≤ 4 by omega)) (by decide))
      have hy2 := (s[k]'(by omega)).toNat_lt
      have HL := Lib.hid hl
      clear hs hg hn hl
      obtain ⟨m, hm'⟩ : ∃ m, numL (l.take k) = m := ⟨_, rfl⟩
      rw [hm'] at HS hn2 ⊢
      clear hm'
      go_wp2
      go_round
      case rel => exact ⟨k + 1, by omega, by go_num, by rw [HS.out]; simp⟩
      case measure => simp [intOf]; omega
    · obtain rfl : k = 5 := by omega
      have HL := Lib.hid hl
      clear hl
      go_wp2
      go_ret
      exact ⟨ret_int (by rw [HL.out, List.take_of_length_le llen]), rfl⟩
end Go.Proofs.Ytcafedfldmcbiaa
