/- The reference's bytes of a value (cobwebref02.Bytes) and five bytes of a number (cobwebref21.Five); web.Span. Conditions: each contract's own premises. -/
import Derived.Test.YtcafedfldmcbiaaWb8
namespace Go.Proofs.Ytcafedfldmcbiaa
open Go.RowKit Go.Maps

theorem ival {k : IntKind} {a b : Int} (h : a = b) : Value.int k a = .int k b := by rw [h]
def RbPost (w : World) (l : List UInt8) (e : Ending) (w' : World) : Prop := ∃ r, e = .returned r ∧ BsO w' w.heap.size r l ∧ Below w.heap.size w w'
/-- append of nothing -/
theorem wpList_appN (w : World) {ops : Array Oper} {rest : List Oper} {o : Oper} {a : Act} {Q : Exit → Act → World → Prop} (hgd : o.guard = none) (s x : Operand)
    (ho : o.op = .call { callee := .builtin .append, args := #[s, x], argTypes := #[46, 46] }) (B : Nat) (v : Value) (l : List UInt8) (hs : a.eval s = v) (hown : BsO w B v l) (hx : a.eval x = .slice none 0 0)
    (h : wpList Try.prog ops Q rest (a.put o.dst v) w) : wpList Try.prog ops Q (o :: rest) a w := by
  obtain ⟨i0, hi, _, _, _⟩ := info_parts infoU8
  exact wpList_append_own_none hgd s x 46 ho B 5 i0 1 Try.underlying46 hi v _ _ hs hown hx h
theorem u64_add (n : Int) (h : I64 n) : IntKind.u64.wrap (IntKind.u64.wrap n + 9223372036854775808) = (((n + 9223372036854775808).toNat : Nat) : Int) := by
  unfold I64 at h
  simp [IntKind.wrap, IntKind.bits, IntKind.signed]
  omega
theorem BsO.one {w : World} {B : Nat} {x : Value} {b : UInt8} (hB : B ≤ w.heap.size) (h : x = bv b) : BsO (w.alloc (.cells #[x] 5)) B (.slice (some ⟨w.heap.size, 0, none⟩) 1 1) [b] := by
  subst h
  exact BsO.new (l := [b]) (heap_new w _) hB rfl (by unfold maxLen; simp)

set_option maxRecDepth 10000 in
set_option maxHeartbeats 2000000 in
theorem r2bytes_num (v : Vl) (w : World) (h : v.Ok) (hn : v.isN = true) : Calls Try.prog 15 #[.agg #[.int .i64 v.kind, .int .i64 v.n, .string v.s]] w (RbPost w v.bytes) := by
  have hk1 : (v.kind == 1) = true := by unfold Vl.isN at hn; simp at hn; simpa using hn.1
  have hux := u64_add v.n h.n
  have hi := h.n
  unfold I64 at hi
  obtain ⟨hi1, hi2⟩ := hi
  obtain ⟨U, hU⟩ : ∃ U, (v.n + 9223372036854775808).toNat = U := ⟨_, rfl⟩
  rw [hU] at hux
  have hUl : U < 18446744073709551616 := by omega
  have HV : Hid (v.bytes = 1 :: eight U) := Lib.hid (by unfold Vl.bytes numBytes; rw [hn, hU]; rfl)
  clear hU hn h hi1 hi2
  go_enter Try.func15, Try.ntmps15
  go_wp2_with fail
  go_loopw [3, 4, 5] (fun u b i wr => ∃ k : Nat, k ≤ 8 ∧ i = .int .i64 k ∧ u = .int .u64 ((U / 256 ^ k : Nat) : Int) ∧ (k = 0 ∧ b = .slice none 0 0 ∨ 0 < k ∧ BsO wr w.heap.size b ((eight U).drop (8 - k))) ∧ Below w.heap.size w wr) (fun _ _ i _ => (8 - intOf i).toNat)
  case atStart => exact ⟨0, by omega, rfl, ival (by simp), .inl ⟨rfl, rfl⟩, below_box w _⟩
  case round =>
    obtain ⟨k, hk, rfl, rfl, hO, hbel⟩ := hrel
    have hz := hbel.size
    have hc : k = 0 ∨ k = 1 ∨ k = 2 ∨ k = 3 ∨ k = 4 ∨ k = 5 ∨ k = 6 ∨ k = 7 ∨ k = 8 := by omega
    rcases hc with rfl | rfl | rfl | rfl | rfl | rfl | rfl | rfl | rfl
    · obtain rfl : u4 = .slice none 0 0 := by
        rcases hO with h | h
        · exact h.2
        · exact absurd h.1 (Nat.lt_irrefl _)
      clear hO
      go_wp2_with (at_builtin; refine wpList_appN _ rfl (.tmp 22) (.tmp 23) rfl w.heap.size _ [UInt8.ofNat U] rfl (BsO.one ?hB0 ?hX0) rfl ?_; (case hB0 => exact hz); (case hX0 => (simp [bv])))
      exact ⟨⟨1, by omega, by simp, ival (by simp), .inr ⟨by omega, BsO.one hz (by simp [bv])⟩, below_al hbel _⟩, by simp [intOf]⟩
    · have hO' : BsO wr w.heap.size u4 ((eight U).drop (8 - 1)) := by
        rcases hO with h | h
        · exact absurd h.1 (by decide)
        · exact h.2
      clear hO
      obtain ⟨g, cap, rfl, hg, hat⟩ := hO'.at' (by simp [eight])
      go_wp2_with (at_builtin; refine wpList_appB _ rfl (.tmp 22) (.tmp 23) rfl w.heap.size _ [UInt8.ofNat (U / 256)] rfl (BsO.one ?hB1 ?hX1) ⟨g, 0, none⟩ 1 cap ((eight U).drop (8 - 1)) rfl rfl ((hat.of_block (Below.heap_alloc _ _ _ hat.lt)).conv) (by simp [eight]) (by simp; omega) ?_; (case hB1 => exact hz); (case hX1 => (simp [bv] <;> omega)); intro v1 w2 o1 b1 g1 k1)
      exact ⟨⟨2, by omega, by simp, ival (by simp; omega), .inr ⟨by omega, o1⟩, (below_al hbel _).trans b1⟩, by simp [intOf]⟩
    · have hO' : BsO wr w.heap.size u4 ((eight U).drop (8 - 2)) := by
        rcases hO with h | h
        · exact absurd h.1 (by decide)
        · exact h.2
      clear hO
      obtain ⟨g, cap, rfl, hg, hat⟩ := hO'.at' (by simp [eight])
      go_wp2_with (at_builtin; refine wpList_appB _ rfl (.tmp 22) (.tmp 23) rfl w.heap.size _ [UInt8.ofNat (U / 65536)] rfl (BsO.one ?hB2 ?hX2) ⟨g, 0, none⟩ 2 cap ((eight U).drop (8 - 2)) rfl rfl ((hat.of_block (Below.heap_alloc _ _ _ hat.lt)).conv) (by simp [eight]) (by simp; omega) ?_; (case hB2 => exact hz); (case hX2 => (simp [bv] <;> omega)); intro v1 w2 o1 b1 g1 k1)
      exact ⟨⟨3, by omega, by simp, ival (by simp; omega), .inr ⟨by omega, o1⟩, (below_al hbel _).trans b1⟩, by simp [intOf]⟩
    · have hO' : BsO wr w.heap.size u4 ((eight U).drop (8 - 3)) := by
        rcases hO with h | h
        · exact absurd h.1 (by decide)
        · exact h.2
      clear hO
      obtain ⟨g, cap, rfl, hg, hat⟩ := hO'.at' (by simp [eight])
      go_wp2_with (at_builtin; refine wpList_appB _ rfl (.tmp 22) (.tmp 23) rfl w.heap.size _ [UInt8.ofNat (U / 16777216)] rfl (BsO.one ?hB3 ?hX3) ⟨g, 0, none⟩ 3 cap ((eight U).drop (8 - 3)) rfl rfl ((hat.of_block (Below.heap_alloc _ _ _ hat.lt)).conv) (by simp [eight]) (by simp; omega) ?_; (case hB3 => exact hz); (case hX3 => (simp [bv] <;> omega)); intro v1 w2 o1 b1 g1 k1)
      exact ⟨⟨4, by omega, by simp, ival (by simp; omega), .inr ⟨by omega, o1⟩, (below_al hbel _).trans b1⟩, by simp [intOf]⟩
    · have hO' : BsO wr w.heap.size u4 ((eight U).drop (8 - 4)) := by
        rcases hO with h | h
        · exact absurd h.1 (by decide)
        · exact h.2
      clear hO
      obtain ⟨g, cap, rfl, hg, hat⟩ := hO'.at' (by simp [eight])
      go_wp2_with (at_builtin; refine wpList_appB _ rfl (.tmp 22) (.tmp 23) rfl w.heap.size _ [UInt8.ofNat (U / 4294967296)] rfl (BsO.one ?hB4 ?hX4) ⟨g, 0, none⟩ 4 cap ((eight U).drop (8 - 4)) rfl rfl ((hat.of_block (Below.heap_alloc _ _ _ hat.lt)).conv) (by simp [eight]) (by simp; omega) ?_; (case hB4 => exact hz); (case hX4 => (simp [bv] <;> omega)); intro v1 w2 o1 b1 g1 k1)
      exact ⟨⟨5, by omega, by simp, ival (by simp; omega), .inr ⟨by omega, o1⟩, (below_al hbel _).trans b1⟩, by simp [intOf]⟩
    · have hO' : BsO wr w.heap.size u4 ((eight U).drop (8 - 5)) := by
        rcases hO with h | h
        · exact absurd h.1 (by decide)
        · exact h.2
      clear hO
      obtain ⟨g, cap, rfl, hg, hat⟩ := hO'.at' (by simp [eight])
      go_wp2_with (at_builtin; refine wpList_appB _ rfl (.tmp 22) (.tmp 23) rfl w.heap.size _ [UInt8.ofNat (U / 1099511627776)] rfl (BsO.one ?hB5 ?hX5) ⟨g, 0, none⟩ 5 cap ((eight U).drop (8 - 5)) rfl rfl ((hat.of_block (Below.heap_alloc _ _ _ hat.lt)).conv) (by simp [eight]) (by simp; omega) ?_; (case hB5 => exact hz); (case hX5 => (simp [bv] <;> omega)); intro v1 w2 o1 b1 g1 k1)
      exact ⟨⟨6, by omega, by simp, ival (by simp; omega), .inr ⟨by omega, o1⟩, (below_al hbel _).trans b1⟩, by simp [intOf]⟩
    · have hO' : BsO wr w.heap.size u4 ((eight U).drop (8 - 6)) := by
        rcases hO with h | h
        · exact absurd h.1 (by decide)
        · exact h.2
      clear hO
      obtain ⟨g, cap, rfl, hg, hat⟩ := hO'.at' (by simp [eight])
      go_wp2_with (at_builtin; refine wpList_appB _ rfl (.tmp 22) (.tmp 23) rfl w.heap.size _ [UInt8.ofNat (U / 281474976710656)] rfl (BsO.one ?hB6 ?hX6) ⟨g, 0, none⟩ 6 cap ((eight U).drop (8 - 6)) rfl rfl ((hat.of_block (Below.heap_alloc _ _ _ hat.lt)).conv) (by simp [eight]) (by simp; omega) ?_; (case hB6 => exact hz); (case hX6 => (simp [bv] <;> omega)); intro v1 w2 o1 b1 g1 k1)
      exact ⟨⟨7, by omega, by simp, ival (by simp; omega), .inr ⟨by omega, o1⟩, (below_al hbel _).trans b1⟩, by simp [intOf]⟩
    · have hO' : BsO wr w.heap.size u4 ((eight U).drop (8 - 7)) := by
        rcases hO with h | h
        · exact absurd h.1 (by decide)
        · exact h.2
      clear hO
      obtain ⟨g, cap, rfl, hg, hat⟩ := hO'.at' (by simp [eight])
      go_wp2_with (at_builtin; refine wpList_appB _ rfl (.tmp 22) (.tmp 23) rfl w.heap.size _ [UInt8.ofNat (U / 72057594037927936)] rfl (BsO.one ?hB7 ?hX7) ⟨g, 0, none⟩ 7 cap ((eight U).drop (8 - 7)) rfl rfl ((hat.of_block (Below.heap_alloc _ _ _ hat.lt)).conv) (by simp [eight]) (by simp; omega) ?_; (case hB7 => exact hz); (case hX7 => (simp [bv] <;> omega)); intro v1 w2 o1 b1 g1 k1)
      exact ⟨⟨8, by omega, by simp, ival (by simp; omega), .inr ⟨by omega, o1⟩, (below_al hbel _).trans b1⟩, by simp [intOf]⟩
    · have hO' : BsO wr w.heap.size u4 (eight U) := by
        rcases hO with h | h
        · exact absurd h.1 (by decide)
        · exact h.2
      clear hO
      obtain ⟨g, cap, rfl, hg, hat⟩ := hO'.at' (by simp [eight])
      go_wp2_with (at_builtin; refine wpList_appB _ rfl (.tmp 27) (.tmp 28) rfl w.heap.size _ [1] rfl (BsO.one ?hB8 ?hX8) ⟨g, 0, none⟩ 8 cap (eight U) rfl rfl ((hat.of_block (Below.heap_alloc _ _ _ hat.lt)).conv) (by simp [eight]) (by simp; omega) ?_; (case hB8 => exact hz); (case hX8 => rfl); intro v1 w2 o1 b1 g1 k1)
      go_ret
      exact ⟨_, rfl, by rw [HV.out]; exact o1, (below_al hbel _).trans b1⟩

theorem new_esc {w : World} : ∀ j (hj : j < ([0, 255] : List UInt8).length), (w.alloc (.cells #[.int .u8 0, .int .u8 255] 5)).cell? ((⟨w.heap.size, 0, none⟩ : Addr).add j) = some (.int .u8 ((([0, 255] : List UInt8)[j]).toNat : Int)) := by
  intro j hj
  rw [add_none]
  refine (cell_of_blk (heap_new w _) _).trans ?_
  match j, hj with
  | 0, _ => rfl
  | 1, _ => rfl
set_option maxRecDepth 10000 in
set_option maxHeartbeats 1000000 in
theorem r2bytes_text (v : Vl) (w : World) (hn : v.isN = false) (ht : v.isT = true) : Calls Try.prog 15 #[.agg #[.int .i64 v.kind, .int .i64 v.n, .string v.s]] w (RbPost w v.bytes) := by
  have hs : v.s.size ≤ 200 := by unfold Vl.isT at ht; simp at ht; exact ht.2
  have hk1 : (v.kind == 1) = false := by unfold Vl.isT at ht; simp at ht; have := ht.1.1; simp; omega
  have HV : Hid (v.bytes = 2 :: (escL v.s.data.toList ++ [0, 0])) := Lib.hid (by unfold Vl.bytes; rw [hn]; rfl)
  clear hn ht
  have hll : v.s.data.toList.length = v.s.size := by simp
  have HLL := Lib.hid hll
  clear hll
  go_enter Try.func15, Try.ntmps15
  go_wp2_with fail
  obtain ⟨W, hW⟩ : ∃ W, W = w.alloc (.cells #[.int .i64 v.kind, .int .i64 v.n, .string v.s] 42) := ⟨_, rfl⟩
  have hzW : W.heap.size = w.heap.size + 1 := by rw [hW]; simp
  have hBW : Below w.heap.size w W := by rw [hW]; exact below_box w _
  have eW : W.heap[w.heap.size]? = some (.cells #[.int .i64 v.kind, .int .i64 v.n, .string v.s] 42) := by rw [hW]; exact heap_new w _
  have hcl : ∀ w', Below W.heap.size W w' → w'.cell? ⟨w.heap.size, 2, none⟩ = some (.string v.s) ∧ w.heap.size < w'.heap.size := fun w' hb => by
    have e := (hb.block w.heap.size (by rw [hzW]; omega)).trans eW
    exact ⟨by rw [cell_of_blk e]; rfl, (Array.getElem?_eq_some_iff.1 e).1⟩
  have HCL := Lib.hid hcl
  have st : BsO (W.alloc (.cells #[.int .u8 2] 5)) W.heap.size (.slice (some ⟨W.heap.size, 0, none⟩) 1 1) (2 :: escL (v.s.data.toList.take 0)) := BsO.one (b := 2) (Nat.le_refl _) rfl
  rw [hW] at st
  simp only [size_alloc] at st
  have ST := Lib.hid st
  have HW := Lib.hid hW
  have HZ := Lib.hid hzW
  clear hcl eW hW hzW st
  go_loopw [6, 7] (fun b i wr => ∃ k : Nat, k ≤ v.s.size ∧ i = .int .i64 k ∧ BsO wr W.heap.size b (2 :: escL (v.s.data.toList.take k)) ∧ Below W.heap.size W wr) (fun _ i _ => v.s.size - (intOf i).toNat)
  case atStart => exact ⟨0, by omega, rfl, by rw [HW.out]; simp only [size_alloc]; exact ST.out, by rw [HW.out]; exact below_box _ _⟩
  case round =>
    obtain ⟨k, hk, rfl, hO, hbel⟩ := hrel
    have hz := hbel.size
    obtain ⟨c2, hlw⟩ := HCL.out wr hbel
    have hel : (escL (v.s.data.toList.take k)).length ≤ 400 := by
      have h1 := escL_len (v.s.data.toList.take k)
      have h2 : (v.s.data.toList.take k).length ≤ k := List.length_take_le _ _
      omega
    by_cases hlt : k < v.s.size
    · have hlk : k < v.s.data.toList.length := by rw [HLL.out]; exact hlt
      have het := escL_take hlk
      obtain ⟨c, hc⟩ : ∃ c, v.s[k] = c := ⟨_, rfl⟩
      have hc2 : v.s.data.toList[k] = c := hc
      rw [hc2] at het
      have HET := Lib.hid het
      clear het hc2
      by_cases h0 : c = 0
      · subst h0
        rw [if_pos rfl] at HET
        go_wp2_with (at_builtin; refine wpList_appB _ rfl (.tmp 43) (.tmp 44) rfl W.heap.size _ _ rfl (hO.alloc _) ⟨wr.heap.size, 0, none⟩ 2 2 [0, 255] rfl rfl new_esc (by simp; omega) (by simp; omega) ?_; intro v1 w2 o1 b1 g1 k1)
        refine ⟨⟨k + 1, by omega, by go_num, ?_, (below_al hbel _).trans b1⟩, by simp [intOf]; omega⟩
        rw [HET.out]
        simpa using o1
      · rw [if_neg h0] at HET
        have n0 : ((c.toNat : Int) == 0) = false := by
          have : c.toNat ≠ 0 := fun e => h0 (UInt8.toNat_inj.1 e)
          simpa using this
        clear h0
        go_wp2_with (at_builtin; refine wpList_appB _ rfl (.tmp 46) (.tmp 51) rfl W.heap.size _ _ rfl (hO.alloc _) ⟨wr.heap.size, 0, none⟩ 1 1 [c] rfl rfl (new_one ?hxa) (by simp; omega) (by simp; omega) ?_; (case hxa => rfl); intro v1 w2 o1 b1 g1 k1)
        refine ⟨⟨k + 1, by omega, by go_num, ?_, (below_al hbel _).trans b1⟩, by simp [intOf]; omega⟩
        rw [HET.out]
        simpa using o1
    · have hkk : k = v.s.size := by omega
      have HKK := Lib.hid hkk
      clear hkk
      go_wp2_with (at_builtin; refine wpList_appB _ rfl (.tmp 53) (.tmp 54) rfl W.heap.size _ _ rfl (hO.alloc _) ⟨wr.heap.size, 0, none⟩ 2 2 [0, 0] rfl rfl new_two (by simp; omega) (by simp; omega) ?_; intro v1 w2 o1 b1 g1 k1)
      go_ret
      refine ⟨_, rfl, ?_, hBW.trans (((below_al hbel _).trans b1).mono hBW.size)⟩
      rw [HKK.out, List.take_of_length_le (by rw [HLL.out]; exact Nat.le_refl _)] at o1
      rw [HV.out]
      exact o1.mono hBW.size
theorem r2bytes_any (v : Vl) (w : World) (h : v.Ok) (hr : v.right = true) : Calls Try.prog 15 #[.agg #[.int .i64 v.kind, .int .i64 v.n, .string v.s]] w (RbPost w v.bytes) := by
  cases hn : v.isN
  · exact r2bytes_text v w hn (by unfold Vl.right at hr; rw [hn] at hr; simpa using hr)
  · exact r2bytes_num v w h hn

set_option maxRecDepth 10000 in
set_option maxHeartbeats 1000000 in
theorem r21five_any (n : Nat) (w : World) (h : n < 1099511627776) : Calls Try.prog 17 #[.int .i64 n] w fun e w' => e = .returned (.string ⟨(fiveL n).toArray⟩) ∧ Below w.heap.size w w' := by
  have hadd : ∀ (a b : List UInt8) (w : World), a.length = 1 → b.length ≤ 10 → (Op.stringOp .add ⟨a.toArray⟩ ⟨b.toArray⟩).run Try.prog w = .ok (.string ⟨(a ++ b).toArray⟩) w := fun a b w ha hb => run_string_add_lists w a b (by omega) (by omega)
  have HADD := Lib.hid hadd
  clear hadd
  go_enter Try.func17, Try.ntmps17
  go_wp2_with fail
  go_loopw [0, 3, 4] (fun m s i wr => ∃ k : Nat, k ≤ 5 ∧ i = .int .i64 k ∧ m = .int .i64 ((n / 256 ^ k : Nat) : Int) ∧ s = .string ⟨((fiveL n).drop (5 - k)).toArray⟩ ∧ Below w.heap.size w wr) (fun _ _ i _ => (5 - intOf i).toNat)
  case atStart => exact ⟨0, by omega, rfl, ival (by simp), rfl, Below.refl _ _⟩
  case round =>
    obtain ⟨k, hk, rfl, rfl, rfl, hbel⟩ := hrel
    have hz := hbel.size
    have hc : k = 0 ∨ k = 1 ∨ k = 2 ∨ k = 3 ∨ k = 4 ∨ k = 5 := by omega
    rcases hc with rfl | rfl | rfl | rfl | rfl | rfl
    · have ha := fun w => HADD.out [UInt8.ofNat (n / 1)] ((fiveL n).drop (5 - 0)) w rfl (by simp [fiveL])
      go_wp2_with (refine wpList_toStr _ rfl (.tmp 12) rfl ⟨wr.heap.size, 0, none⟩ 1 1 [UInt8.ofNat (n / 1)] rfl rfl (new_one ?hF0) ?_; (case hF0 => (simp [bv] <;> omega)))
      exact ⟨⟨1, by omega, by simp, ival (by simp), rfl, below_al hbel _⟩, by simp [intOf]⟩
    · have ha := fun w => HADD.out [UInt8.ofNat (n / 256)] ((fiveL n).drop (5 - 1)) w rfl (by simp [fiveL])
      go_wp2_with (refine wpList_toStr _ rfl (.tmp 12) rfl ⟨wr.heap.size, 0, none⟩ 1 1 [UInt8.ofNat (n / 256)] rfl rfl (new_one ?hF1) ?_; (case hF1 => (simp [bv] <;> omega)))
      exact ⟨⟨2, by omega, by simp, ival (by simp; omega), rfl, below_al hbel _⟩, by simp [intOf]⟩
    · have ha := fun w => HADD.out [UInt8.ofNat (n / 65536)] ((fiveL n).drop (5 - 2)) w rfl (by simp [fiveL])
      go_wp2_with (refine wpList_toStr _ rfl (.tmp 12) rfl ⟨wr.heap.size, 0, none⟩ 1 1 [UInt8.ofNat (n / 65536)] rfl rfl (new_one ?hF2) ?_; (case hF2 => (simp [bv] <;> omega)))
      exact ⟨⟨3, by omega, by simp, ival (by simp; omega), rfl, below_al hbel _⟩, by simp [intOf]⟩
    · have ha := fun w => HADD.out [UInt8.ofNat (n / 16777216)] ((fiveL n).drop (5 - 3)) w rfl (by simp [fiveL])
      go_wp2_with (refine wpList_toStr _ rfl (.tmp 12) rfl ⟨wr.heap.size, 0, none⟩ 1 1 [UInt8.ofNat (n / 16777216)] rfl rfl (new_one ?hF3) ?_; (case hF3 => (simp [bv] <;> omega)))
      exact ⟨⟨4, by omega, by simp, ival (by simp; omega), rfl, below_al hbel _⟩, by simp [intOf]⟩
    · have ha := fun w => HADD.out [UInt8.ofNat (n / 4294967296)] ((fiveL n).drop (5 - 4)) w rfl (by simp [fiveL])
      go_wp2_with (refine wpList_toStr _ rfl (.tmp 12) rfl ⟨wr.heap.size, 0, none⟩ 1 1 [UInt8.ofNat (n / 4294967296)] rfl rfl (new_one ?hF4) ?_; (case hF4 => (simp [bv] <;> omega)))
      exact ⟨⟨5, by omega, by simp, ival (by simp; omega), rfl, below_al hbel _⟩, by simp [intOf]⟩
    · go_wp2_with fail
      go_ret
      exact ⟨rfl, hbel⟩

theorem heap_new2 (w : World) (X Y : Obj) : ((w.alloc X).alloc Y).heap[w.heap.size + 1]? = some Y := by
  have := heap_new (w.alloc X) Y
  rw [size_alloc] at this
  exact this
theorem bytes_ne (v : Vl) : v.bytes ≠ [] := by unfold Vl.bytes; split <;> simp
theorem bytes_len {v : Vl} (h : v.right = true) : v.bytes.length ≤ 1000 := by
  unfold Vl.bytes
  split
  · simp [numBytes, eight]
  · next hn =>
    have ht : v.isT = true := by unfold Vl.right at h; simp at hn; rw [hn] at h; simpa using h
    have hs : v.s.size ≤ 200 := by unfold Vl.isT at ht; simp at ht; exact ht.2
    have := escL_len v.s.data.toList
    simp at this ⊢
    omega
set_option maxHeartbeats 1000000 in
theorem span_yes (a b : Vl) (w : World) (ha : a.Ok) (hb : b.Ok) (ra : a.right = true) (rb : b.right = true) : Calls Try.prog 13 #[.agg #[.int .i64 a.kind, .int .i64 a.n, .string a.s], .agg #[.int .i64 b.kind, .int .i64 b.n, .string b.s]] w fun e w' => e = .returned (.tuple #[.string ⟨a.bytes.toArray⟩, .string ⟨(b.bytes ++ [255, 255, 255, 255, 255, 0]).toArray⟩, .int .i64 0]) ∧ Below w.heap.size w w' := by
  have hla := bytes_len ra
  have hlb := bytes_len rb
  have hadd : ∀ w, (Op.stringOp .add ⟨b.bytes.toArray⟩ ⟨#[255, 255, 255, 255, 255, 0]⟩).run Try.prog w = .ok (.string ⟨(b.bytes ++ [255, 255, 255, 255, 255, 0]).toArray⟩) w := fun w => run_string_add_lists w b.bytes [255, 255, 255, 255, 255, 0] (by omega) (by simp)
  go_enter Try.func13, Try.ntmps13
  go_wp2_with fail
  refine (vbytes_any a _ ha ra).mono ?_
  rintro e w1 ⟨r1, rfl, o1, b1⟩
  have hB1 := below_then (below_al (below_box w _) _) b1
  have e0 := (b1.block (w.heap.size + 1) (by simp)).trans (heap_new2 w _ _)
  have c0 := cell_of_blk e0 0
  have c1 := cell_of_blk e0 1
  have c2 := cell_of_blk e0 2
  simp at c0 c1 c2
  have hlw := (Array.getElem?_eq_some_iff.1 e0).1
  clear e0 b1
  go_wp2_with fail
  refine (vbytes_any b _ hb rb).mono ?_
  rintro e w2 ⟨r2, rfl, o2, b2⟩
  have o1' := o1.below b2
  have hB2 := below_then hB1 b2
  clear o1 b2 hB1 c0 c1 c2
  obtain ⟨g1, k1, rfl, _, at1⟩ := o1'.at' (bytes_ne a)
  obtain ⟨g2, k2, rfl, _, at2⟩ := o2.at' (bytes_ne b)
  have cv1 := fun n => run_convert_bytes_back (P := Try.prog) (w2.drewN n) 46 9 5 ⟨g1, 0, none⟩ k1 a.bytes Try.underlying46 Try.underlying5 Try.underlying9 (at1.of_block rfl).conv
  have cv2 := fun n => run_convert_bytes_back (P := Try.prog) (w2.drewN n) 46 9 5 ⟨g2, 0, none⟩ k2 b.bytes Try.underlying46 Try.underlying5 Try.underlying9 (at2.of_block rfl).conv
  clear o1' o2 at1 at2
  go_wp2_with fail
  go_quiet (fail)
  go_wp2_with fail
  go_ret3
  exact ⟨rfl, below_drewN' hB2 _⟩
set_option maxHeartbeats 1000000 in
theorem span_no (a b : Vl) (w : World) (ha : a.Ok) (hb : b.Ok) (r : (a.right && b.right) = false) : Calls Try.prog 13 #[.agg #[.int .i64 a.kind, .int .i64 a.n, .string a.s], .agg #[.int .i64 b.kind, .int .i64 b.n, .string b.s]] w fun e w' => e = .returned (.tuple #[.string ⟨#[]⟩, .string ⟨#[]⟩, .int .i64 22]) ∧ Below w.heap.size w w' := by
  have e0 : ∀ w1, Below ((w.alloc (.cells #[.int .i64 a.kind, .int .i64 a.n, .string a.s] 42)).alloc (.cells #[.int .i64 b.kind, .int .i64 b.n, .string b.s] 42)).heap.size ((w.alloc (.cells #[.int .i64 a.kind, .int .i64 a.n, .string a.s] 42)).alloc (.cells #[.int .i64 b.kind, .int .i64 b.n, .string b.s] 42)) w1 → (w1.cell? ⟨w.heap.size + 1, 0, none⟩ = some (.int .i64 b.kind) ∧ w1.cell? ⟨w.heap.size + 1, 1, none⟩ = some (.int .i64 b.n) ∧ w1.cell? ⟨w.heap.size + 1, 2, none⟩ = some (.string b.s)) ∧ w.heap.size + 1 < w1.heap.size := fun w1 b1 => by
    have e := (b1.block (w.heap.size + 1) (by simp)).trans (heap_new2 w _ _)
    exact ⟨⟨by rw [cell_of_blk e]; rfl, by rw [cell_of_blk e]; rfl, by rw [cell_of_blk e]; rfl⟩, (Array.getElem?_eq_some_iff.1 e).1⟩
  have E0 := Lib.hid e0
  clear e0
  cases ra : a.right
  · have RA := Lib.hid ra
    clear ra r
    go_enter Try.func13, Try.ntmps13
    go_wp2_with fail
    refine (vbytes_no a _ ha RA.out).mono ?_
    rintro e w1 ⟨rfl, b1⟩
    obtain ⟨⟨c0, c1, c2⟩, hlw⟩ := E0.out w1 b1
    have hB1 := below_then (below_al (below_box w _) _) b1
    clear b1
    go_wp2_with fail
    cases rb : b.right
    · refine (vbytes_no b _ hb rb).mono ?_
      rintro e w2 ⟨rfl, b2⟩
      go_wp2_with fail
      go_ret3
      exact ⟨rfl, below_then hB1 b2⟩
    · refine (vbytes_any b _ hb rb).mono ?_
      rintro e w2 ⟨r2, rfl, o2, b2⟩
      go_wp2_with fail
      go_ret3
      exact ⟨rfl, below_then hB1 b2⟩
  · have RA := Lib.hid ra
    have RB : Hid (b.right = false) := Lib.hid (by rw [ra] at r; simpa using r)
    clear ra r
    go_enter Try.func13, Try.ntmps13
    go_wp2_with fail
    refine (vbytes_any a _ ha RA.out).mono ?_
    rintro e w1 ⟨r1, rfl, o1, b1⟩
    obtain ⟨⟨c0, c1, c2⟩, hlw⟩ := E0.out w1 b1
    have hB1 := below_then (below_al (below_box w _) _) b1
    clear b1 o1
    go_wp2_with fail
    refine (vbytes_no b _ hb RB.out).mono ?_
    rintro e w2 ⟨rfl, b2⟩
    go_wp2_with fail
    go_ret3
    exact ⟨rfl, below_then hB1 b2⟩
end Go.Proofs.Ytcafedfldmcbiaa
