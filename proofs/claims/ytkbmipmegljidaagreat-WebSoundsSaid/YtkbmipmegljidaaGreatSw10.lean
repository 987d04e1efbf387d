/- chunk.IDs of none, slices.Equal with nil, web.chain and web.index where the map has no such key. Conditions: each contract's own premises. -/
import Derived.Test.YtkbmipmegljidaaGreatWsM
import Derived.Test.YtkbmipmegljidaaGreatWsA
import Derived.Test.YtkbmipmegljidaaGreatWsC
namespace Go.Proofs.YtkbmipmegljidaaGreat
open Go.RowKit Go.Maps

set_option maxRecDepth 100000 in
theorem ids_nil (w : World) : Calls Tryz.prog 67 #[.slice none 0 0] w fun e w' => e = .returned (.slice none 0 0) ∧ w' = w := by
  go_enter Tryz.func67, Tryz.ntmps67
  go_wp2_with fail
  go_loopw [3, 8] (fun v i wr => v = .slice none 0 0 ∧ i = .int .i64 0 ∧ wr = w) (fun _ _ _ => 0)
  case atStart => exact ⟨rfl, rfl, rfl⟩
  case round =>
    obtain ⟨rfl, rfl, rfl⟩ := hrel
    go_wp2_with fail
    go_ret
    exact ⟨rfl, rfl⟩
set_option maxRecDepth 100000 in
theorem equalI_nil (a : Option Addr) (n cap : Nat) (w : World) : Calls Tryz.prog 32 #[.slice none 0 0, .slice a n cap] w fun e w' => e = .returned (.bool (n == 0)) ∧ w' = w := by
  by_cases hn : n = 0
  · subst hn
    go_enter Tryz.func32, Tryz.ntmps32
    go_wp2_with fail
    go_loopw [13] (fun i wr => i = .int .i64 0 ∧ wr = w) (fun _ _ => 0)
    case atStart => exact ⟨rfl, rfl⟩
    case round =>
      obtain ⟨rfl, rfl⟩ := hrel
      go_wp2_with fail
      go_ret
      exact ⟨rfl, rfl⟩
  · have e1 : (n == 0) = false := by simpa using hn
    have z1 : ¬ (0 : Int) = (n : Int) := by omega
    rw [e1]
    clear e1
    go_enter Tryz.func32, Tryz.ntmps32
    go_wp2_with fail
    go_ret
    exact ⟨rfl, rfl⟩
set_option maxRecDepth 100000 in
theorem equalS_nil (a : Option Addr) (n cap : Nat) (w : World) : Calls Tryz.prog 38 #[.slice none 0 0, .slice a n cap] w fun e w' => e = .returned (.bool (n == 0)) ∧ w' = w := by
  by_cases hn : n = 0
  · subst hn
    go_enter Tryz.func38, Tryz.ntmps38
    go_wp2_with fail
    go_loopw [13] (fun i wr => i = .int .i64 0 ∧ wr = w) (fun _ _ => 0)
    case atStart => exact ⟨rfl, rfl⟩
    case round =>
      obtain ⟨rfl, rfl⟩ := hrel
      go_wp2_with fail
      go_ret
      exact ⟨rfl, rfl⟩
  · have e1 : (n == 0) = false := by simpa using hn
    have z1 : ¬ (0 : Int) = (n : Int) := by omega
    rw [e1]
    clear e1
    go_enter Tryz.func38, Tryz.ntmps38
    go_wp2_with fail
    go_ret
    exact ⟨rfl, rfl⟩
theorem i64_zero : I64 0 := ⟨by decide, by decide⟩
theorem i64_three : I64 3 := ⟨by decide, by decide⟩
theorem i64_four : I64 4 := ⟨by decide, by decide⟩
theorem i64_five : I64 5 := ⟨by decide, by decide⟩
theorem zeroTx (w : World) : (zeroValue 9).run Tryz.prog w = .ok (.string ByteArray.empty) w := Tryz.zeroValue9 w
/-- what a look-up of a key that isn't there tells -/
theorem cells_no {w : World} {b n : Nat} {f : Lit → Option Value} (h : mapR w Tryz.prog 41 b n f) {k : Ky} (hk : k.Ok) (hf : f k.lit = none) :
    (Instr.lookup 86 (.map (some b)) k.val true).run Tryz.prog w = .ok (.tuple #[.string ByteArray.empty, .bool false]) w := by
  have := h.look_ok lawKey Tryz.underlying86 (zeroTx w) (keyK hk)
  rw [hf] at this
  exact this
def chK (id : Int) (out : Bool) : Ky := ⟨if out then 3 else 4, id, 0, ⟨#[]⟩⟩
def rtK (s : ByteArray) : Ky := ⟨5, 0, 0, s⟩
set_option maxRecDepth 100000 in
theorem chain_no {b n : Nat} {f : Lit → Option Value} (id : Int) (out : Bool) (w : World) (h : mapR w Tryz.prog 41 b n f) (hi : I64 id) (hf : f (chK id out).lit = none) :
    Calls Tryz.prog 31 #[.map (some b), .int .i64 id, .bool out] w fun e w' => e = .returned (.tuple #[.slice none 0 0, .bool true]) ∧ Below w.heap.size w w' := by
  have hk : (chK id out).Ok := ⟨by cases out; exact i64_four; exact i64_three, hi, i64_zero, Nat.zero_le _⟩
  have HB := Lib.hid h.lt
  have HC : Hid (Calls Tryz.prog 66 #[.int .i64 id, .bool out, .int .i64 0] w fun e w' => e = .returned (chK id out).val ∧ Below w.heap.size w w') := Lib.hid (by
    cases out
    · exact chunkKey_in id 0 w
    · exact chunkKey_out id 0 w)
  have HL : Hid (∀ w1 : World, Below w.heap.size w w1 → (Instr.lookup 86 (.map (some b)) (chK id out).val true).run Tryz.prog w1 = .ok (.tuple #[.string ByteArray.empty, .bool false]) w1) := Lib.hid fun w1 hb => cells_no (h.of_block (hb.block _ h.lt)) hk hf
  obtain ⟨q, hq⟩ : ∃ q, q = (chK id out).kind := ⟨_, rfl⟩
  have HV : Hid ((chK id out).val = .agg #[.int .i64 q, .int .i64 id, .int .i64 0, .string ⟨#[]⟩]) := Lib.hid (by rw [hq]; rfl)
  rw [HV.out] at HC HL
  clear hk hf h hq
  go_enter Tryz.func31, Tryz.ntmps31
  go_wp2_with fail
  go_loopw [8, 9] (fun v i wr => v = .slice none 0 0 ∧ i = .int .i64 0 ∧ wr = w) (fun _ _ _ => 0)
  case atStart => exact ⟨rfl, rfl, rfl⟩
  case round =>
    obtain ⟨rfl, rfl, rfl⟩ := hrel
    go_wp2_with fail
    refine HC.out.mono ?_
    rintro e w1 ⟨rfl, hb1⟩
    have HB1 := Lib.hid hb1
    have HX : Hid (Below wr.heap.size wr (w1.alloc (.cells #[.int .i64 q, .int .i64 id, .int .i64 0, .string ⟨#[]⟩] 41))) := Lib.hid (hb1.alloc hb1.size _)
    have HR := Lib.hid (HL.out _ HX.out)
    clear hb1
    have hr := HR.out
    go_wp2_with fail
    refine (ids_nil _).mono ?_
    rintro e w2 ⟨rfl, rfl⟩
    go_wp2_with fail
    go_ret2
    exact ⟨rfl, HX.out⟩
set_option maxRecDepth 100000 in
theorem index_no {b n : Nat} {f : Lit → Option Value} (s : ByteArray) (w : World) (h : mapR w Tryz.prog 41 b n f) (hs : s.size ≤ maxLen) (hf : f (rtK s).lit = none) :
    Calls Tryz.prog 37 #[.map (some b), .string s] w fun e w' => e = .returned (.tuple #[.slice none 0 0, .bool true]) ∧ Below w.heap.size w w' := by
  have hk : (rtK s).Ok := ⟨i64_five, i64_zero, i64_zero, hs⟩
  have HC : Hid (Calls Tryz.prog 76 #[.string s] w fun e w' => e = .returned (.agg #[.int .i64 5, .int .i64 0, .int .i64 0, .string s]) ∧ Below w.heap.size w w') := Lib.hid (rootKey_any s w)
  have HL : Hid (∀ w1 : World, Below w.heap.size w w1 → (Instr.lookup 86 (.map (some b)) (.agg #[.int .i64 5, .int .i64 0, .int .i64 0, .string s]) true).run Tryz.prog w1 = .ok (.tuple #[.string ByteArray.empty, .bool false]) w1) := Lib.hid fun w1 hb => cells_no (h.of_block (hb.block _ h.lt)) hk hf
  clear hk hf h hs
  go_enter Tryz.func37, Tryz.ntmps37
  go_wp2_with fail
  refine HC.out.mono ?_
  rintro e w1 ⟨rfl, hb1⟩
  have HB1 := Lib.hid hb1
  have HR := Lib.hid (HL.out _ HB1.out)
  clear hb1
  have hr := HR.out
  go_wp2_with fail
  go_ret2
  exact ⟨rfl, HB1.out⟩
end Go.Proofs.YtkbmipmegljidaaGreat
