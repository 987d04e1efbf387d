/- The check sum: nibble by nibble by a table is bit by bit. Plain numbers; no condition beyond each lemma's premises. Appending bytes, or a string, from anywhere (nil too) to a call's own bytes (nil too). Conditions: each law's own premises. block.Sum. Conditions: each contract's own premises. block.word, block.four; the reference's Sum, four. Conditions: each contract's own premises. block.Pack of one block; the reference's Pack. Conditions: each contract's own premises. The reference's Pack. Conditions: each contract's own premises. bytes.Clone; what a block is taken as. Conditions: each contract's own premises. -/
import Derived.Test.YtonilojjahfboaaByBase
namespace Go.Proofs.Ytonilojjahfboaa
open Go.RowKit Go.Maps

def tb : List Nat := [0, 498536548, 997073096, 651767980, 1994146192, 1802195444, 1303535960, 1342533948, 3988292384, 4027552580, 3604390888, 3412177804, 2607071920, 2262029012, 2685067896, 3183342108]
def t16 (k : Nat) : Nat := tb.getD k 0
/-- one bit -/
def b1 (r : Nat) : Nat := if r % 2 = 1 then (r / 2) ^^^ 3988292384 else r / 2
def b4 (r : Nat) : Nat := b1 (b1 (b1 (b1 r)))
def b8 (r : Nat) : Nat := b4 (b4 r)
/-- by the table: one nibble -/
def n1 (s x : Nat) : Nat := t16 ((s ^^^ x) % 16) ^^^ (s / 16)
/-- by the table: one byte -/
def nb (s x : Nat) : Nat := n1 (n1 s x) (x / 16)
def crcL (l : List UInt8) (s : Nat) : Nat := l.foldl (fun s x => nb s x.toNat) s
def crcR (l : List UInt8) (s : Nat) : Nat := l.foldl (fun s x => b8 (s ^^^ x.toNat)) s
/-- the check sum of bytes -/
def crc (l : List UInt8) : Nat := 4294967295 - crcL l 4294967295

theorem xor_half (a b : Nat) : (a ^^^ b) / 2 = (a / 2) ^^^ (b / 2) := by
  have := Nat.shiftRight_xor_distrib (a := a) (b := b) (i := 1)
  simpa [Nat.shiftRight_eq_div_pow] using this
theorem xor_16 (a b : Nat) : (a ^^^ b) / 16 = (a / 16) ^^^ (b / 16) := by
  have := Nat.shiftRight_xor_distrib (a := a) (b := b) (i := 4)
  simpa [Nat.shiftRight_eq_div_pow] using this
theorem xor_mod2 (a b : Nat) : (a ^^^ b) % 2 = (a % 2 + b % 2) % 2 := by
  have h : (a ^^^ b) % 2 = (a % 2) ^^^ (b % 2) := Nat.xor_mod_two_pow (n := 1)
  rw [h]
  rcases Nat.mod_two_eq_zero_or_one a with h1 | h1 <;> rcases Nat.mod_two_eq_zero_or_one b with h2 | h2 <;> rw [h1, h2] <;> rfl
theorem b1_xor (a b : Nat) : b1 (a ^^^ b) = b1 a ^^^ b1 b := by
  unfold b1
  rw [xor_mod2, xor_half]
  rcases Nat.mod_two_eq_zero_or_one a with h1 | h1 <;> rcases Nat.mod_two_eq_zero_or_one b with h2 | h2 <;> rw [h1, h2] <;> simp
  · rw [Nat.xor_assoc]
  · rw [Nat.xor_assoc, Nat.xor_assoc, Nat.xor_comm 3988292384]
  · rw [Nat.xor_assoc, Nat.xor_comm 3988292384 (b / 2 ^^^ _), Nat.xor_assoc, Nat.xor_self, Nat.xor_zero]
theorem b4_xor (a b : Nat) : b4 (a ^^^ b) = b4 a ^^^ b4 b := by
  unfold b4
  rw [b1_xor, b1_xor, b1_xor, b1_xor]
theorem b1_even (q : Nat) : b1 (2 * q) = q := by
  unfold b1
  rw [if_neg (by omega)]
  omega
theorem b4_high (q : Nat) : b4 (16 * q) = q := by
  unfold b4
  rw [show 16 * q = 2 * (2 * (2 * (2 * q))) by omega, b1_even, b1_even, b1_even, b1_even]
theorem b4_low : ∀ m, m < 16 → b4 m = t16 m := by decide
theorem split16 (r : Nat) : r = (16 * (r / 16)) ^^^ (r % 16) := by
  have h := Nat.two_pow_add_eq_or_of_lt (i := 4) (b := r % 16) (by omega) (r / 16)
  have e : 16 * (r / 16) ^^^ (r % 16) = 16 * (r / 16) ||| (r % 16) := by
    apply Nat.eq_of_testBit_eq
    intro i
    rw [Nat.testBit_xor, Nat.testBit_or]
    by_cases hi : i < 4
    · have : (16 * (r / 16)).testBit i = false := by
        rw [show 16 * (r / 16) = 2 ^ 4 * (r / 16) from rfl, Nat.testBit_two_pow_mul, decide_eq_false (by omega : ¬ 4 ≤ i)]
        rfl
      rw [this]; simp
    · have : (r % 16).testBit i = false := by
        refine Nat.testBit_lt_two_pow (Nat.lt_of_lt_of_le (Nat.mod_lt _ (by decide)) ?_)
        exact Nat.pow_le_pow_right (n := 2) (by decide) (show 4 ≤ i by omega)
      rw [this]; simp
  rw [e]
  have : 2 ^ 4 * (r / 16) + r % 16 = r := Nat.div_add_mod r 16
  rw [show 16 * (r / 16) = 2 ^ 4 * (r / 16) from rfl, ← h, this]
theorem b4_eq (r : Nat) : b4 r = t16 (r % 16) ^^^ (r / 16) := by
  conv => lhs; rw [split16 r]
  rw [b4_xor, b4_high, b4_low _ (Nat.mod_lt _ (by decide)), Nat.xor_comm]
/-- nibble by nibble is bit by bit -/
theorem nb_eq {s x : Nat} (hx : x < 256) : nb s x = b8 (s ^^^ x) := by
  unfold nb b8 n1
  have h0 : x / 16 / 16 = 0 := by omega
  have hs : t16 ((s ^^^ x) % 16) ^^^ (s / 16) ^^^ (x / 16) = b4 (s ^^^ x) := by
    rw [b4_eq, xor_16, Nat.xor_assoc]
  rw [b4_eq (b4 (s ^^^ x)), ← hs]
  congr 1
  rw [xor_16 _ (x / 16), h0, Nat.xor_zero]
theorem crcL_eq (l : List UInt8) (s : Nat) : crcL l s = crcR l s := by
  unfold crcL crcR
  congr 1
  funext s x
  exact nb_eq x.toNat_lt
theorem t16_lt (k : Nat) : t16 k < 4294967296 := by
  unfold t16
  by_cases h : k < 16
  · revert k; decide
  · have : tb.getD k 0 = 0 := by
      rw [List.getD_eq_getElem?_getD, List.getElem?_eq_none (by show 16 ≤ k; omega)]; rfl
    rw [this]; decide
theorem n1_lt {s x : Nat} (hs : s < 4294967296) : n1 s x < 4294967296 := by
  unfold n1
  exact Nat.xor_lt_two_pow (n := 32) (t16_lt _) (by show s / 16 < 2 ^ 32; omega)
theorem nb_lt {s x : Nat} (hs : s < 4294967296) : nb s x < 4294967296 := n1_lt (n1_lt hs)
theorem crcL_lt : ∀ (l : List UInt8) (s : Nat), s < 4294967296 → crcL l s < 4294967296
  | [], _, h => h
  | _ :: l, _, h => crcL_lt l _ (nb_lt h)
theorem crcL_append (l m : List UInt8) (s : Nat) : crcL (l ++ m) s = crcL m (crcL l s) := by
  unfold crcL
  rw [List.foldl_append]
theorem crcL_snoc {l : List UInt8} {k : Nat} (hk : k < l.length) (s : Nat) : crcL (l.take (k + 1)) s = nb (crcL (l.take k) s) (l[k]).toNat := by
  rw [List.take_succ_eq_append_getElem hk, crcL_append]; rfl
theorem crc_lt (l : List UInt8) : crc l < 4294967296 := by unfold crc; omega
theorem xor_ones (n : Nat) (h : n < 4294967296) : n ^^^ 4294967295 = 4294967295 - n := by
  apply Nat.eq_of_testBit_eq
  intro i
  rw [show 4294967295 - n = 2 ^ 32 - (n + 1) by omega, Nat.testBit_two_pow_sub_succ h, Nat.testBit_xor, show (4294967295 : Nat) = 2 ^ 32 - 1 from rfl, Nat.testBit_two_pow_sub_one]
  by_cases hi : i < 32
  · simp [hi]
  · simp [hi]
    exact Nat.testBit_lt_two_pow (Nat.lt_of_lt_of_le h (Nat.pow_le_pow_right (n := 2) (by decide) (show 32 ≤ i by omega)))
end Go.Proofs.Ytonilojjahfboaa
namespace Go.Proofs.Ytonilojjahfboaa
open Go.RowKit Go.Maps

/-- a slice of bytes in memory: anywhere, nil where there are none -/
def BsV (w : World) (a : Option Addr) (l : List UInt8) : Prop := l ≠ [] → ∃ b off, a = some ⟨b, off, none⟩ ∧ BsAt w b off l
theorem BsV.below {w w' : World} {a : Option Addr} {l : List UInt8} (h : BsV w a l) (hb : Below w.heap.size w w') : BsV w' a l := fun hn => by
  obtain ⟨b, off, e, hat⟩ := h hn
  exact ⟨b, off, e, hat.below hb⟩
theorem BsV.drew {w : World} {a : Option Addr} {l : List UInt8} (h : BsV w a l) : BsV w.drew a l := h.below (Below.refl _ _).drew
theorem src_str {w : World} (s : ByteArray) : Src Try.prog 1 9 (.string s) s.size (s.data.toList.map bv) w := Src.ofString w Try.underlying9 s

/-- what an append leaves -/
def AppPost (w : World) (B : Nat) (v : Value) (l : List UInt8) (v' : Value) (w' : World) : Prop :=
  BsO w' B v' l ∧ Below B w w' ∧ w.grownBy w' v.ownBlock ∧ (v'.ownBlock = v.ownBlock ∨ v'.ownBlock = some w.heap.size)
/-- a block of bytes that was just laid -/
theorem new_at {w : World} {cs : Array Value} {l : List UInt8} (h : cs.toList = l.map bv) : BsAt (w.alloc (.cells cs 5)) w.heap.size 0 l :=
  ⟨fun i x hx => by
    refine (cell_of_blk (heap_new w _) _).trans ?_
    rw [Nat.zero_add, ← Array.getElem?_toList, h]
    simp [hx], by simp⟩
end Go.Proofs.Ytonilojjahfboaa
namespace Go.Proofs.Ytonilojjahfboaa
open Go.RowKit Go.Maps

/-- the table in memory -/
def TbAt (w : World) (b : Nat) : Prop := ∀ k, k < 16 → w.cell? ⟨b, k, none⟩ = some (.int .u32 (t16 k : Nat))
theorem TbAt.below {w w' : World} {b : Nat} (h : TbAt w b) (hb : Below w.heap.size w w') (hl : b < w.heap.size) : TbAt w' b := fun k hk => below_cell hb k hl (h k hk)
theorem u32_x (a b : Nat) (ha : a < 4294967296) (hb : b < 4294967296) : bits .xor .u32 (a : Int) (b : Int) = ((a ^^^ b : Nat) : Int) := u32_xor_nat a b ha hb
theorem u32_15 (a : Nat) (ha : a < 4294967296) : bits .and .u32 (a : Int) 15 = ((a % 16 : Nat) : Int) := by
  have := u32_and_nat a 15 ha (by decide)
  rw [show ((15 : Nat) : Int) = 15 from rfl] at this
  rw [this, nat_mask4]
theorem u32_not (a : Nat) (ha : a < 4294967296) : bits .xor .u32 IntKind.u32.max (a : Int) = ((4294967295 - a : Nat) : Int) := by
  have := u32_xor_nat 4294967295 a (by decide) ha
  rw [show ((4294967295 : Nat) : Int) = IntKind.u32.max by decide] at this
  rw [this, Nat.xor_comm, xor_ones a ha]
end Go.Proofs.Ytonilojjahfboaa
namespace Go.Proofs.Ytonilojjahfboaa
open Go.RowKit Go.Maps

/-- a number's four bytes -/
def fourL (n : Nat) : List UInt8 := [UInt8.ofNat (n / 16777216), UInt8.ofNat (n / 65536), UInt8.ofNat (n / 256), UInt8.ofNat n]
theorem or32 (p q r s : Nat) (hp : p < 256) (hq : q < 256) (hr : r < 256) (hs : s < 256) :
    bits .or .u32 (bits .or .u32 (bits .or .u32 ((p : Int) * 16777216) ((q : Int) * 65536)) ((r : Int) * 256)) (s : Int) = ((((p * 256 + q) * 256 + r) * 256 + s : Nat) : Int) := by
  have e1 : bits .or .u32 ((p : Int) * 16777216) ((q : Int) * 65536) = ((p * 16777216 + q * 65536 : Nat) : Int) := by
    have := u32_or_nat (p * 16777216) (q * 65536) (by omega) (by omega)
    rw [nat_join 24 _ _ (by omega) (by show _ < 16777216; omega)] at this
    simpa using this
  have e2 : bits .or .u32 ((p * 16777216 + q * 65536 : Nat) : Int) ((r : Int) * 256) = ((p * 16777216 + q * 65536 + r * 256 : Nat) : Int) := by
    have := u32_or_nat (p * 16777216 + q * 65536) (r * 256) (by omega) (by omega)
    rw [nat_join 16 _ _ (by omega) (by show _ < 65536; omega)] at this
    simpa using this
  have e3 : bits .or .u32 ((p * 16777216 + q * 65536 + r * 256 : Nat) : Int) (s : Int) = ((p * 16777216 + q * 65536 + r * 256 + s : Nat) : Int) := by
    have := u32_or_nat (p * 16777216 + q * 65536 + r * 256) s (by omega) (by omega)
    rw [nat_join 8 _ _ (by omega) (by show _ < 256; omega)] at this
    exact this
  rw [e1, e2, e3, show ((p * 256 + q) * 256 + r) * 256 + s = p * 16777216 + q * 65536 + r * 256 + s by omega]
theorem new_row {w : World} {cs : Array Value} {l : List UInt8} (h : cs.toList = l.map bv) : ∀ j (hj : j < l.length), (w.alloc (.cells cs 5)).cell? ((⟨w.heap.size, 0, none⟩ : Addr).add j) = some (.int .u8 (l[j].toNat : Int)) := by
  intro j hj
  rw [add_none]
  refine (cell_of_blk (heap_new w _) _).trans ?_
  rw [Nat.zero_add, ← Array.getElem?_toList, h]
  simp [hj, bv]
theorem b1_nat (r : Nat) : (r % 2 = 1 → b1 r = (r / 2) ^^^ 3988292384) ∧ (r % 2 ≠ 1 → b1 r = r / 2) := ⟨fun h => if_pos h, fun h => if_neg h⟩
theorem b1_lt {r : Nat} (h : r < 4294967296) : b1 r < 4294967296 := by
  unfold b1
  split
  · exact Nat.xor_lt_two_pow (n := 32) (by show r / 2 < 2 ^ 32; omega) (by decide)
  · omega
/-- some bits on -/
def bN : Nat → Nat → Nat
  | 0, r => r
  | k + 1, r => b1 (bN k r)
theorem bN_lt {r : Nat} (h : r < 4294967296) : ∀ k, bN k r < 4294967296
  | 0 => h
  | k + 1 => b1_lt (bN_lt h k)
theorem bN_8 (r : Nat) : bN 8 r = b8 r := rfl
end Go.Proofs.Ytonilojjahfboaa
namespace Go.Proofs.Ytonilojjahfboaa
open Go.RowKit Go.Maps

/-- a block's bytes ahead of its check sum -/
def headL (k : UInt8) (l : List UInt8) : List UInt8 := 203 :: k :: (fourL l.length ++ l)
/-- a block's bytes -/
def packL (k : UInt8) (l : List UInt8) : List UInt8 := headL k l ++ fourL (crc (headL k l))
theorem headL_len (k : UInt8) (l : List UInt8) : (headL k l).length = l.length + 6 := by simp [headL, fourL]
theorem packL_len (k : UInt8) (l : List UInt8) : (packL k l).length = l.length + 10 := by simp [packL, headL_len, fourL]
theorem newV {w : World} {cs : Array Value} {l : List UInt8} (h : cs.toList = l.map bv) : BsV (w.alloc (.cells cs 5)) (some ⟨w.heap.size, 0, none⟩) l := fun _ => ⟨_, 0, rfl, new_at h⟩
end Go.Proofs.Ytonilojjahfboaa
namespace Go.Proofs.Ytonilojjahfboaa
open Go.RowKit Go.Maps

end Go.Proofs.Ytonilojjahfboaa
namespace Go.Proofs.Ytonilojjahfboaa
open Go.RowKit Go.Maps

theorem BsAt.take {w : World} {b off : Nat} {l : List UInt8} (h : BsAt w b off l) (k : Nat) : BsAt w b off (l.take k) :=
  ⟨fun i x hx => h.cells i x (by rw [List.getElem?_take] at hx; split at hx; exact hx; cases hx), h.lt⟩
def tkN (l : List UInt8) : Nat := numL ((l.drop 2).take 4)
def tkB (l : List UInt8) : List UInt8 := (l.drop 6).take (tkN l)
/-- the error with which bytes are taken as a block -/
def tkE (l : List UInt8) : Int :=
  if l = [] then 20 else if l.getD 0 0 ≠ 203 then 80 else if l.length < 6 then 20 else if 1048576 < tkN l then 82 else if l.length < tkN l + 10 then 20 else
  if numL ((l.drop (tkN l + 6)).take 4) ≠ crc (l.take (tkN l + 6)) then 81 else 0
end Go.Proofs.Ytonilojjahfboaa
