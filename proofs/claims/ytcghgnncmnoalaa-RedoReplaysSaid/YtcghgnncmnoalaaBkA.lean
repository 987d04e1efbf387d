/- The check sum: nibble by nibble by a table is bit by bit. Plain numbers; no condition beyond each lemma's premises. Appending bytes, or a string, from anywhere (nil too) to a call's own bytes (nil too). Conditions: each law's own premises. block.Sum. Conditions: each contract's own premises. block.word, block.four; the reference's Sum, four. Conditions: each contract's own premises. block.Pack of one block; the reference's Pack. Conditions: each contract's own premises. The reference's Pack. Conditions: each contract's own premises. bytes.Clone; what a block is taken as. Conditions: each contract's own premises. -/
import Derived.Test.YtcghgnncmnoalaaByBase
namespace Go.Proofs.Ytcghgnncmnoalaa
open Go.RowKit Go.Maps

def tb : List Nat := [0, 498536548, 997073096, 651767980, 1994146192, 1802195444, 1303535960, 1342533948, 3988292384, 4027552580, 3604390888, 3412177804, 2607071920, 2262029012, 2685067896, 3183342108]
def t16 (k : Nat) : Nat := tb.getD k 0
/-- one bit -/
def b1 (r : Nat) : Nat := if r % 2 = 1 then (r / 2) ^^^ 3988292384 else r / 2
def b4 (r : Nat) : Nat := b1 (b1 (b1 (b1 r)))
def b8 (r : Nat) : Nat := b4 (b4 r)
/-- by the table: one nibble -/
def n1 (s x : Nat) : Nat := t16 ((s ^^^ x) % 16) ^^^ (s / 16)
/-- by the table: one byte -/
def nb (s x : Nat) : Nat := n1 (n1 s x) (x / 16)
def crcL (l : List UInt8) (s : Nat) : Nat := l.foldl (fun s x => nb s x.toNat) s
def crcR (l : List UInt8) (s : Nat) : Nat := l.foldl (fun s x => b8 (s ^^^ x.toNat)) s
/-- the check sum of bytes -/
def crc (l : List UInt8) : Nat := 4294967295 - crcL l 4294967295

theorem xor_half (a b : Nat) : (a ^^^ b) / 2 = (a / 2) ^^^ (b / 2) := by
  have := Nat.shiftRight_xor_distrib (a := a) (b := b) (i := 1)
  simpa [Nat.shiftRight_eq_div_pow] using this
theorem xor_16 (a b : Nat) : (a ^^^ b) / 16 = (a / 16) ^^^ (b / 16) := by
  have := Nat.shiftRight_xor_distrib (a := a) (b := b) (i := 4)
  simpa [Nat.shiftRight_eq_div_pow] using this
theorem xor_mod2 (a b : Nat) : (a ^^^ b) % 2 = (a % 2 + b % 2) % 2 := by
  have h : (a ^^^ b) % 2 = (a % 2) ^^^ (b % 2) := Nat.xor_mod_two_pow (n := 1)
  rw [h]
  rcases Nat.mod_two_eq_zero_or_one a with h1 | h1 <;> rcases Nat.mod_two_eq_zero_or_one b with h2 | h2 <;> rw [h1, h2] <;> rfl
theorem b1_xor (a b : Nat) : b1 (a ^^^ b) = b1 a ^^^ b1 b := by
  unfold b1
  rw [xor_mod2, xor_half]
  rcases Nat.mod_two_eq_zero_or_one a with h1 | h1 <;> rcases Nat.mod_two_eq_zero_or_one b with h2 | h2 <;> rw [h1, h2] <;> simp
  · rw [Nat.xor_assoc]
  · rw [Nat.xor_assoc, Nat.xor_assoc, Nat.xor_comm 3988292384]
  · rw [Nat.xor_assoc, Nat.xor_comm 3988292384 (b / 2 ^^^ _), Nat.xor_assoc, Nat.xor_self, Nat.xor_zero]
theorem b4_xor (a b : Nat) : b4 (a ^^^ b) = b4 a ^^^ b4 b := by
  unfold b4
  rw [b1_xor, b1_xor, b1_xor, b1_xor]
theorem b1_even (q : Nat) : b1 (2 * q) = q := by
  unfold b1
  rw [if_neg (by omega)]
  omega
theorem b4_high (q : Nat) : b4 (16 * q) = q := by
  unfold b4
  rw [show 16 * q = 2 * (2 * (2 * (2 * q))) by omega, b1_even, b1_even, b1_even, b1_even]
theorem b4_low : ∀ m, m < 16 → b4 m = t16 m := by decide
theorem split16 (r : Nat) : r = (16 * (r / 16)) ^^^ (r % 16) := by
  have h := Nat.two_pow_add_eq_or_of_lt (i := 4) (b := r % 16) (by omega) (r / 16)
  have e : 16 * (r / 16) ^^^ (r % 16) = 16 * (r / 16) ||| (r % 16) := by
    apply Nat.eq_of_testBit_eq
    intro i
    rw [Nat.testBit_xor, Nat.testBit_or]
    by_cases hi : i < 4
    · have : (16 * (r / 16)).testBit i = false := by
        rw [show 16 * (r / 16) = 2 ^ 4 * (r / 16) from rfl, Nat.testBit_two_pow_mul, decide_eq_false (by omega : ¬ 4 ≤ i)]
        rfl
      rw [this]; simp
    · have : (r % 16).testBit i = false := by
        refine Nat.testBit_lt_two_pow (Nat.lt_of_lt_of_le (Nat.mod_lt _ (by decide)) ?_)
        exact Nat.pow_le_pow_right (n := 2) (by decide) (show 4 ≤ i by omega)
      rw [this]; simp
  rw [e]
  have : 2 ^ 4 * (r / 16) + r % 16 = r := Nat.div_add_mod r 16
  rw [show 16 * (r / 16) = 2 ^ 4 * (r / 16) from rfl, ← h, this]
theorem b4_eq (r : Nat) : b4 r = t16 (r % 16) ^^^ (r / 16) := by
  conv => lhs; rw [split16 r]
  rw [b4_xor, b4_high, b4_low _ (Nat.mod_lt _ (by decide)), Nat.xor_comm]
/-- nibble by nibble is bit by bit -/
theorem nb_eq {s x : Nat} (hx : x < 256) : nb s x = b8 (s ^^^ x) := by
  unfold nb b8 n1
  have h0 : x / 16 / 16 = 0 := by omega
  have hs : t16 ((s ^^^ x) % 16) ^^^ (s / 16) ^^^ (x / 16) = b4 (s ^^^ x) := by
    rw [b4_eq, xor_16, Nat.xor_assoc]
  rw [b4_eq (b4 (s ^^^ x)), ← hs]
  congr 1
  rw [xor_16 _ (x / 16), h0, Nat.xor_zero]
theorem crcL_eq (l : List UInt8) (s : Nat) : crcL l s = crcR l s := by
  unfold crcL crcR
  congr 1
  funext s x
  exact nb_eq x.toNat_lt
theorem t16_lt (k : Nat) : t16 k < 4294967296 := by
  unfold t16
  by_cases h : k < 16
  · revert k; decide
  · have : tb.getD k 0 = 0 := by
      rw [List.getD_eq_getElem?_getD, List.getElem?_eq_none (by show 16 ≤ k; omega)]; rfl
    rw [this]; decide
theorem n1_lt {s x : Nat} (hs : s < 4294967296) : n1 s x < 4294967296 := by
  unfold n1
  exact Nat.xor_lt_two_pow (n := 32) (t16_lt _) (by show s / 16 < 2 ^ 32; omega)
theorem nb_lt {s x : Nat} (hs : s < 4294967296) : nb s x < 4294967296 := n1_lt (n1_lt hs)
theorem crcL_lt : ∀ (l : List UInt8) (s : Nat), s < 4294967296 → crcL l s < 4294967296
  | [], _, h => h
  | _ :: l, _, h => crcL_lt l _ (nb_lt h)
theorem crcL_append (l m : List UInt8) (s : Nat) : crcL (l ++ m) s = crcL m (crcL l s) := by
  unfold crcL
  rw [List.foldl_append]
theorem crcL_snoc {l : List UInt8} {k : Nat} (hk : k < l.length) (s : Nat) : crcL (l.take (k + 1)) s = nb (crcL (l.take k) s) (l[k]).toNat := by
  rw [List.take_succ_eq_append_getElem hk, crcL_append]; rfl
theorem crc_lt (l : List UInt8) : crc l < 4294967296 := by unfold crc; omega
theorem xor_ones (n : Nat) (h : n < 4294967296) : n ^^^ 4294967295 = 4294967295 - n := by
  apply Nat.eq_of_testBit_eq
  intro i
  rw [show 4294967295 - n = 2 ^ 32 - (n + 1) by omega, Nat.testBit_two_pow_sub_succ h, Nat.testBit_xor, show (4294967295 : Nat) = 2 ^ 32 - 1 from rfl, Nat.testBit_two_pow_sub_one]
  by_cases hi : i < 32
  · simp [hi]
  · simp [hi]
    exact Nat.testBit_lt_two_pow (Nat.lt_of_lt_of_le h (Nat.pow_le_pow_right (n := 2) (by decide) (show 32 ≤ i by omega)))
end Go.Proofs.Ytcghgnncmnoalaa
namespace Go.Proofs.Ytcghgnncmnoalaa
open Go.RowKit Go.Maps

/-- a slice of bytes in memory: anywhere, nil where there are none -/
def BsV (w : World) (a : Option Addr) (l : List UInt8) : Prop := l ≠ [] → ∃ b off, a = some ⟨b, off, none⟩ ∧ BsAt w b off l
theorem BsV.below {w w' : World} {a : Option Addr} {l : List UInt8} (h : BsV w a l) (hb : Below w.heap.size w w') : BsV w' a l := fun hn => by
  obtain ⟨b, off, e, hat⟩ := h hn
  exact ⟨b, off, e, hat.below hb⟩
theorem BsV.drew {w : World} {a : Option Addr} {l : List UInt8} (h : BsV w a l) : BsV w.drew a l := h.below (Below.refl _ _).drew
theorem BsV.src {w : World} {a : Option Addr} {l : List UInt8} (h : BsV w a l) (c : Nat) : Src Try.prog 1 22 (.slice a l.length c) l.length (l.map bv) w := by
  by_cases hn : l = []
  · subst hn
    cases a with
    | none => exact Src.ofNil w Try.underlying22 c
    | some a => exact Src.ofSlice w Try.underlying22 a 0 c [] rfl (fun j u hu => by simp at hu) (fun u hu => by cases hu)
  · obtain ⟨b, off, rfl, hat⟩ := h hn
    refine Src.ofSlice w Try.underlying22 ⟨b, off, none⟩ l.length c _ (by simp) (fun j u hu => ?_) bv_one
    rw [add_none]
    simp at hu
    obtain ⟨y, hy, rfl⟩ := hu
    exact hat.cells j y hy
theorem src_str {w : World} (s : ByteArray) : Src Try.prog 1 9 (.string s) s.size (s.data.toList.map bv) w := Src.ofString w Try.underlying9 s

/-- what an append leaves -/
def AppPost (w : World) (B : Nat) (v : Value) (l : List UInt8) (v' : Value) (w' : World) : Prop :=
  BsO w' B v' l ∧ Below B w w' ∧ w.grownBy w' v.ownBlock ∧ (v'.ownBlock = v.ownBlock ∨ v'.ownBlock = some w.heap.size)
theorem run_appX (w : World) (tx ty : TypeId) (B : Nat) (v : Value) (l : List UInt8) (hown : BsO w B v l) (x : Value) (n : Nat) (m : List UInt8) (hm : m.length = n) (hs : Src Try.prog 1 tx x n (m.map bv) w) (hlen : l.length + m.length ≤ 4000000) (hB : B ≤ w.heap.size) :
    ∃ v' w', (Builtin.append_ #[22, tx] ty #[v, x]).run Try.prog w = .ok v' w' ∧ AppPost w B v (l ++ m) v' w' := by
  subst hm
  obtain ⟨i0, hi, hz0, hz1, hz2⟩ := info_parts infoU8
  rw [← hz1] at hs
  have hll : (l ++ m).length = l.length + m.length := by rw [List.length_append]
  have hbl : (m.map bv).length = m.length := by simp
  have hst0 : ∀ (r : Value) (w' : World), BsO w' B r (l ++ m) → w.grownBy w' v.ownBlock → (r.ownBlock = v.ownBlock ∨ r.ownBlock = some w.heap.size) → AppPost w B v (l ++ m) r w' := fun r w' h1 h2 h3 => ⟨h1, below_grown hown h2 hB, h2, h3⟩
  rcases hown.2 with ⟨hv, h0⟩ | ⟨g, cap, cur, rfl, hbg, hg, hnc, hcm, hcs, htake⟩
  · have hl0 : l = [] := List.eq_nil_of_length_eq_zero h0
    subst hl0
    subst hv
    by_cases hm0 : m = []
    · subst hm0
      refine ⟨.slice none 0 0, w, ?_, hst0 _ _ ⟨rfl, .inl ⟨rfl, rfl⟩⟩ ⟨rfl, rfl, rfl, Nat.le_refl _, fun _ _ _ => rfl⟩ (Or.inl rfl)⟩
      have hf := hs.cells
      rw [hz1] at hf
      rcases hs.kind with ⟨e', hk⟩ | hk
      · simp [Builtin.append_, run_underlying Try.underlying22, run_underlying hk, sizeOf, typeInfo, hi, hz1, hs.len]
        simp at hf
        simp [hf]
      · simp [Builtin.append_, run_underlying Try.underlying22, run_underlying hk, sizeOf, typeInfo, hi, hz1, hs.len]
        simp at hf
        simp [hf]
    · have hpos : 0 < m.length := List.length_pos_iff.2 hm0
      have hr := run_append_grow_src (P := Try.prog) w 22 tx ty 5 i0 _ Try.underlying22 hi hz0 none 0 0 [] (run_firstCells_none w.drew i0.size 0 0 0) x m.length (m.map bv) hs (by omega) (by simp at hlen; omega) (growslice_fits (by simp at hlen; omega) (by simp at hlen; rw [hz2]; omega))
      have hge := grownCap_ge w (0 + m.length) 0 5
      have hgm : grownCap w (0 + m.length) 0 5 ≤ maxLen := grownCap_le_maxLen w (0 + m.length) 0 5 (by simp at hlen; unfold maxLen; omega)
      refine ⟨_, _, hr, hst0 _ _ ⟨by simp, .inr ⟨w.heap.size, _, _, by simp, hB, heap_alloc_new w.drew _, by simp at hge ⊢; exact hge, hgm, ?_, ?_⟩⟩ ⟨rfl, rfl, rfl, by simp, fun k hk _ => heap_alloc_old w.drew _ hk⟩ (Or.inr rfl)⟩
      · simp only [Array.size_append, List.size_toArray, size_zeroCells, List.length_append, hbl, List.length_nil]
        show 0 + m.length + (grownCap w (0 + m.length) 0 5 - (0 + m.length)) * 1 = grownCap w (0 + m.length) 0 5 * 1
        omega
      · simp only [Array.toList_append, List.nil_append, Nat.mul_one]
        rw [show m.length = (m.map bv).length by simp]
        exact List.take_left
  · rw [Nat.mul_one] at hcs htake
    by_cases hroom : l.length + m.length ≤ cap
    · have hst := run_storeCells_at Try.prog g l.length 5 (m.map bv) 0 cur w hg (by rw [hbl]; omega) hs.one
      simp only [Nat.add_zero] at hst
      have hr : (Builtin.append_ #[22, tx] ty #[.slice (some ⟨g, 0, none⟩) l.length cap, x]).run Try.prog w = .ok (.slice (some ⟨g, 0, none⟩) (l.length + m.length) cap) (w.setRow g (cur.toList.take l.length ++ m.map bv ++ cur.toList.drop (l.length + (m.map bv).length)).toArray) := by
        have hf := hs.cells
        rw [hz1] at hf
        rcases hs.kind with ⟨e', hk⟩ | hk
        · simp [Builtin.append_, run_underlying Try.underlying22, run_underlying hk, sizeOf, typeInfo, hi, hz1, hs.len, hroom, hf, Addr.add_lit, hst]
        · simp [Builtin.append_, run_underlying Try.underlying22, run_underlying hk, sizeOf, typeInfo, hi, hz1, hs.len, hroom, hf, Addr.add_lit, hst]
      refine ⟨_, _, hr, hst0 _ _ ⟨by simp, .inr ⟨g, cap, _, by rw [hll], hbg, setRow_heap w g cur _ 5 _ hg, by omega, hcm, ?_, ?_⟩⟩ ⟨rfl, rfl, rfl, by simp, fun k _ hk => setRow_other w g k _ (fun e => hk (by simp [Value.ownBlock, e]))⟩ (Or.inl rfl)⟩
      · simp only [List.size_toArray, List.length_append, List.length_take, List.length_drop, Array.length_toList]
        omega
      · rw [htake, List.map_append, Nat.mul_one]
        have : (l ++ m).length = (List.map bv l ++ List.map bv m).length := by simp
        rw [this]
        exact List.take_left
    · have holds : ∀ (j : Nat) (u : Value), (l.map bv)[j]? = some u → w.cell? ((⟨g, 0, none⟩ : Addr).add j) = some u := hown.cells (g := g) rfl
      have hold := run_firstCells_some (P := Try.prog) w.drew i0.size l.length ⟨g, 0, none⟩ l.length cap (l.map bv) (by rw [hz1]; simp) (by simpa using holds)
      have hr := run_append_grow_src (P := Try.prog) w 22 tx ty 5 i0 _ Try.underlying22 hi hz0 (some ⟨g, 0, none⟩) l.length cap (l.map bv) hold x m.length (m.map bv) hs (by omega) (by omega) (growslice_fits (by omega) (by rw [hz2]; omega))
      have hge := grownCap_ge w (l.length + m.length) cap 5
      have hgm : grownCap w (l.length + m.length) cap 5 ≤ maxLen := grownCap_le_maxLen w (l.length + m.length) cap 5 (by unfold maxLen; omega)
      refine ⟨_, _, hr, hst0 _ _ ⟨by simp, .inr ⟨w.heap.size, _, _, by rw [hll], hB, heap_alloc_new w.drew _, by rw [hll]; exact hge, hgm, ?_, ?_⟩⟩ ⟨rfl, rfl, rfl, by simp, fun k hk _ => heap_alloc_old w.drew _ hk⟩ (Or.inr rfl)⟩
      · simp only [Array.size_append, List.size_toArray, size_zeroCells, List.length_append, hbl, List.length_map]
        show l.length + m.length + (grownCap w (l.length + m.length) cap 5 - (l.length + m.length)) * 1 = grownCap w (l.length + m.length) cap 5 * 1
        omega
      · simp only [Array.toList_append, List.append_assoc]
        rw [List.map_append, ← List.append_assoc, Nat.mul_one]
        have : (l ++ m).length = (List.map bv l ++ List.map bv m).length := by simp
        rw [this]
        exact List.take_left
/-- at a step of a region that draws its order -/
theorem step_appX (w : World) {ops : Array Oper} {o : Oper} {a : Act} {K : Act → World → Prop} {Q : Exit → Act → World → Prop} {E : Prop} (hgd : o.guard = none) (s x : Operand) (tx : TypeId)
    (ho : o.op = .call { callee := .builtin .append, args := #[s, x], argTypes := #[22, tx] }) (B : Nat) (v : Value) (l : List UInt8) (hs : a.eval s = v) (hown : BsO w B v l)
    (xv : Value) (n : Nat) (m : List UInt8) (hx : a.eval x = xv) (hm : m.length = n) (hsrc : Src Try.prog 1 tx xv n (m.map bv) w) (hlen : l.length + m.length ≤ 4000000) (hB : B ≤ w.heap.size)
    (h : ∀ v' w', AppPost w B v (l ++ m) v' w' → K (a.put o.dst v') w') :
    if Region.wanted o (yielded ops a.tmps) = true then Oper.wp Try.prog o a w K Q else E := by
  have hw : Region.wanted o (yielded ops a.tmps) = true := by simp [Region.wanted, hgd]
  rw [if_pos hw]
  obtain ⟨v', w', hr, h2⟩ := run_appX w tx o.type B v l hown xv n m hm hsrc hlen hB
  unfold Oper.wp execOp
  simp only [ho, resolve, invoke, builtin, Sem.run_bind, Sem.run_pure, Result.andThen_ok, List.map_toArray, List.map_cons, List.map_nil, hs, hx, hr]
  exact h v' w' h2
/-- at the operation -/
theorem wpList_appX (w : World) {ops : Array Oper} {rest : List Oper} {o : Oper} {a : Act} {Q : Exit → Act → World → Prop} (hgd : o.guard = none) (s x : Operand) (tx : TypeId)
    (ho : o.op = .call { callee := .builtin .append, args := #[s, x], argTypes := #[22, tx] }) (B : Nat) (v : Value) (l : List UInt8) (hs : a.eval s = v) (hown : BsO w B v l)
    (xv : Value) (n : Nat) (m : List UInt8) (hx : a.eval x = xv) (hm : m.length = n) (hsrc : Src Try.prog 1 tx xv n (m.map bv) w) (hlen : l.length + m.length ≤ 4000000) (hB : B ≤ w.heap.size)
    (h : ∀ v' w', AppPost w B v (l ++ m) v' w' → wpList Try.prog ops Q rest (a.put o.dst v') w') :
    wpList Try.prog ops Q (o :: rest) a w := by
  refine wpList_plain hgd fun K' hK' => ?_
  obtain ⟨v', w', hr, h2⟩ := run_appX w tx o.type B v l hown xv n m hm hsrc hlen hB
  unfold Oper.wp execOp
  simp only [ho, resolve, invoke, builtin, Sem.run_bind, Sem.run_pure, Result.andThen_ok, List.map_toArray, List.map_cons, List.map_nil, hs, hx, hr]
  exact hK' _ _ (h v' w' h2)
/-- a block of bytes that was just laid -/
theorem new_at {w : World} {cs : Array Value} {l : List UInt8} (h : cs.toList = l.map bv) : BsAt (w.alloc (.cells cs 5)) w.heap.size 0 l :=
  ⟨fun i x hx => by
    refine (cell_of_blk (heap_new w _) _).trans ?_
    rw [Nat.zero_add, ← Array.getElem?_toList, h]
    simp [hx], by simp⟩
end Go.Proofs.Ytcghgnncmnoalaa
namespace Go.Proofs.Ytcghgnncmnoalaa
open Go.RowKit Go.Maps

/-- the table in memory -/
def TbAt (w : World) (b : Nat) : Prop := ∀ k, k < 16 → w.cell? ⟨b, k, none⟩ = some (.int .u32 (t16 k : Nat))
theorem TbAt.below {w w' : World} {b : Nat} (h : TbAt w b) (hb : Below w.heap.size w w') (hl : b < w.heap.size) : TbAt w' b := fun k hk => below_cell hb k hl (h k hk)
set_option maxRecDepth 10000 in
theorem TbAt.new (w : World) : TbAt (w.alloc (.cells #[.int .u32 0, .int .u32 498536548, .int .u32 997073096, .int .u32 651767980, .int .u32 1994146192, .int .u32 1802195444, .int .u32 1303535960, .int .u32 1342533948, .int .u32 3988292384, .int .u32 4027552580, .int .u32 3604390888, .int .u32 3412177804, .int .u32 2607071920, .int .u32 2262029012, .int .u32 2685067896, .int .u32 3183342108] 211)) w.heap.size := by
  intro k hk
  have hb := heap_new w (.cells #[.int .u32 0, .int .u32 498536548, .int .u32 997073096, .int .u32 651767980, .int .u32 1994146192, .int .u32 1802195444, .int .u32 1303535960, .int .u32 1342533948, .int .u32 3988292384, .int .u32 4027552580, .int .u32 3604390888, .int .u32 3412177804, .int .u32 2607071920, .int .u32 2262029012, .int .u32 2685067896, .int .u32 3183342108] 211)
  refine (cell_of_blk hb k).trans ?_
  have : k = 0 ∨ k = 1 ∨ k = 2 ∨ k = 3 ∨ k = 4 ∨ k = 5 ∨ k = 6 ∨ k = 7 ∨ k = 8 ∨ k = 9 ∨ k = 10 ∨ k = 11 ∨ k = 12 ∨ k = 13 ∨ k = 14 ∨ k = 15 := by omega
  rcases this with rfl | rfl | rfl | rfl | rfl | rfl | rfl | rfl | rfl | rfl | rfl | rfl | rfl | rfl | rfl | rfl <;> rfl
theorem u32_x (a b : Nat) (ha : a < 4294967296) (hb : b < 4294967296) : bits .xor .u32 (a : Int) (b : Int) = ((a ^^^ b : Nat) : Int) := u32_xor_nat a b ha hb
theorem u32_15 (a : Nat) (ha : a < 4294967296) : bits .and .u32 (a : Int) 15 = ((a % 16 : Nat) : Int) := by
  have := u32_and_nat a 15 ha (by decide)
  rw [show ((15 : Nat) : Int) = 15 from rfl] at this
  rw [this, nat_mask4]
theorem u32_not (a : Nat) (ha : a < 4294967296) : bits .xor .u32 IntKind.u32.max (a : Int) = ((4294967295 - a : Nat) : Int) := by
  have := u32_xor_nat 4294967295 a (by decide) ha
  rw [show ((4294967295 : Nat) : Int) = IntKind.u32.max by decide] at this
  rw [this, Nat.xor_comm, xor_ones a ha]
set_option maxRecDepth 100000 in
set_option maxHeartbeats 2000000 in
theorem sum_any (q cap : Nat) (a : Option Addr) (l : List UInt8) (w : World) (hq : w.cell? ⟨q, 0, none⟩ = some (.slice a l.length cap)) (hB : BsV w a l) (hl : l.length ≤ 4000000) :
    Calls Try.prog 121 #[.slice (some ⟨q, 0, none⟩) 1 1] w fun e w' => e = .returned (.int .u32 (crc l : Nat)) ∧ Below w.heap.size w w' := by
  have HB := Lib.hid hB
  clear hB
  go_enter Try.func121, Try.ntmps121
  go_wp2_with fail
  have ht := TbAt.new w
  have hb := below_box w (.cells #[.int .u32 0, .int .u32 498536548, .int .u32 997073096, .int .u32 651767980, .int .u32 1994146192, .int .u32 1802195444, .int .u32 1303535960, .int .u32 1342533948, .int .u32 3988292384, .int .u32 4027552580, .int .u32 3604390888, .int .u32 3412177804, .int .u32 2607071920, .int .u32 2262029012, .int .u32 2685067896, .int .u32 3183342108] 211)
  obtain ⟨W, hW⟩ : ∃ W, W = w.alloc (.cells #[.int .u32 0, .int .u32 498536548, .int .u32 997073096, .int .u32 651767980, .int .u32 1994146192, .int .u32 1802195444, .int .u32 1303535960, .int .u32 1342533948, .int .u32 3988292384, .int .u32 4027552580, .int .u32 3604390888, .int .u32 3412177804, .int .u32 2607071920, .int .u32 2262029012, .int .u32 2685067896, .int .u32 3183342108] 211) := ⟨_, rfl⟩
  have hz : W.heap.size = w.heap.size + 1 := by rw [hW]; simp
  rw [← hW] at ht hb ⊢
  have HT := Lib.hid ht
  have HL := Lib.hid (crcL_lt l 4294967295 (by decide))
  have hqw : q < w.heap.size := World.block_lt_of_cell? w ⟨q, 0, none⟩ hq
  have hq' := below_cell hb 0 hqw hq
  have hBW := Lib.hid (HB.out.below hb)
  clear hW ht hq HB
  go_loopw [4, 12] (fun s i wr => ∃ k : Nat, k ≤ 1 ∧ i = .int .i64 k ∧ s = .int .u32 (crcL (if k = 0 then [] else l) 4294967295 : Nat) ∧ wr = W) (fun _ i _ => 1 - (intOf i).toNat)
  case atStart => exact ⟨0, by omega, rfl, rfl, rfl⟩
  case round =>
    obtain ⟨k, hk, rfl, rfl, rfl⟩ := hrel
    have hkk : k = 0 ∨ k = 1 := by omega
    rcases hkk with rfl | rfl
    · rw [if_pos rfl, show crcL [] 4294967295 = 4294967295 from rfl]
      go_wp2_with fail
      go_loopw [4, 18] (fun s i w2 => ∃ k : Nat, k ≤ l.length ∧ i = .int .i64 k ∧ s = .int .u32 (crcL (l.take k) 4294967295 : Nat) ∧ w2 = wr) (fun _ i _ => l.length - (intOf i).toNat)
      case atStart => exact ⟨0, by omega, rfl, rfl, rfl⟩
      case round =>
        obtain ⟨k, hk, rfl, rfl, rfl⟩ := hrel
        by_cases hlt : k < l.length
        · obtain ⟨b, off, rfl, hat⟩ := hBW.out (fun e => by rw [e] at hlt; simp at hlt)
          have c1 := hat.cells k l[k] (List.getElem?_eq_getElem hlt)
          unfold bv at c1
          have HS := Lib.hid (crcL_snoc hlt 4294967295)
          have hs := crcL_lt (l.take k) 4294967295 (by decide)
          obtain ⟨s, hse⟩ : ∃ s, crcL (l.take k) 4294967295 = s := ⟨_, rfl⟩
          have hx := l[k].toNat_lt
          obtain ⟨x, hxe⟩ : ∃ x, l[k].toNat = x := ⟨_, rfl⟩
          rw [hxe] at c1 HS hx
          rw [hse] at hs HS ⊢
          have e1 := u32_x s x hs (by omega)
          have l1 : s ^^^ x < 4294967296 := Nat.xor_lt_two_pow (n := 32) hs (by show x < 2 ^ 32; omega)
          have e2 := u32_15 (s ^^^ x) l1
          have hj : (s ^^^ x) % 16 < 16 := Nat.mod_lt _ (by decide)
          have HN : Hid (nb s x = n1 (n1 s x) (x / 16)) := Lib.hid rfl
          have HN1 : Hid (n1 s x = t16 ((s ^^^ x) % 16) ^^^ (s / 16)) := Lib.hid rfl
          obtain ⟨j, hje⟩ : ∃ j, (s ^^^ x) % 16 = j := ⟨_, rfl⟩
          obtain ⟨y, hye⟩ : ∃ y, s ^^^ x = y := ⟨_, rfl⟩
          rw [hje] at hj e2 HN1
          rw [hye] at e1 e2 l1
          have c2 := HT.out j hj
          have e3 : bits .xor .u32 (t16 j : Int) ((s : Int) / 16) = ((n1 s x : Nat) : Int) := by
            rw [HN1.out]; exact u32_x (t16 j) (s / 16) (t16_lt j) (by omega)
          obtain ⟨t, hte⟩ : ∃ t, t16 j = t := ⟨_, rfl⟩
          rw [hte] at c2 e3
          have l2 : n1 s x < 4294967296 := n1_lt hs
          have HN2 : Hid (n1 (n1 s x) (x / 16) = t16 ((n1 s x ^^^ (x / 16)) % 16) ^^^ (n1 s x / 16)) := Lib.hid rfl
          obtain ⟨s1, hs1⟩ : ∃ s1, n1 s x = s1 := ⟨_, rfl⟩
          rw [hs1] at e3 l2 HN2 HN
          have e4 : bits .xor .u32 (s1 : Int) ((x : Int) / 16) = ((s1 ^^^ (x / 16) : Nat) : Int) := u32_x s1 (x / 16) l2 (by omega)
          have l3 : s1 ^^^ (x / 16) < 4294967296 := Nat.xor_lt_two_pow (n := 32) l2 (by show x / 16 < 2 ^ 32; omega)
          have e5 := u32_15 (s1 ^^^ (x / 16)) l3
          have hj2 : (s1 ^^^ (x / 16)) % 16 < 16 := Nat.mod_lt _ (by decide)
          obtain ⟨j2, hje2⟩ : ∃ j, (s1 ^^^ (x / 16)) % 16 = j := ⟨_, rfl⟩
          obtain ⟨y2, hye2⟩ : ∃ y, s1 ^^^ (x / 16) = y := ⟨_, rfl⟩
          rw [hje2] at hj2 e5 HN2
          rw [hye2] at e4 e5 l3
          have c3 := HT.out j2 hj2
          have e6 : bits .xor .u32 (t16 j2 : Int) ((s1 : Int) / 16) = ((nb s x : Nat) : Int) := by
            rw [HN.out, HN2.out]; exact u32_x (t16 j2) (s1 / 16) (t16_lt j2) (by omega)
          obtain ⟨t', hte2⟩ : ∃ t, t16 j2 = t := ⟨_, rfl⟩
          rw [hte2] at c3 e6
          obtain ⟨s2, hs2⟩ : ∃ s2, nb s x = s2 := ⟨_, rfl⟩
          rw [hs2] at e6 HS
          clear hse hxe hje hye hte hs1 hje2 hye2 hte2 hs2 HN HN1 HN2
          go_wp2_with fail
          exact ⟨⟨k + 1, by omega, by go_num, by rw [HS.out], trivial⟩, by simp [intOf]; omega⟩
        · obtain rfl : k = l.length := by omega
          rw [List.take_length]
          go_wp2_with fail
          exact ⟨⟨1, by omega, by go_num, by simp, trivial⟩, by simp [intOf]⟩
    · rw [if_neg (by omega)]
      have hl2 := HL.out
      obtain ⟨s, hse⟩ : ∃ s, crcL l 4294967295 = s := ⟨_, rfl⟩
      have HC : Hid (crc l = 4294967295 - s) := Lib.hid (by unfold crc; rw [hse])
      rw [hse] at hl2 ⊢
      have e1 := u32_not s hl2
      clear hse
      go_wp2_with fail
      go_ret
      exact ⟨by rw [HC.out]; rfl, hb⟩
end Go.Proofs.Ytcghgnncmnoalaa
namespace Go.Proofs.Ytcghgnncmnoalaa
open Go.RowKit Go.Maps

/-- a number's four bytes -/
def fourL (n : Nat) : List UInt8 := [UInt8.ofNat (n / 16777216), UInt8.ofNat (n / 65536), UInt8.ofNat (n / 256), UInt8.ofNat n]
set_option maxRecDepth 10000 in
set_option maxHeartbeats 400000 in
theorem r8four_any (n : Nat) (w : World) (h : n < 4294967296) : Calls Try.prog 97 #[.int .u32 n] w fun e w' => ∃ v, e = .returned v ∧ BsO w' w.heap.size v (fourL n) ∧ Below w.heap.size w w' := by
  go_enter Try.func97, Try.ntmps97
  go_wp2
  go_ret
  exact ⟨_, rfl, BsO.new (l := fourL n) (heap_new w _) (Nat.le_refl _) (by simp [fourL, bv]; omega) (by simp [fourL, maxLen]), below_box w _⟩
theorem or32 (p q r s : Nat) (hp : p < 256) (hq : q < 256) (hr : r < 256) (hs : s < 256) :
    bits .or .u32 (bits .or .u32 (bits .or .u32 ((p : Int) * 16777216) ((q : Int) * 65536)) ((r : Int) * 256)) (s : Int) = ((((p * 256 + q) * 256 + r) * 256 + s : Nat) : Int) := by
  have e1 : bits .or .u32 ((p : Int) * 16777216) ((q : Int) * 65536) = ((p * 16777216 + q * 65536 : Nat) : Int) := by
    have := u32_or_nat (p * 16777216) (q * 65536) (by omega) (by omega)
    rw [nat_join 24 _ _ (by omega) (by show _ < 16777216; omega)] at this
    simpa using this
  have e2 : bits .or .u32 ((p * 16777216 + q * 65536 : Nat) : Int) ((r : Int) * 256) = ((p * 16777216 + q * 65536 + r * 256 : Nat) : Int) := by
    have := u32_or_nat (p * 16777216 + q * 65536) (r * 256) (by omega) (by omega)
    rw [nat_join 16 _ _ (by omega) (by show _ < 65536; omega)] at this
    simpa using this
  have e3 : bits .or .u32 ((p * 16777216 + q * 65536 + r * 256 : Nat) : Int) (s : Int) = ((p * 16777216 + q * 65536 + r * 256 + s : Nat) : Int) := by
    have := u32_or_nat (p * 16777216 + q * 65536 + r * 256) s (by omega) (by omega)
    rw [nat_join 8 _ _ (by omega) (by show _ < 256; omega)] at this
    exact this
  rw [e1, e2, e3, show ((p * 256 + q) * 256 + r) * 256 + s = p * 16777216 + q * 65536 + r * 256 + s by omega]
set_option maxRecDepth 10000 in
set_option maxHeartbeats 1000000 in
theorem word_any (b off n cap : Nat) (l : List UInt8) (w : World) (h : BsAt w b off l) (h4 : 4 ≤ l.length) (hn : l.length = n) (hm : n ≤ 4000000) : Calls Try.prog 120 #[.slice (some ⟨b, off, none⟩) n cap] w fun e w' => e = .returned (.int .u32 (numL (l.take 4) : Nat)) ∧ ∃ m, w' = w.drewN m := by
  subst hn
  match l, h, h4, hm with
  | p :: q :: r :: s :: t, h, h4, hm =>
  have c0 := h.cells 0 p rfl
  have c1 := h.cells 1 q rfl
  have c2 := h.cells 2 r rfl
  have c3 := h.cells 3 s rfl
  have hp := p.toNat_lt
  have hq := q.toNat_lt
  have hr := r.toNat_lt
  have hs := s.toNat_lt
  have HV : Hid (numL ((p :: q :: r :: s :: t).take 4) = ((p.toNat * 256 + q.toNat) * 256 + r.toNat) * 256 + s.toNat) := Lib.hid (by simp [numL])
  unfold bv at c0 c1 c2 c3
  rw [Nat.add_zero] at c0
  go_enter Try.func120, Try.ntmps120
  go_wp2_with fail
  go_quiet (fail)
  go_wp2
  go_ret
  refine ⟨?_, _, rfl⟩
  rw [HV.out, ← or32 _ _ _ _ hp hq hr hs]
  rfl
theorem new_row {w : World} {cs : Array Value} {l : List UInt8} (h : cs.toList = l.map bv) : ∀ j (hj : j < l.length), (w.alloc (.cells cs 5)).cell? ((⟨w.heap.size, 0, none⟩ : Addr).add j) = some (.int .u8 (l[j].toNat : Int)) := by
  intro j hj
  rw [add_none]
  refine (cell_of_blk (heap_new w _) _).trans ?_
  rw [Nat.zero_add, ← Array.getElem?_toList, h]
  simp [hj, bv]
set_option maxRecDepth 10000 in
set_option maxHeartbeats 1000000 in
theorem bfour_any (B : Nat) (v : Value) (l : List UInt8) (n : Nat) (w : World) (hO : BsO w B v l) (hB : B ≤ w.heap.size) (hl : l.length ≤ 3000000) (h : n < 4294967296) :
    Calls Try.prog 129 #[v, .int .u32 n] w fun e w' => ∃ v', e = .returned v' ∧ BsO w' B v' (l ++ fourL n) ∧ Below B w w' := by
  obtain ⟨va, vc, hv⟩ := hO.shape
  subst hv
  have HO := Lib.hid hO
  clear hO
  go_enter Try.func129, Try.ntmps129
  have hr : (#[Value.int .u8 ((n : Int) / 16777216), .int .u8 ((n : Int) / 65536 % 256), .int .u8 ((n : Int) / 256 % 256), .int .u8 ((n : Int) % 256)] : Array Value).toList = (fourL n).map bv := by simp [fourL, bv]; omega
  have HR := Lib.hid (new_row (w := w) hr)
  clear hr
  go_wp2_with (at_builtin; refine wpList_appB _ rfl (.tmp 5) (.tmp 17) rfl B _ _ rfl (HO.out.alloc _) ⟨w.heap.size, 0, none⟩ 4 4 (fourL n) rfl rfl HR.out (by simp [fourL]; omega) (by simp; omega) ?_; intro v1 w2 o1 b1 g1 k1)
  go_ret
  exact ⟨_, rfl, o1, ((Below.refl _ _).alloc hB _).trans b1⟩
theorem b1_nat (r : Nat) : (r % 2 = 1 → b1 r = (r / 2) ^^^ 3988292384) ∧ (r % 2 ≠ 1 → b1 r = r / 2) := ⟨fun h => if_pos h, fun h => if_neg h⟩
theorem b1_lt {r : Nat} (h : r < 4294967296) : b1 r < 4294967296 := by
  unfold b1
  split
  · exact Nat.xor_lt_two_pow (n := 32) (by show r / 2 < 2 ^ 32; omega) (by decide)
  · omega
/-- some bits on -/
def bN : Nat → Nat → Nat
  | 0, r => r
  | k + 1, r => b1 (bN k r)
theorem bN_lt {r : Nat} (h : r < 4294967296) : ∀ k, bN k r < 4294967296
  | 0 => h
  | k + 1 => b1_lt (bN_lt h k)
theorem bN_8 (r : Nat) : bN 8 r = b8 r := rfl
set_option maxRecDepth 100000 in
set_option maxHeartbeats 1000000 in
theorem r8sum_any (a : Option Addr) (cap : Nat) (l : List UInt8) (w : World) (h : BsV w a l) (hl : l.length ≤ 4000000) :
    Calls Try.prog 98 #[.slice a l.length cap] w fun e w' => e = .returned (.int .u32 (crc l : Nat)) ∧ w' = w := by
  have HB := Lib.hid h
  clear h
  go_enter Try.func98, Try.ntmps98
  go_wp2_with fail
  go_loopw [3, 4] (fun s i wr => ∃ k : Nat, k ≤ l.length ∧ i = .int .i64 k ∧ s = .int .u32 (crcR (l.take k) 4294967295 : Nat) ∧ wr = w) (fun _ i _ => l.length - (intOf i).toNat)
  case atStart => exact ⟨0, by omega, rfl, rfl, rfl⟩
  case round =>
    obtain ⟨k, hk, rfl, rfl, rfl⟩ := hrel
    by_cases hlt : k < l.length
    · obtain ⟨b, off, rfl, hat⟩ := HB.out (fun e => by rw [e] at hlt; simp at hlt)
      have c1 := hat.cells k l[k] (List.getElem?_eq_getElem hlt)
      unfold bv at c1
      have HS : Hid (crcR (l.take (k + 1)) 4294967295 = bN 8 (crcR (l.take k) 4294967295 ^^^ (l[k]).toNat)) := Lib.hid (by
        unfold crcR
        rw [List.take_succ_eq_append_getElem hlt, List.foldl_append]; rfl)
      have hs : crcR (l.take k) 4294967295 < 4294967296 := by rw [← crcL_eq]; exact crcL_lt _ _ (by decide)
      obtain ⟨s, hse⟩ : ∃ s, crcR (l.take k) 4294967295 = s := ⟨_, rfl⟩
      have hx := l[k].toNat_lt
      obtain ⟨x, hxe⟩ : ∃ x, l[k].toNat = x := ⟨_, rfl⟩
      rw [hxe] at c1 HS hx
      rw [hse] at hs HS ⊢
      have e1 := u32_x s x hs (by omega)
      have l1 : s ^^^ x < 4294967296 := Nat.xor_lt_two_pow (n := 32) hs (by show x < 2 ^ 32; omega)
      obtain ⟨y, hye⟩ : ∃ y, s ^^^ x = y := ⟨_, rfl⟩
      rw [hye] at e1 l1 HS
      have HAT := Lib.hid hat
      clear hse hxe hye hat
      go_wp2_with fail
      clear c1 e1
      go_loopw [3, 5] (fun s i w2 => ∃ j : Nat, j ≤ 8 ∧ i = .int .i64 j ∧ s = .int .u32 (bN j y : Nat) ∧ w2 = wr) (fun _ i _ => 8 - (intOf i).toNat)
      case atStart => exact ⟨0, by omega, rfl, rfl, rfl⟩
      case round =>
        obtain ⟨j, hj, rfl, rfl, rfl⟩ := hrel
        by_cases hj8 : j < 8
        · have hr := bN_lt l1 j
          have HE : Hid (bN (j + 1) y = b1 (bN j y)) := Lib.hid rfl
          obtain ⟨r, hre⟩ : ∃ r, bN j y = r := ⟨_, rfl⟩
          rw [hre] at hr HE ⊢
          clear hre
          by_cases ho : r % 2 = 1
          · have HE2 := Lib.hid ((b1_nat r).1 ho)
            have t1 : ((r : Int) % 2 == 1) = true := by simp; omega
            have e2 : bits .xor .u32 ((r : Int) / 2) 3988292384 = ((r / 2 ^^^ 3988292384 : Nat) : Int) := u32_x (r / 2) 3988292384 (by omega) (by decide)
            go_wp2_with fail
            exact ⟨⟨j + 1, by omega, by go_num, by rw [HE.out, HE2.out], trivial⟩, by simp [intOf]; omega⟩
          · have HE2 := Lib.hid ((b1_nat r).2 ho)
            have t1 : ((r : Int) % 2 == 1) = false := by simp; omega
            go_wp2_with fail
            exact ⟨⟨j + 1, by omega, by go_num, by rw [HE.out, HE2.out]; rfl, trivial⟩, by simp [intOf]; omega⟩
        · obtain rfl : j = 8 := by omega
          go_wp2_with fail
          exact ⟨⟨k + 1, by omega, by go_num, by rw [HS.out], trivial⟩, by simp [intOf]; omega⟩
    · obtain rfl : k = l.length := by omega
      rw [List.take_length]
      have hl2 : crcR l 4294967295 < 4294967296 := by rw [← crcL_eq]; exact crcL_lt _ _ (by decide)
      obtain ⟨s, hse⟩ : ∃ s, crcR l 4294967295 = s := ⟨_, rfl⟩
      have HC : Hid (crc l = 4294967295 - s) := Lib.hid (by unfold crc; rw [crcL_eq, hse])
      rw [hse] at hl2 ⊢
      have e1 : bits .xor .u32 (s : Int) 4294967295 = ((4294967295 - s : Nat) : Int) := by rw [← xor_ones s hl2]; exact u32_x s 4294967295 hl2 (by decide)
      clear hse
      go_wp2_with fail
      go_ret
      exact ⟨by rw [HC.out]; rfl, rfl⟩
end Go.Proofs.Ytcghgnncmnoalaa
namespace Go.Proofs.Ytcghgnncmnoalaa
open Go.RowKit Go.Maps

/-- a block's bytes ahead of its check sum -/
def headL (k : UInt8) (l : List UInt8) : List UInt8 := 203 :: k :: (fourL l.length ++ l)
/-- a block's bytes -/
def packL (k : UInt8) (l : List UInt8) : List UInt8 := headL k l ++ fourL (crc (headL k l))
theorem headL_len (k : UInt8) (l : List UInt8) : (headL k l).length = l.length + 6 := by simp [headL, fourL]
theorem packL_len (k : UInt8) (l : List UInt8) : (packL k l).length = l.length + 10 := by simp [packL, headL_len, fourL]
theorem newV {w : World} {cs : Array Value} {l : List UInt8} (h : cs.toList = l.map bv) : BsV (w.alloc (.cells cs 5)) (some ⟨w.heap.size, 0, none⟩) l := fun _ => ⟨_, 0, rfl, new_at h⟩
set_option maxRecDepth 100000 in
set_option maxHeartbeats 2000000 in
theorem pack_any (q : Nat) (k : UInt8) (a : Option Addr) (cap : Nat) (l : List UInt8) (w : World) (h0 : w.cell? ⟨q, 0, none⟩ = some (bv k)) (h1 : w.cell? ⟨q, 1, none⟩ = some (.slice a l.length cap)) (hB : BsV w a l) (hl : l.length ≤ 1000000) :
    Calls Try.prog 85 #[.slice (some ⟨q, 0, none⟩) 1 1] w fun e w' => ∃ v, e = .returned (.tuple #[v, .int .i64 0]) ∧ BsO w' w.heap.size v (packL k l) ∧ Below w.heap.size w w' := by
  have hqw : q < w.heap.size := World.block_lt_of_cell? w ⟨q, 0, none⟩ h0
  have HP := Lib.hid (show packL k l = headL k l ++ fourL (crc (headL k l)) from rfl)
  have HH := Lib.hid (show headL k l = 203 :: k :: (fourL l.length ++ l) from rfl)
  have HC := Lib.hid (crc_lt (headL k l))
  have HHL := Lib.hid (headL_len k l)
  have HB := Lib.hid hB
  obtain ⟨kv, hkv⟩ : ∃ v, bv k = v := ⟨_, rfl⟩
  rw [hkv] at h0
  unfold bv at hkv
  subst hkv
  have hk := k.toNat_lt
  obtain ⟨kn, hkn⟩ : ∃ n, k.toNat = n := ⟨_, rfl⟩
  rw [hkn] at h0 hk
  have HK := Lib.hid hkn
  obtain ⟨W, hW⟩ : ∃ W, W = w.alloc (.cells #[.int .u8 (kn : Int), .slice a l.length cap] 43) := ⟨_, rfl⟩
  have hzW : W.heap.size = w.heap.size + 1 := by rw [hW]; simp
  have hBW : Below w.heap.size w W := by rw [hW]; exact below_box w _
  have eW : W.heap[w.heap.size]? = some (.cells #[.int .u8 (kn : Int), .slice a l.length cap] 43) := by rw [hW]; exact heap_new w _
  have x0 := cell_of_blk eW 0
  have x1 := cell_of_blk eW 1
  simp at x0 x1
  have ks : ∀ w', Below W.heap.size W w' → (fun w' => Below W.heap.size W w' ∧ w'.cell? ⟨w.heap.size, 0, none⟩ = some (.int .u8 (kn : Int)) ∧ w'.cell? ⟨w.heap.size, 1, none⟩ = some (.slice a l.length cap)) w' := fun w' hb => by
    have e := (hb.block _ (by omega)).trans eW
    exact ⟨hb, by rw [cell_of_blk e]; rfl, by rw [cell_of_blk e]; rfl⟩
  have KS := Lib.hid ks
  have HW := Lib.hid hW
  have HBV := Lib.hid (hB.below hBW)
  have HBW := Lib.hid hBW
  have hw32 : IntKind.u32.wrap (l.length : Int) = l.length := by rw [IntKind.wrap_u32']; omega
  have NS : Hid (∀ W : World, Src Try.prog 1 22 (.slice (some ⟨W.heap.size, 0, none⟩) 2 2) 2 ([203, k].map bv) (W.alloc (.cells #[.int .u8 203, .int .u8 (kn : Int)] 5)).drew) := Lib.hid (fun W => ((newV (w := W) (l := [203, k]) (by simp [bv, hkn])).drew).src 2)
  have HE : Hid ([] ++ [203, k] ++ fourL l.length ++ l = headL k l) := Lib.hid (by simp [headL])
  have HNE : Hid (headL k l ≠ []) := Lib.hid (by simp [headL])
  clear hW hkn hB ks eW hzW
  go_enter Try.func85, Try.ntmps85
  go_wp2_with fail
  go_loopw [4, 10] (fun v i wr => ∃ j : Nat, i = .int .i64 j ∧ (j = 0 ∧ v = .slice none 0 0 ∧ w = wr ∨ j = 1 ∧ BsO wr w.heap.size v (packL k l) ∧ Below w.heap.size w wr)) (fun _ i _ => 1 - (intOf i).toNat)
  case atStart => exact ⟨0, rfl, .inl ⟨rfl, rfl, rfl⟩⟩
  case round =>
    obtain ⟨j, rfl, ⟨rfl, rfl, rfl⟩ | ⟨rfl, hO, hb⟩⟩ := hrel
    · go_wp2_with fail
      rw [← HW.out]
      clear x0 x1 h0 h1
      go_wp2_with fail
      refine wp_region_held_drew (S := (fun w' => Below W.heap.size W w' ∧ w'.cell? ⟨w.heap.size, 0, none⟩ = some (.int .u8 (kn : Int)) ∧ w'.cell? ⟨w.heap.size, 1, none⟩ = some (.slice a l.length cap))) (by kernel_rfl) (KS.out _ (Below.refl _ _).drew) (fun hHeld => ?_)
      refine wpAnyH_take (i := 0) (oi := ⟨some 20, _, _, _, _, _⟩) (v := ?vvz1) rfl (by kernel_rfl) (by kernel_rfl) (by kernel_rfl) (fun _ _ _ h => h) (Or.inl ⟨by rfl, ?yyz1⟩) hHeld ?rrz1
      case yyz1 => (intro wq hSw; (try dsimp only at hSw); go_simp; first | done | with_reducible rfl)
      simp only [Act.put, List.setIfInBounds_toArray, List.set_cons_zero, List.set_cons_succ]
      refine wpAnyH_take (i := 1) (oi := ⟨some 21, _, _, _, _, _⟩) (v := ?vvz2) rfl (by kernel_rfl) (by kernel_rfl) (by kernel_rfl) (fun _ _ _ h => h) (Or.inl ⟨by rfl, ?yyz2⟩) hHeld ?rrz2
      case yyz2 => (intro wq hSw; (try dsimp only at hSw); go_simp; first | done | with_reducible rfl)
      simp only [Act.put, List.setIfInBounds_toArray, List.set_cons_zero, List.set_cons_succ]
      refine wpAnyH_take (i := 2) (oi := ⟨some 22, _, _, _, _, _⟩) (v := ?vvz3) rfl (by kernel_rfl) (by kernel_rfl) (by kernel_rfl) (fun _ _ _ h => h) (Or.inl ⟨by rfl, ?yyz3⟩) hHeld ?rrz3
      case yyz3 => (intro wq hSw; (try dsimp only at hSw); go_simp; first | done | with_reducible rfl)
      simp only [Act.put, List.setIfInBounds_toArray, List.set_cons_zero, List.set_cons_succ]
      refine wpAnyH_take (i := 5) (oi := ⟨some 25, _, _, _, _, _⟩) (v := ?vvz4) rfl (by kernel_rfl) (by kernel_rfl) (by kernel_rfl) (fun _ _ _ h => h) (Or.inl ⟨by rfl, ?yyz4⟩) hHeld ?rrz4
      case yyz4 => (intro wq hSw; (try dsimp only at hSw); go_simp; first | done | with_reducible rfl)
      simp only [Act.put, List.setIfInBounds_toArray, List.set_cons_zero, List.set_cons_succ]
      refine wpAnyH_take (i := 6) (oi := ⟨some 26, _, _, _, _, _⟩) (v := ?vvz5) rfl (by kernel_rfl) (by kernel_rfl) (by kernel_rfl) (fun _ _ _ h => h) (Or.inl ⟨by rfl, ?yyz5⟩) hHeld ?rrz5
      case yyz5 => (intro wq hSw; (try dsimp only at hSw); go_simp; first | done | with_reducible rfl)
      simp only [Act.put, List.setIfInBounds_toArray, List.set_cons_zero, List.set_cons_succ]
      refine wpAnyH_take (i := 7) (oi := ⟨some 27, _, _, _, _, _⟩) (v := ?vvz6) rfl (by kernel_rfl) (by kernel_rfl) (by kernel_rfl) (fun _ _ _ h => h) (Or.inl ⟨by rfl, ?yyz6⟩) hHeld ?rrz6
      case yyz6 => (intro wq hSw; (try dsimp only at hSw); go_simp; first | done | with_reducible rfl)
      simp only [Act.put, List.setIfInBounds_toArray, List.set_cons_zero, List.set_cons_succ]
      refine wpAnyH_take (i := 8) (oi := ⟨some 28, _, _, _, _, _⟩) (v := ?vvz7) rfl (by kernel_rfl) (by kernel_rfl) (by kernel_rfl) (fun _ _ _ h => h) (Or.inl ⟨by rfl, ?yyz7⟩) hHeld ?rrz7
      case yyz7 => (intro wq hSw; (try dsimp only at hSw); go_simp; first | done | with_reducible rfl)
      simp only [Act.put, List.setIfInBounds_toArray, List.set_cons_zero, List.set_cons_succ]
      refine wpAnyH_take (i := 10) (oi := ⟨some 30, _, _, _, _, _⟩) (v := ?vvz8) rfl (by kernel_rfl) (by kernel_rfl) (by kernel_rfl) (fun _ _ _ h => h) (Or.inl ⟨by rfl, ?yyz8⟩) hHeld ?rrz8
      case yyz8 => (intro wq hSw; (try dsimp only at hSw); go_simp; first | done | with_reducible rfl)
      simp only [Act.put, List.setIfInBounds_toArray, List.set_cons_zero, List.set_cons_succ]
      refine wpAnyH_take (i := 11) (oi := ⟨some 31, _, _, _, _, _⟩) (v := ?vvz9) rfl (by kernel_rfl) (by kernel_rfl) (by kernel_rfl) (fun _ _ _ h => h) (Or.inl ⟨by rfl, ?yyz9⟩) hHeld ?rrz9
      case yyz9 => (intro wq hSw; (try dsimp only at hSw); go_simp; first | done | with_reducible rfl)
      simp only [Act.put, List.setIfInBounds_toArray, List.set_cons_zero, List.set_cons_succ]
      refine wpAnyH_ready (rs := [3]) (by kernel_rfl) (by simp) ?_
      refine AllReadyH.cons (o := ⟨some 23, _, _, _, _, _⟩) rfl (fun K hK => ?_) AllReadyH.nil
      go_simp
      refine hK.out _ _ ?ssz10 (fun hHeld => ?_)
      case ssz10 => (exact KS.out _ (below_al hHeld.1 _))
      clear hK K
      try simp only [Act.put, List.setIfInBounds_toArray, List.set_cons_zero, List.set_cons_succ]
      refine wpAnyH_ready (rs := [4]) (by kernel_rfl) (by simp) ?_
      refine AllReadyH.cons (o := ⟨some 24, _, _, _, _, _⟩) rfl (fun K hK => ?_) AllReadyH.nil
      have hB0 := hHeld.1
      try dsimp only at hB0
      refine step_appX _ rfl (.tmp 20) (.tmp 23) 22 rfl W.heap.size _ [] rfl (BsO.nil _ _) (.slice (some ⟨W.heap.size, 0, none⟩) 2 2) 2 [203, k] rfl rfl (NS.out W) (by simp) hB0.size ?_
      rintro v4 w4 ⟨o4, b4, g4, k4⟩
      have hB4 := hB0.trans b4
      have O4 := Lib.hid o4
      clear o4 g4 k4
      refine hK.out _ _ ?ssz11 (fun hHeld => ?_)
      case ssz11 => (exact KS.out _ hB4)
      clear hK K
      try simp only [Act.put, List.setIfInBounds_toArray, List.set_cons_zero, List.set_cons_succ]
      refine wpAnyH_ready (rs := [9]) (by kernel_rfl) (by simp) ?_
      refine AllReadyH.cons (o := ⟨some 29, _, _, _, _, _⟩) rfl (fun K hK => ?_) AllReadyH.nil
      go_simp
      refine (bfour_any W.heap.size _ _ l.length _ O4.out hB4.size (by simp) (by omega)).mono ?_
      rintro e w5 ⟨v5, rfl, o5, b5⟩
      have hB5 := hB4.trans b5
      have O5 := Lib.hid o5
      clear o5
      go_wp2_with fail
      refine hK.out _ _ ?ssz12 (fun hHeld => ?_)
      case ssz12 => (exact KS.out _ hB5)
      clear hK K
      try simp only [Act.put, List.setIfInBounds_toArray, List.set_cons_zero, List.set_cons_succ]
      refine wpAnyH_ready (rs := [12]) (by kernel_rfl) (by simp) ?_
      refine AllReadyH.cons (o := ⟨some 32, _, _, _, _, _⟩) rfl (fun K hK => ?_) AllReadyH.nil
      refine step_appX _ rfl (.tmp 29) (.tmp 31) 22 rfl W.heap.size _ _ rfl O5.out _ l.length l rfl rfl ((HBV.out.below hB5).src cap) (by simp [fourL]; omega) hB5.size ?_
      rintro v6 w6 ⟨o6, b6, g6, k6⟩
      have hB6 := hB5.trans b6
      have O6 := Lib.hid o6
      clear o6 g6 k6
      refine hK.out _ _ ?ssz13 (fun hHeld => ?_)
      case ssz13 => (exact KS.out _ hB6)
      clear hK K
      try simp only [Act.put, List.setIfInBounds_toArray, List.set_cons_zero, List.set_cons_succ]
      refine wpAnyH_take (i := 13) (oi := ⟨some 4, _, _, _, _, _⟩) (v := ?vvz14) rfl (by kernel_rfl) (by kernel_rfl) (by kernel_rfl) (fun _ _ _ h => h) (Or.inl ⟨by rfl, ?yyz14⟩) hHeld ?rrz14
      case yyz14 => (intro wq hSw; (try dsimp only at hSw); go_simp; first | done | with_reducible rfl)
      simp only [Act.put, List.setIfInBounds_toArray, List.set_cons_zero, List.set_cons_succ]
      refine wpAnyH_done (by kernel_rfl) ?_ _
      clear hHeld
      rw [HE.out] at O6
      have O7 := O6.out
      obtain ⟨g, cg, rfl, hg, hat⟩ := O7.at' HNE.out
      have HAT := Lib.hid hat
      have O7 := Lib.hid O7
      have hgl := hat.lt
      clear hat O6
      go_wp2_with fail
      have eN := heap_new w6 (.cells #[.slice (some ⟨g, 0, none⟩) (headL k l).length cg] 22)
      have bN := below_box w6 (.cells #[.slice (some ⟨g, 0, none⟩) (headL k l).length cg] 22)
      refine (sum_any w6.heap.size cg (some ⟨g, 0, none⟩) (headL k l) _ (cell_of_blk eN 0) (fun _ => ⟨g, 0, rfl, HAT.out.below bN⟩) (by rw [HHL.out]; omega)).mono ?_
      rintro e w7 ⟨rfl, hb7⟩
      have hB7 := below_then bN hb7
      have O8 := Lib.hid (O7.out.below hB7)
      have HBB := Lib.hid (below_then hB6 hB7)
      clear eN bN hb7 hB7
      go_wp2_with fail
      refine (bfour_any W.heap.size _ (headL k l) (crc (headL k l)) _ O8.out HBB.out.size (by rw [HHL.out]; omega) HC.out).mono ?_
      rintro e w8 ⟨v8, rfl, o8, b8⟩
      go_wp2_with fail
      rw [← HP.out] at o8
      exact ⟨⟨1, rfl, .inr ⟨rfl, o8.mono HBW.out.size, below_then HBW.out (HBB.out.trans b8)⟩⟩, by simp [intOf]⟩
    · obtain ⟨va, vc, rfl⟩ := hO.shape
      go_wp2_with fail
      go_ret2
      exact ⟨_, rfl, hO, hb⟩
end Go.Proofs.Ytcghgnncmnoalaa
namespace Go.Proofs.Ytcghgnncmnoalaa
open Go.RowKit Go.Maps

set_option maxRecDepth 100000 in
set_option maxHeartbeats 2000000 in
theorem r8pack_any (k : UInt8) (a : Option Addr) (cap : Nat) (l : List UInt8) (w : World) (hB : BsV w a l) (hl : l.length ≤ 1000000) :
    Calls Try.prog 27 #[.agg #[bv k, .slice a l.length cap]] w fun e w' => ∃ v, e = .returned v ∧ BsO w' w.heap.size v (packL k l) ∧ Below w.heap.size w w' := by
  have HP := Lib.hid (show packL k l = headL k l ++ fourL (crc (headL k l)) from rfl)
  have HC := Lib.hid (crc_lt (headL k l))
  have HHL := Lib.hid (headL_len k l)
  have HNE : Hid (headL k l ≠ []) := Lib.hid (by simp [headL])
  have HE : Hid ([203, k] ++ fourL l.length ++ l = headL k l) := Lib.hid (by simp [headL])
  unfold bv
  have hk := k.toNat_lt
  have NB : Hid (∀ W : World, BsO (W.alloc (.cells #[.int .u8 203, .int .u8 (k.toNat : Int)] 5)) W.heap.size (.slice (some ⟨W.heap.size, 0, none⟩) 2 2) [203, k]) := Lib.hid (fun W => BsO.new (l := [203, k]) (heap_new W _) (Nat.le_refl _) (by simp [bv]) (by simp [maxLen]))
  obtain ⟨kn, hkn⟩ : ∃ n, k.toNat = n := ⟨_, rfl⟩
  rw [hkn] at hk NB ⊢
  obtain ⟨W, hW⟩ : ∃ W, W = w.alloc (.cells #[.int .u8 (kn : Int), .slice a l.length cap] 43) := ⟨_, rfl⟩
  have hzW : W.heap.size = w.heap.size + 1 := by rw [hW]; simp
  have hBW : Below w.heap.size w W := by rw [hW]; exact below_box w _
  have eW : W.heap[w.heap.size]? = some (.cells #[.int .u8 (kn : Int), .slice a l.length cap] 43) := by rw [hW]; exact heap_new w _
  have ks : ∀ w', Below W.heap.size W w' → (fun w' => Below W.heap.size W w' ∧ w'.cell? ⟨w.heap.size, 0, none⟩ = some (.int .u8 (kn : Int)) ∧ w'.cell? ⟨w.heap.size, 1, none⟩ = some (.slice a l.length cap)) w' := fun w' hb => by
    have e := (hb.block _ (by omega)).trans eW
    exact ⟨hb, by rw [cell_of_blk e]; rfl, by rw [cell_of_blk e]; rfl⟩
  have KS := Lib.hid ks
  have HW := Lib.hid hW
  have HBV := Lib.hid (hB.below hBW)
  have HBW := Lib.hid hBW
  have hw32 : IntKind.u32.wrap (l.length : Int) = l.length := by rw [IntKind.wrap_u32']; omega
  clear hW hkn hB ks eW hzW hBW
  go_enter Try.func27, Try.ntmps27
  go_wp2_with fail
  rw [← HW.out]
  refine wp_region_held_drew (S := (fun w' => Below W.heap.size W w' ∧ w'.cell? ⟨w.heap.size, 0, none⟩ = some (.int .u8 (kn : Int)) ∧ w'.cell? ⟨w.heap.size, 1, none⟩ = some (.slice a l.length cap))) (by kernel_rfl) (KS.out _ (Below.refl _ _).drew) (fun hHeld => ?_)
  obtain ⟨Wd, hGen⟩ : ∃ u, u = World.drew W := ⟨_, rfl⟩
  rw [← hGen] at hHeld ⊢
  clear hGen
  refine wpAnyH_take (i := 0) (oi := ⟨some 4, _, _, _, _, _⟩) (v := ?vvz1) rfl (by kernel_rfl) (by kernel_rfl) (by kernel_rfl) (fun _ _ _ h => h) (Or.inl ⟨by rfl, ?yyz1⟩) hHeld ?rrz1
  case yyz1 => (intro wq hSw; (try dsimp only at hSw); go_simp; first | done | with_reducible rfl)
  simp only [Act.put, List.setIfInBounds_toArray, List.set_cons_zero, List.set_cons_succ]
  refine wpAnyH_take (i := 1) (oi := ⟨some 5, _, _, _, _, _⟩) (v := ?vvz2) rfl (by kernel_rfl) (by kernel_rfl) (by kernel_rfl) (fun _ _ _ h => h) (Or.inl ⟨by rfl, ?yyz2⟩) hHeld ?rrz2
  case yyz2 => (intro wq hSw; (try dsimp only at hSw); go_simp; first | done | with_reducible rfl)
  simp only [Act.put, List.setIfInBounds_toArray, List.set_cons_zero, List.set_cons_succ]
  refine wpAnyH_take (i := 3) (oi := ⟨some 7, _, _, _, _, _⟩) (v := ?vvz3) rfl (by kernel_rfl) (by kernel_rfl) (by kernel_rfl) (fun _ _ _ h => h) (Or.inl ⟨by rfl, ?yyz3⟩) hHeld ?rrz3
  case yyz3 => (intro wq hSw; (try dsimp only at hSw); go_simp; first | done | with_reducible rfl)
  simp only [Act.put, List.setIfInBounds_toArray, List.set_cons_zero, List.set_cons_succ]
  refine wpAnyH_take (i := 4) (oi := ⟨some 8, _, _, _, _, _⟩) (v := ?vvz4) rfl (by kernel_rfl) (by kernel_rfl) (by kernel_rfl) (fun _ _ _ h => h) (Or.inl ⟨by rfl, ?yyz4⟩) hHeld ?rrz4
  case yyz4 => (intro wq hSw; (try dsimp only at hSw); go_simp; first | done | with_reducible rfl)
  simp only [Act.put, List.setIfInBounds_toArray, List.set_cons_zero, List.set_cons_succ]
  refine wpAnyH_take (i := 5) (oi := ⟨some 9, _, _, _, _, _⟩) (v := ?vvz5) rfl (by kernel_rfl) (by kernel_rfl) (by kernel_rfl) (fun _ _ _ h => h) (Or.inl ⟨by rfl, ?yyz5⟩) hHeld ?rrz5
  case yyz5 => (intro wq hSw; (try dsimp only at hSw); go_simp; first | done | with_reducible rfl)
  simp only [Act.put, List.setIfInBounds_toArray, List.set_cons_zero, List.set_cons_succ]
  refine wpAnyH_take (i := 6) (oi := ⟨some 10, _, _, _, _, _⟩) (v := ?vvz6) rfl (by kernel_rfl) (by kernel_rfl) (by kernel_rfl) (fun _ _ _ h => h) (Or.inl ⟨by rfl, ?yyz6⟩) hHeld ?rrz6
  case yyz6 => (intro wq hSw; (try dsimp only at hSw); go_simp; first | done | with_reducible rfl)
  simp only [Act.put, List.setIfInBounds_toArray, List.set_cons_zero, List.set_cons_succ]
  refine wpAnyH_ready (rs := [2, 7]) (by kernel_rfl) (by simp) ?_
  refine AllReadyH.cons (o := ⟨some 6, _, _, _, _, _⟩) rfl (fun K hK => ?_) (AllReadyH.cons (o := ⟨some 11, _, _, _, _, _⟩) rfl (fun K hK => ?_) AllReadyH.nil)
  · go_simp
    have O6 := Lib.hid ((NB.out Wd).mono hHeld.1.size)
    refine hK.out _ _ ?ssz7 (fun hHeld => ?_)
    case ssz7 => (exact KS.out _ (below_al hHeld.1 _))
    clear hK K
    try simp only [Act.put, List.setIfInBounds_toArray, List.set_cons_zero, List.set_cons_succ]
    refine wpAnyH_ready (rs := [7]) (by kernel_rfl) (by simp) ?_
    refine AllReadyH.cons (o := ⟨some 11, _, _, _, _, _⟩) rfl (fun K hK => ?_) AllReadyH.nil
    go_simp
    refine (r8four_any l.length _ (by omega)).mono ?_
    rintro e w1 ⟨v1, rfl, o1, b1⟩
    have hB1 := below_then hHeld.1 b1
    obtain ⟨g1, c1, rfl, _, at1⟩ := o1.at' (by simp [fourL])
    have AT := Lib.hid at1
    clear o1 at1
    replace O6 := Lib.hid (O6.out.below b1)
    go_wp2_with fail
    refine hK.out _ _ ?ssz8 (fun hHeld => ?_)
    case ssz8 => (exact KS.out _ hB1)
    clear hK K
    try simp only [Act.put, List.setIfInBounds_toArray, List.set_cons_zero, List.set_cons_succ]
    refine wpAnyH_ready (rs := [8]) (by kernel_rfl) (by simp) ?_
    refine AllReadyH.cons (o := ⟨some 12, _, _, _, _, _⟩) rfl (fun K hK => ?_) AllReadyH.nil
    have hB0 := hHeld.1
    try dsimp only at hB0
    refine step_appX _ rfl (.tmp 6) (.tmp 11) 22 rfl W.heap.size _ [203, k] rfl O6.out (.slice (some ⟨g1, 0, none⟩) 4 c1) 4 (fourL l.length) rfl rfl (BsV.src (l := fourL l.length) (fun _ => ⟨g1, 0, rfl, AT.out⟩) c1) (by simp [fourL]) hB0.size ?_
    rintro v4 w4 ⟨o4, b4, g4, k4⟩
    have hB4 := hB0.trans b4
    have O4 := Lib.hid o4
    clear o4 g4 k4 O6
    refine hK.out _ _ ?ssz9 (fun hHeld => ?_)
    case ssz9 => (exact KS.out _ hB4)
    clear hK K
    try simp only [Act.put, List.setIfInBounds_toArray, List.set_cons_zero, List.set_cons_succ]
    refine wpAnyH_take (i := 9) (oi := ⟨some 3, _, _, _, _, _⟩) (v := ?vvz10) rfl (by kernel_rfl) (by kernel_rfl) (by kernel_rfl) (fun _ _ _ h => h) (Or.inl ⟨by rfl, ?yyz10⟩) hHeld ?rrz10
    case yyz10 => (intro wq hSw; (try dsimp only at hSw); go_simp; first | done | with_reducible rfl)
    simp only [Act.put, List.setIfInBounds_toArray, List.set_cons_zero, List.set_cons_succ]
    refine wpAnyH_done (by kernel_rfl) ?_ _
    clear hHeld
    have ks2 := KS.out _ hB4
    obtain ⟨_, d0, d1⟩ := ks2
    obtain ⟨va, vc, hv⟩ := O4.out.shape
    subst hv
    go_wp2_with (at_builtin; refine wpList_appX _ rfl (.tmp 13) (.tmp 15) 22 rfl W.heap.size _ _ rfl O4.out (.slice a l.length cap) l.length l rfl rfl ((HBV.out.below hB4).src cap) (by simp [fourL]; omega) hB4.size ?_; rintro v6 w6 ⟨o6, b6, g6, k6⟩; (rw [HE.out] at o6); obtain ⟨gx, cx, rfl, hgx, hat⟩ := o6.at' HNE.out; have HAT := Lib.hid hat; have O6 := Lib.hid o6; have hB6 := hB4.trans b6; clear o6 g6 k6 hat)
    refine (r8sum_any (some ⟨gx, 0, none⟩) cx (headL k l) _ (fun _ => ⟨gx, 0, rfl, HAT.out⟩) (by rw [HHL.out]; omega)).mono ?_
    rintro e w7 ⟨rfl, rfl⟩
    go_wp2_with fail
    refine (r8four_any (crc (headL k l)) _ HC.out).mono ?_
    rintro e w8 ⟨v8, rfl, o8, b8⟩
    obtain ⟨g8, c8, rfl, _, at8⟩ := o8.at' (by simp [fourL])
    have AT8 := Lib.hid at8
    have O8 := Lib.hid (O6.out.below b8)
    have hB8 := below_then hB6 b8
    clear o8 at8
    go_wp2_with (at_builtin; refine wpList_appX _ rfl (.tmp 17) (.tmp 20) 22 rfl W.heap.size _ _ rfl O8.out (.slice (some ⟨g8, 0, none⟩) 4 c8) 4 (fourL (crc (headL k l))) rfl rfl (BsV.src (l := fourL (crc (headL k l))) (fun _ => ⟨g8, 0, rfl, AT8.out⟩) c8) (by rw [HHL.out]; simp [fourL]; omega) hB8.size ?_; rintro v9 w9 ⟨o9, b9, g9, k9⟩)
    go_ret
    rw [← HP.out] at o9
    exact ⟨_, rfl, o9.mono HBW.out.size, below_then HBW.out (hB8.trans b9)⟩
  · go_simp
    refine (r8four_any l.length _ (by omega)).mono ?_
    rintro e w1 ⟨v1, rfl, o1, b1⟩
    have hB1 := below_then hHeld.1 b1
    obtain ⟨g1, c1, rfl, _, at1⟩ := o1.at' (by simp [fourL])
    have AT := Lib.hid at1
    clear o1 at1
    go_wp2_with fail
    refine hK.out _ _ ?ssz11 (fun hHeld => ?_)
    case ssz11 => (exact KS.out _ hB1)
    clear hK K
    try simp only [Act.put, List.setIfInBounds_toArray, List.set_cons_zero, List.set_cons_succ]
    refine wpAnyH_ready (rs := [2]) (by kernel_rfl) (by simp) ?_
    refine AllReadyH.cons (o := ⟨some 6, _, _, _, _, _⟩) rfl (fun K hK => ?_) AllReadyH.nil
    go_simp
    have O6 := Lib.hid ((NB.out w1).mono hHeld.1.size)
    replace AT := Lib.hid (AT.out.below (below_box w1 (.cells #[.int .u8 203, .int .u8 (kn : Int)] 5)))
    refine hK.out _ _ ?ssz12 (fun hHeld => ?_)
    case ssz12 => (exact KS.out _ (below_al hHeld.1 _))
    clear hK K
    try simp only [Act.put, List.setIfInBounds_toArray, List.set_cons_zero, List.set_cons_succ]
    refine wpAnyH_ready (rs := [8]) (by kernel_rfl) (by simp) ?_
    refine AllReadyH.cons (o := ⟨some 12, _, _, _, _, _⟩) rfl (fun K hK => ?_) AllReadyH.nil
    have hB0 := hHeld.1
    try dsimp only at hB0
    refine step_appX _ rfl (.tmp 6) (.tmp 11) 22 rfl W.heap.size _ [203, k] rfl O6.out (.slice (some ⟨g1, 0, none⟩) 4 c1) 4 (fourL l.length) rfl rfl (BsV.src (l := fourL l.length) (fun _ => ⟨g1, 0, rfl, AT.out⟩) c1) (by simp [fourL]) hB0.size ?_
    rintro v4 w4 ⟨o4, b4, g4, k4⟩
    have hB4 := hB0.trans b4
    have O4 := Lib.hid o4
    clear o4 g4 k4 O6
    refine hK.out _ _ ?ssz13 (fun hHeld => ?_)
    case ssz13 => (exact KS.out _ hB4)
    clear hK K
    try simp only [Act.put, List.setIfInBounds_toArray, List.set_cons_zero, List.set_cons_succ]
    refine wpAnyH_take (i := 9) (oi := ⟨some 3, _, _, _, _, _⟩) (v := ?vvz14) rfl (by kernel_rfl) (by kernel_rfl) (by kernel_rfl) (fun _ _ _ h => h) (Or.inl ⟨by rfl, ?yyz14⟩) hHeld ?rrz14
    case yyz14 => (intro wq hSw; (try dsimp only at hSw); go_simp; first | done | with_reducible rfl)
    simp only [Act.put, List.setIfInBounds_toArray, List.set_cons_zero, List.set_cons_succ]
    refine wpAnyH_done (by kernel_rfl) ?_ _
    clear hHeld
    have ks2 := KS.out _ hB4
    obtain ⟨_, d0, d1⟩ := ks2
    obtain ⟨va, vc, hv⟩ := O4.out.shape
    subst hv
    go_wp2_with (at_builtin; refine wpList_appX _ rfl (.tmp 13) (.tmp 15) 22 rfl W.heap.size _ _ rfl O4.out (.slice a l.length cap) l.length l rfl rfl ((HBV.out.below hB4).src cap) (by simp [fourL]; omega) hB4.size ?_; rintro v6 w6 ⟨o6, b6, g6, k6⟩; (rw [HE.out] at o6); obtain ⟨gx, cx, rfl, hgx, hat⟩ := o6.at' HNE.out; have HAT := Lib.hid hat; have O6 := Lib.hid o6; have hB6 := hB4.trans b6; clear o6 g6 k6 hat)
    refine (r8sum_any (some ⟨gx, 0, none⟩) cx (headL k l) _ (fun _ => ⟨gx, 0, rfl, HAT.out⟩) (by rw [HHL.out]; omega)).mono ?_
    rintro e w7 ⟨rfl, rfl⟩
    go_wp2_with fail
    refine (r8four_any (crc (headL k l)) _ HC.out).mono ?_
    rintro e w8 ⟨v8, rfl, o8, b8⟩
    obtain ⟨g8, c8, rfl, _, at8⟩ := o8.at' (by simp [fourL])
    have AT8 := Lib.hid at8
    have O8 := Lib.hid (O6.out.below b8)
    have hB8 := below_then hB6 b8
    clear o8 at8
    go_wp2_with (at_builtin; refine wpList_appX _ rfl (.tmp 17) (.tmp 20) 22 rfl W.heap.size _ _ rfl O8.out (.slice (some ⟨g8, 0, none⟩) 4 c8) 4 (fourL (crc (headL k l))) rfl rfl (BsV.src (l := fourL (crc (headL k l))) (fun _ => ⟨g8, 0, rfl, AT8.out⟩) c8) (by rw [HHL.out]; simp [fourL]; omega) hB8.size ?_; rintro v9 w9 ⟨o9, b9, g9, k9⟩)
    go_ret
    rw [← HP.out] at o9
    exact ⟨_, rfl, o9.mono HBW.out.size, below_then HBW.out (hB8.trans b9)⟩
end Go.Proofs.Ytcghgnncmnoalaa
namespace Go.Proofs.Ytcghgnncmnoalaa
open Go.RowKit Go.Maps

theorem BsAt.take {w : World} {b off : Nat} {l : List UInt8} (h : BsAt w b off l) (k : Nat) : BsAt w b off (l.take k) :=
  ⟨fun i x hx => h.cells i x (by rw [List.getElem?_take] at hx; split at hx; exact hx; cases hx), h.lt⟩
def tkN (l : List UInt8) : Nat := numL ((l.drop 2).take 4)
def tkB (l : List UInt8) : List UInt8 := (l.drop 6).take (tkN l)
/-- the error with which bytes are taken as a block -/
def tkE (l : List UInt8) : Int :=
  if l = [] then 20 else if l.getD 0 0 ≠ 203 then 80 else if l.length < 6 then 20 else if 1048576 < tkN l then 82 else if l.length < tkN l + 10 then 20 else
  if numL ((l.drop (tkN l + 6)).take 4) ≠ crc (l.take (tkN l + 6)) then 81 else 0
theorem isnil_some (a : Addr) (n c : Nat) (w : World) : (binOp .eql 22 (.slice (some a) n c) (.slice none 0 0)).run Try.prog w = .ok (.bool false) w := by kernel_rfl
theorem isnil_none (w : World) : (binOp .eql 22 (.slice none 0 0) (.slice none 0 0)).run Try.prog w = .ok (.bool true) w := by kernel_rfl
set_option maxRecDepth 100000 in
set_option maxHeartbeats 1000000 in
theorem clone_any (b off n cap : Nat) (l : List UInt8) (w : World) (h : BsV w (some ⟨b, off, none⟩) l) (hn : l.length = n) (hl : l.length ≤ 3000000) :
    Calls Try.prog 111 #[.slice (some ⟨b, off, none⟩) n cap] w fun e w' => ∃ v, e = .returned v ∧ BsO w' w.heap.size v l ∧ Below w.heap.size w w' := by
  subst hn
  have HB := Lib.hid h
  have HN : Hid (BsO (w.alloc (.cells #[] 5)) w.heap.size (.slice (some ⟨w.heap.size, 0, none⟩) 0 0) []) := Lib.hid (BsO.new (l := []) (heap_new w _) (Nat.le_refl _) rfl (by simp))
  have HBX := Lib.hid (below_box w (.cells #[] 5))
  have e1 := isnil_some ⟨b, off, none⟩ l.length cap
  clear h
  go_enter Try.func111, Try.ntmps111
  go_wp2_with (at_builtin; refine wpList_appX _ rfl (.tmp 5) (.tmp 6) 22 rfl w.heap.size _ _ rfl HN.out (.slice (some ⟨b, off, none⟩) l.length cap) l.length l rfl rfl ((HB.out.below HBX.out).src cap) (by simp; omega) (by simp) ?_; rintro v6 w6 ⟨o6, b6, g6, k6⟩)
  go_ret
  exact ⟨_, rfl, o6, HBX.out.trans b6⟩
set_option maxRecDepth 100000 in
theorem clone_nil (w : World) : Calls Try.prog 111 #[.slice none 0 0] w fun e w' => e = .returned (.slice none 0 0) ∧ w' = w := by
  have e1 := isnil_none
  go_enter Try.func111, Try.ntmps111
  go_wp2_with fail
  go_ret
  exact ⟨rfl, rfl⟩
end Go.Proofs.Ytcghgnncmnoalaa
