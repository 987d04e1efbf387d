/- The reader of package redo: text, number. Conditions: each contract's own premises. -/
import Derived.Test.YtonilojjahfboaaRdB
import Derived.Defers
import Derived.Recover
namespace Go.Proofs.Ytonilojjahfboaa
open Go.RowKit Go.Maps

theorem chg_set {w : World} {rb : Nat} (v : Value) : Chg w (w.setCell ⟨rb, 0, none⟩ v) (· = rb) := (Chg.refl w (· = rb)).setCell (p := ⟨rb, 0, none⟩) (fun _ => rfl) v
theorem BsV.chg {w w' : World} {a : Option Addr} {l : List UInt8} {rb : Nat} (h : BsV w a l) (hc : Chg w w' (· = rb)) (hn : ∀ b off, a = some ⟨b, off, none⟩ → b ≠ rb) : BsV w' a l := fun hne => by
  obtain ⟨b, off, e, hat⟩ := h hne
  exact ⟨b, off, e, hat.of_block (hc.block b hat.lt (hn b off e))⟩
theorem end_panic {P : Program} {F : Func} {R : Ending → World → Prop} {c : List PanicEntry} {a : Act} {w : World} (hd : a.defers = []) (h : R (.panicked c) w) : bodyPost P F R (.panic c) a w := ⟨hd, h⟩
def txO (l : List UInt8) (n : Nat) : Option (Value × List UInt8) := if n ≤ l.length then some (.string ⟨(l.take n).toArray⟩, l.drop n) else none
/-- a number of so many bytes -/
def nuO (l : List UInt8) (n : Nat) : Option (Value × List UInt8) := if n ≤ l.length then some (.int .u64 (numL (l.take n) : Nat), l.drop n) else none
theorem chg_below {w w1 w2 : World} {S : Nat → Prop} (h : Chg w w1 S) (k : Below w1.heap.size w1 w2) : Chg w w2 S :=
  ⟨k.os.trans h.os, k.tape.trans h.tape, k.output.trans h.output, Nat.le_trans h.size k.size, fun i hi hn => (k.block i (Nat.lt_of_lt_of_le hi h.size)).trans (h.block i hi hn)⟩
theorem u64_or_byte (a b : Nat) (ha : a < 72057594037927936) (hb : b < 256) : bits .or .u64 ((a : Int) * 256) (b : Int) = (a : Int) * 256 + b := by
  have := u64_or_nat (a * 256) b (by omega) (by omega)
  rw [nat_join 8 _ _ (by omega) (by show _ < 256; omega)] at this
  simpa using this
theorem numL_small {l : List UInt8} {k : Nat} (hk : k ≤ l.length) (h7 : k ≤ 7) : numL (l.take k) < 72057594037927936 :=
  Nat.lt_of_lt_of_le (numL_take l k hk) (Nat.le_trans (Nat.pow_le_pow_right (by omega) h7) (by decide))
end Go.Proofs.Ytonilojjahfboaa
