/- The check sum: nibble by nibble by a table is bit by bit. Plain numbers; no condition beyond each lemma's premises. Appending bytes, or a string, from anywhere (nil too) to a call's own bytes (nil too). Conditions: each law's own premises. block.Sum. Conditions: each contract's own premises. block.word, block.four; the reference's Sum, four. Conditions: each contract's own premises. block.Pack of one block; the reference's Pack. Conditions: each contract's own premises. The reference's Pack. Conditions: each contract's own premises. bytes.Clone; what a block is taken as. Conditions: each contract's own premises. -/
import Derived.Test.YtkhkdedjffkhdaaGreatBsA
namespace Go.Proofs.YtkhkdedjffkhdaaGreat
open Go.RowKit Go.Maps

def tb : List Nat := [0, 498536548, 997073096, 651767980, 1994146192, 1802195444, 1303535960, 1342533948, 3988292384, 4027552580, 3604390888, 3412177804, 2607071920, 2262029012, 2685067896, 3183342108]
def t16 (k : Nat) : Nat := tb.getD k 0
/-- one bit -/
def b1 (r : Nat) : Nat := if r % 2 = 1 then (r / 2) ^^^ 3988292384 else r / 2
def b4 (r : Nat) : Nat := b1 (b1 (b1 (b1 r)))
def b8 (r : Nat) : Nat := b4 (b4 r)
/-- by the table: one nibble -/
def n1 (s x : Nat) : Nat := t16 ((s ^^^ x) % 16) ^^^ (s / 16)
end Go.Proofs.YtkhkdedjffkhdaaGreat
namespace Go.Proofs.YtkhkdedjffkhdaaGreat
open Go.RowKit Go.Maps

/-- a slice of bytes in memory: anywhere, nil where there are none -/
def BsV (w : World) (a : Option Addr) (l : List UInt8) : Prop := l ≠ [] → ∃ b off, a = some ⟨b, off, none⟩ ∧ BsAt w b off l
theorem BsV.below {w w' : World} {a : Option Addr} {l : List UInt8} (h : BsV w a l) (hb : Below w.heap.size w w') : BsV w' a l := fun hn => by
  obtain ⟨b, off, e, hat⟩ := h hn
  exact ⟨b, off, e, hat.below hb⟩
theorem BsV.drew {w : World} {a : Option Addr} {l : List UInt8} (h : BsV w a l) : BsV w.drew a l := h.below (Below.refl _ _).drew
/-- a block of bytes that was just laid -/
theorem new_at {w : World} {cs : Array Value} {l : List UInt8} (h : cs.toList = l.map bv) : BsAt (w.alloc (.cells cs 5)) w.heap.size 0 l :=
  ⟨fun i x hx => by
    refine (cell_of_blk (heap_new w _) _).trans ?_
    rw [Nat.zero_add, ← Array.getElem?_toList, h]
    simp [hx], by simp⟩
end Go.Proofs.YtkhkdedjffkhdaaGreat
namespace Go.Proofs.YtkhkdedjffkhdaaGreat
open Go.RowKit Go.Maps

/-- the table in memory -/
def TbAt (w : World) (b : Nat) : Prop := ∀ k, k < 16 → w.cell? ⟨b, k, none⟩ = some (.int .u32 (t16 k : Nat))
theorem TbAt.below {w w' : World} {b : Nat} (h : TbAt w b) (hb : Below w.heap.size w w') (hl : b < w.heap.size) : TbAt w' b := fun k hk => below_cell hb k hl (h k hk)
end Go.Proofs.YtkhkdedjffkhdaaGreat
namespace Go.Proofs.YtkhkdedjffkhdaaGreat
open Go.RowKit Go.Maps

end Go.Proofs.YtkhkdedjffkhdaaGreat
namespace Go.Proofs.YtkhkdedjffkhdaaGreat
open Go.RowKit Go.Maps

end Go.Proofs.YtkhkdedjffkhdaaGreat
namespace Go.Proofs.YtkhkdedjffkhdaaGreat
open Go.RowKit Go.Maps

end Go.Proofs.YtkhkdedjffkhdaaGreat
namespace Go.Proofs.YtkhkdedjffkhdaaGreat
open Go.RowKit Go.Maps

theorem BsAt.take {w : World} {b off : Nat} {l : List UInt8} (h : BsAt w b off l) (k : Nat) : BsAt w b off (l.take k) :=
  ⟨fun i x hx => h.cells i x (by rw [List.getElem?_take] at hx; split at hx; exact hx; cases hx), h.lt⟩
end Go.Proofs.YtkhkdedjffkhdaaGreat
