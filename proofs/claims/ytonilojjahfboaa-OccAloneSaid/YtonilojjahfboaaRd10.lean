/- The reader of package redo: a record. Conditions: each contract's own premises. -/
import Derived.Test.YtonilojjahfboaaRd9
import Derived.Test.YtonilojjahfboaaRow
namespace Go.Proofs.Ytonilojjahfboaa
open Go.RowKit Go.Maps

theorem infoWr : (Try.prog.info? 81).map (fun i => (i.zero, i.size, i.bytes)) = some (some (.agg #[.int .i64 0, .int .i64 0, .int .i64 0, .string ⟨#[]⟩, .string ⟨#[]⟩, .bool false]), 6, 64) := by kernel_rfl
/-- writes, as elements -/
def kW : RowK Try.prog Wr where
  t := 39
  e := 81
  size := 6
  bytes := 64
  z := .agg #[.int .i64 0, .int .i64 0, .int .i64 0, .string ⟨#[]⟩, .string ⟨#[]⟩, .bool false]
  enc := Wr.cells
  ht := Try.underlying39
  info := infoWr
  hz := rfl
  pos := by decide
  small := by decide
  len := fun _ => rfl
  one := fun x u hu => by
    simp [Wr.cells] at hu
    rcases hu with rfl | rfl | rfl | rfl | rfl | rfl <;> rfl
theorem ws_of_row {w : World} {a : Option Addr} {ws : List Wr} (h : kW.V w a ws) (ho : ∀ x ∈ ws, x.Ok) : WsV w a ws := fun hn => by
  obtain ⟨b, off, e, hat⟩ := h hn
  exact ⟨b, off, e, ⟨fun i x hx => ⟨ho x (List.mem_of_getElem? hx), fun j v hv => hat.cells i x hx j v hv⟩, hat.lt⟩⟩
theorem row_of_ws {w : World} {a : Option Addr} {ws : List Wr} (h : WsV w a ws) : kW.V w a ws := fun hn => by
  obtain ⟨b, off, e, hat⟩ := h hn
  exact ⟨b, off, e, ⟨fun i x hx j v hv => (hat.cells i x hx).2 j v hv, hat.lt⟩⟩

def nuN (l : List UInt8) (n : Nat) : Option (Nat × List UInt8) := if n ≤ l.length then some (numL (l.take n), l.drop n) else none
def txN (l : List UInt8) (n : Nat) : Option (ByteArray × List UInt8) := if n ≤ l.length then some (⟨(l.take n).toArray⟩, l.drop n) else none
def tkW7 (k a b : Nat) (s : ByteArray) (h vn : Nat) (l : List UInt8) : Option (Wr × List UInt8) := match txN l vn with | none => none | some (v, l) => some (⟨⟨k, a, b, s⟩, v, h == 1⟩, l)
def tkW6 (k a b : Nat) (s : ByteArray) (h : Nat) (l : List UInt8) : Option (Wr × List UInt8) := match nuN l 2 with | none => none | some (vn, l) => tkW7 k a b s h vn l
def tkW5 (k a b : Nat) (s : ByteArray) (l : List UInt8) : Option (Wr × List UInt8) := match nuN l 1 with | none => none | some (h, l) => if 1 < h then none else tkW6 k a b s h l
def tkW4 (k a b sn : Nat) (l : List UInt8) : Option (Wr × List UInt8) := match txN l sn with | none => none | some (s, l) => tkW5 k a b s l
def tkW3 (k a b : Nat) (l : List UInt8) : Option (Wr × List UInt8) := match nuN l 2 with | none => none | some (sn, l) => tkW4 k a b sn l
def tkW2 (k a : Nat) (l : List UInt8) : Option (Wr × List UInt8) := match nuN l 5 with | none => none | some (b, l) => tkW3 k a b l
def tkW1 (k : Nat) (l : List UInt8) : Option (Wr × List UInt8) := match nuN l 5 with | none => none | some (a, l) => tkW2 k a l
/-- a write out of bytes -/
def tkW (l : List UInt8) : Option (Wr × List UInt8) := match nuN l 1 with | none => none | some (k, l) => tkW1 k l
def tkWs : Nat → List UInt8 → List Wr → Option (List Wr × List UInt8)
  | 0, l, acc => some (acc, l)
  | n + 1, l, acc => match tkW l with | none => none | some (x, l) => tkWs n l (acc ++ [x])
def tkR2 (st n : Nat) (l : List UInt8) : Option (Rc × List UInt8) := match tkWs n l [] with | none => none | some (ws, l) => some (⟨st, ws⟩, l)
def tkR1 (st : Nat) (l : List UInt8) : Option (Rc × List UInt8) := match nuN l 2 with | none => none | some (n, l) => tkR2 st n l
/-- a record out of bytes -/
def tkR (l : List UInt8) : Option (Rc × List UInt8) := match nuN l 8 with | none => none | some (st, l) => tkR1 st l
theorem chg_bel {w w' : World} {S : Nat → Prop} (h : Below w.heap.size w w') : Chg w w' S := Chg.of_below h S
theorem setB {w : World} {b i : Nat} {c : Array Value} {t : TypeId} (h : w.heap[b]? = some (.cells c t)) (u : Value) : (w.setCell ⟨b, i, none⟩ u).heap[b]? = some (.cells (c.setIfInBounds i u) t) := blk_setCell h u
theorem beq_cast (a b : Nat) : ((a : Int) == (b : Int)) = (a == b) := by
  by_cases h : a = b
  · subst h; simp
  · have h2 : ¬ (a : Int) = (b : Int) := by omega
    rw [beq_eq_false_iff_ne.2 h2, beq_eq_false_iff_ne.2 h]
theorem byte1 {n : Nat} (h : n < 256) : n < 256 ^ 1 := h
end Go.Proofs.Ytonilojjahfboaa
