/- The reader of package redo: text, number. Conditions: each contract's own premises. The reader of package redo: a record. Conditions: each contract's own premises. -/
import Derived.Test.YtkhkdedjffkhdaaGreatRdB
import Derived.Defers
import Derived.Recover
import Derived.Test.YtkhkdedjffkhdaaGreatRwX
namespace Go.Proofs.YtkhkdedjffkhdaaGreat
open Go.RowKit Go.Maps

theorem BsV.chg {w w' : World} {a : Option Addr} {l : List UInt8} {rb : Nat} (h : BsV w a l) (hc : Chg w w' (· = rb)) (hn : ∀ b off, a = some ⟨b, off, none⟩ → b ≠ rb) : BsV w' a l := fun hne => by
  obtain ⟨b, off, e, hat⟩ := h hne
  exact ⟨b, off, e, hat.of_block (hc.block b hat.lt (hn b off e))⟩
end Go.Proofs.YtkhkdedjffkhdaaGreat
namespace Go.Proofs.YtkhkdedjffkhdaaGreat
open Go.RowKit Go.Maps

theorem infoWr : (Tryz.prog.info? 94).map (fun i => (i.zero, i.size, i.bytes)) = some (some (.agg #[.int .i64 0, .int .i64 0, .int .i64 0, .string ⟨#[]⟩, .string ⟨#[]⟩, .bool false]), 6, 64) := by kernel_rfl
/-- writes, as elements -/
def kW : RowK Tryz.prog Wr where
  t := 42
  e := 94
  size := 6
  bytes := 64
  z := .agg #[.int .i64 0, .int .i64 0, .int .i64 0, .string ⟨#[]⟩, .string ⟨#[]⟩, .bool false]
  enc := Wr.cells
  ht := Tryz.underlying42
  info := infoWr
  hz := rfl
  pos := by decide
  small := by decide
  len := fun _ => rfl
  one := fun x u hu => by
    simp [Wr.cells] at hu
    rcases hu with rfl | rfl | rfl | rfl | rfl | rfl <;> rfl
theorem ws_of_row {w : World} {a : Option Addr} {ws : List Wr} (h : kW.V w a ws) (ho : ∀ x ∈ ws, x.Ok) : WsV w a ws := fun hn => by
  obtain ⟨b, off, e, hat⟩ := h hn
  exact ⟨b, off, e, ⟨fun i x hx => ⟨ho x (List.mem_of_getElem? hx), fun j v hv => hat.cells i x hx j v hv⟩, hat.lt⟩⟩
/-- what a record's reading has laid so far -/
structure RecS (w : World) (rb b2 ob B : Nat) (st : Nat) (v : Value) (acc : List Wr) (wr : World) : Prop where
  chg : Chg w wr (· = rb)
  eb : wr.heap[b2]? = some (.cells #[.int .u64 0, .slice none 0 0] 61)
  eo : wr.heap[ob]? = some (.cells #[.int .u64 st, v] 61)
  own : kW.Own wr B v acc
  lt : rb < w.heap.size ∧ w.heap.size ≤ b2 ∧ b2 < ob ∧ ob < B ∧ B ≤ wr.heap.size
theorem RecS.step {w wr w' : World} {rb b2 ob B st : Nat} {v : Value} {acc : List Wr} (h : RecS w rb b2 ob B st v acc wr) (hc : Chg wr w' (· = rb)) : RecS w rb b2 ob B st v acc w' := by
  obtain ⟨l1, l2, l3, l4, l5⟩ := h.lt
  exact ⟨h.chg.trans hc (fun i _ hi => hi), (hc.block _ (by omega) (by omega)).trans h.eb, (hc.block _ (by omega) (by omega)).trans h.eo, h.own.chg hc (fun j hj e => by have := (h.own.lt j hj).1; omega), l1, l2, l3, l4, Nat.le_trans l5 hc.size⟩
end Go.Proofs.YtkhkdedjffkhdaaGreat
