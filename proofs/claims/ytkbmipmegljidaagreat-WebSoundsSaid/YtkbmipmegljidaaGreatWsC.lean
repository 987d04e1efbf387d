/- The words of package word in plain numbers: what &, | and &^ with the two flags do. Conditions: each lemma's own premises. Keys as keys of a map; keys of an argument in memory. Conditions: each lemma's own premises. -/
import Derived.Laws.BitsAllLaws
import Derived.Test.YtkbmipmegljidaaGreatWsB
import Derived.DeepKeys4
import Derived.MapViews
import Derived.OpenShut
import Derived.WideShapes
namespace Go.Proofs.YtkbmipmegljidaaGreat
open Go

/-- a word: a stamp, is it locked, is it absent -/
def wd (st : Nat) (lk ab : Bool) : Nat := 4611686018427387904 * (ab.toNat + 2 * lk.toNat) + st

end Go.Proofs.YtkbmipmegljidaaGreat
namespace Go.Proofs.YtkbmipmegljidaaGreat
open Go.RowKit Go.Maps Go.WideMaps

theorem laidOut : laidOutB Tryz.prog = true := by kernel_rfl
/-- a key -/
structure Ky where
  kind : Int
  a : Int
  b : Int
  s : ByteArray
def Ky.val (k : Ky) : Value := .agg #[.int .i64 k.kind, .int .i64 k.a, .int .i64 k.b, .string k.s]
structure Ky.Ok (k : Ky) : Prop where
  kind : I64 k.kind
  a : I64 k.a
  b : I64 k.b
  s : k.s.size ≤ maxLen
def Ky.lit (k : Ky) : Lit := .string (keyBytes [.int .i64 k.kind, .int .i64 k.a, .int .i64 k.b, .string k.s.data.toList])
theorem rowKey : (41 : TypeId) < Tryz.prog.types.size := of_decide_eq_true (by kernel_rfl)
theorem wideKey : (match Tryz.prog.underlying 41 with | some (.array _ _) | some (.struct _) => true | _ => false) = true := by kernel_rfl
theorem deep3 : Tryz.prog.keyTypeAt 3 41 = true := by kernel_rfl
set_option maxRecDepth 100000 in
theorem lawKey0 : KeyLaw Tryz.prog 41 := deep_law_laid laidOut (m := 3) (by omega) rowKey deep3 wideKey
theorem lawKey : Keyed Tryz.prog 41 := Keyed.of_law lawKey0
theorem deepKey : Tryz.prog.keyTypeAt (Tryz.prog.types.size + 1) 41 = true := by kernel_rfl
theorem cellsKey : Tryz.prog.cellsOf 41 = 4 := by kernel_rfl
theorem size_pos {P : Program} {k : Nat} (h : k < P.types.size) : ∃ m, P.types.size = m + 1 := ⟨P.types.size - 1, by omega⟩
theorem typesSize : ∃ m, Tryz.prog.types.size = m + 1 := size_pos rowKey
theorem keyK {k : Ky} (h : k.Ok) : keyOf Tryz.prog 41 k.val = some k.lit := by
  obtain ⟨m, hm⟩ := typesSize
  have w1 := h.kind.wf
  have w2 := h.a.wf
  have w3 := h.b.wf
  have w4 := h.s
  unfold keyOf
  simp only [Tryz.underlying41]
  have e1 : Tryz.prog.cellsOf 3 = 1 := by kernel_rfl
  have e2 : Tryz.prog.cellsOf 9 = 1 := by kernel_rfl
  rw [if_pos (by simp [show Tryz.prog.keyType 41 = true from deepKey, Value.formed, Tryz.underlying41, cellsKey, Ky.val]), hm]
  unfold Program.keyLits
  simp only [Tryz.underlying41, Ky.val, Value.cells]
  rw [if_pos (by constructor <;> simp [cellsKey])]
  simp [Program.keyLits, e1, e2, Tryz.underlying3, Tryz.underlying9, w1, w2, w3, w4, Ky.lit]
theorem lit_inj {k k' : Ky} (h : k.Ok) (h' : k'.Ok) (e : k.lit = k'.lit) : k = k' := by
  have e1 := keyK h
  have e2 := keyK h'
  rw [e] at e1
  have := lawKey0.inj e1 e2
  cases k; cases k'
  simp [Ky.val] at this
  simpa using this

theorem agg_of_list {c : Array Value} {l : List Value} (h : c.toList = l) : c = l.toArray := by rw [← h]
end Go.Proofs.YtkbmipmegljidaaGreat
