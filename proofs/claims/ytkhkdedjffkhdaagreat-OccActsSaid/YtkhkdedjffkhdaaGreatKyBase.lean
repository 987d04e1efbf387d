/- Keys as keys of a map; keys of an argument in memory. Conditions: each lemma's own premises. -/
import Derived.Test.YtkhkdedjffkhdaaGreatBsA
import Derived.Test.YtkhkdedjffkhdaaGreatWordPlain
import Derived.DeepKeys4
import Derived.MapViews
import Derived.OpenShut
import Derived.WideShapes
namespace Go.Proofs.YtkhkdedjffkhdaaGreat
open Go.RowKit Go.Maps Go.WideMaps

theorem laidOut : laidOutB Tryz.prog = true := by kernel_rfl
/-- a key -/
structure Ky where
  kind : Int
  a : Int
  b : Int
  s : ByteArray
def Ky.val (k : Ky) : Value := .agg #[.int .i64 k.kind, .int .i64 k.a, .int .i64 k.b, .string k.s]
structure Ky.Ok (k : Ky) : Prop where
  kind : I64 k.kind
  a : I64 k.a
  b : I64 k.b
  s : k.s.size ≤ maxLen
def Ky.lit (k : Ky) : Lit := .string (keyBytes [.int .i64 k.kind, .int .i64 k.a, .int .i64 k.b, .string k.s.data.toList])
theorem rowKey : (47 : TypeId) < Tryz.prog.types.size := of_decide_eq_true (by kernel_rfl)
theorem wideKey : (match Tryz.prog.underlying 47 with | some (.array _ _) | some (.struct _) => true | _ => false) = true := by kernel_rfl
theorem deep3 : Tryz.prog.keyTypeAt 3 47 = true := by kernel_rfl
set_option maxRecDepth 100000 in
theorem lawKey0 : KeyLaw Tryz.prog 47 := deep_law_laid laidOut (m := 3) (by omega) rowKey deep3 wideKey
theorem lawKey : Keyed Tryz.prog 47 := Keyed.of_law lawKey0
theorem deepKey : Tryz.prog.keyTypeAt (Tryz.prog.types.size + 1) 47 = true := by kernel_rfl
theorem cellsKey : Tryz.prog.cellsOf 47 = 4 := by kernel_rfl
theorem size_pos {P : Program} {k : Nat} (h : k < P.types.size) : ∃ m, P.types.size = m + 1 := ⟨P.types.size - 1, by omega⟩
theorem typesSize : ∃ m, Tryz.prog.types.size = m + 1 := size_pos rowKey
theorem keyK {k : Ky} (h : k.Ok) : keyOf Tryz.prog 47 k.val = some k.lit := by
  obtain ⟨m, hm⟩ := typesSize
  have w1 := h.kind.wf
  have w2 := h.a.wf
  have w3 := h.b.wf
  have w4 := h.s
  unfold keyOf
  simp only [Tryz.underlying47]
  have e1 : Tryz.prog.cellsOf 3 = 1 := by kernel_rfl
  have e2 : Tryz.prog.cellsOf 9 = 1 := by kernel_rfl
  rw [if_pos (by simp [show Tryz.prog.keyType 47 = true from deepKey, Value.formed, Tryz.underlying47, cellsKey, Ky.val]), hm]
  unfold Program.keyLits
  simp only [Tryz.underlying47, Ky.val, Value.cells]
  rw [if_pos (by constructor <;> simp [cellsKey])]
  simp [Program.keyLits, e1, e2, Tryz.underlying3, Tryz.underlying9, w1, w2, w3, w4, Ky.lit]
theorem lit_inj {k k' : Ky} (h : k.Ok) (h' : k'.Ok) (e : k.lit = k'.lit) : k = k' := by
  have e1 := keyK h
  have e2 := keyK h'
  rw [e] at e1
  have := lawKey0.inj e1 e2
  cases k; cases k'
  simp [Ky.val] at this
  simpa using this

end Go.Proofs.YtkhkdedjffkhdaaGreat
