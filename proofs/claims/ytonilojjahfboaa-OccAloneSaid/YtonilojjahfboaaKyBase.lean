/- Keys as keys of a map; keys of an argument in memory. Conditions: each lemma's own premises. -/
import Derived.Test.YtonilojjahfboaaWb0
import Derived.Test.YtonilojjahfboaaWordPlain
import Derived.DeepKeys4
import Derived.MapViews
import Derived.OpenShut
import Derived.WideShapes
namespace Go.Proofs.Ytonilojjahfboaa
open Go.RowKit Go.Maps Go.WideMaps

theorem laidOut : laidOutB Try.prog = true := by kernel_rfl
/-- a key -/
structure Ky where
  kind : Int
  a : Int
  b : Int
  s : ByteArray
def Ky.val (k : Ky) : Value := .agg #[.int .i64 k.kind, .int .i64 k.a, .int .i64 k.b, .string k.s]
structure Ky.Ok (k : Ky) : Prop where
  kind : I64 k.kind
  a : I64 k.a
  b : I64 k.b
  s : k.s.size ≤ maxLen
def Ky.lit (k : Ky) : Lit := .string (keyBytes [.int .i64 k.kind, .int .i64 k.a, .int .i64 k.b, .string k.s.data.toList])
theorem rowKey : (35 : TypeId) < Try.prog.types.size := of_decide_eq_true (by kernel_rfl)
theorem wideKey : (match Try.prog.underlying 35 with | some (.array _ _) | some (.struct _) => true | _ => false) = true := by kernel_rfl
theorem deep3 : Try.prog.keyTypeAt 3 35 = true := by kernel_rfl
set_option maxRecDepth 100000 in
theorem lawKey0 : KeyLaw Try.prog 35 := deep_law_laid laidOut (m := 3) (by omega) rowKey deep3 wideKey
theorem lawKey : Keyed Try.prog 35 := Keyed.of_law lawKey0
theorem deepKey : Try.prog.keyTypeAt (Try.prog.types.size + 1) 35 = true := by kernel_rfl
theorem cellsKey : Try.prog.cellsOf 35 = 4 := by kernel_rfl
theorem size_pos {P : Program} {k : Nat} (h : k < P.types.size) : ∃ m, P.types.size = m + 1 := ⟨P.types.size - 1, by omega⟩
theorem typesSize : ∃ m, Try.prog.types.size = m + 1 := size_pos rowKey
theorem keyK {k : Ky} (h : k.Ok) : keyOf Try.prog 35 k.val = some k.lit := by
  obtain ⟨m, hm⟩ := typesSize
  have w1 := h.kind.wf
  have w2 := h.a.wf
  have w3 := h.b.wf
  have w4 := h.s
  unfold keyOf
  simp only [Try.underlying35]
  have e1 : Try.prog.cellsOf 3 = 1 := by kernel_rfl
  have e2 : Try.prog.cellsOf 9 = 1 := by kernel_rfl
  rw [if_pos (by simp [show Try.prog.keyType 35 = true from deepKey, Value.formed, Try.underlying35, cellsKey, Ky.val]), hm]
  unfold Program.keyLits
  simp only [Try.underlying35, Ky.val, Value.cells]
  rw [if_pos (by constructor <;> simp [cellsKey])]
  simp [Program.keyLits, e1, e2, Try.underlying3, Try.underlying9, w1, w2, w3, w4, Ky.lit]
theorem lit_inj {k k' : Ky} (h : k.Ok) (h' : k'.Ok) (e : k.lit = k'.lit) : k = k' := by
  have e1 := keyK h
  have e2 := keyK h'
  rw [e] at e1
  have := lawKey0.inj e1 e2
  cases k; cases k'
  simp [Ky.val] at this
  simpa using this

set_option maxRecDepth 100000 in
theorem key_at {w : World} {cs : List Value} (h : Mem Try.prog w 35 cs) : ∃ k : Ky, k.Ok ∧ cs = [.int .i64 k.kind, .int .i64 k.a, .int .i64 k.b, .string k.s] := by
  obtain ⟨hl, hf⟩ := h.struct Try.underlying35
  rw [cellsKey] at hl
  obtain ⟨x, hx, wx⟩ := (hf 0 _ rfl).int Try.underlying3
  obtain ⟨y, hy, wy⟩ := (hf 1 _ rfl).int Try.underlying3
  obtain ⟨z, hz, wz⟩ := (hf 2 _ rfl).int Try.underlying3
  obtain ⟨s, hs, ws⟩ := (hf 3 _ rfl).string Try.underlying9
  obtain ⟨p, q, r, t, rfl⟩ : ∃ p q r t, cs = [p, q, r, t] := by
    match cs, hl with
    | [p, q, r, t], _ => exact ⟨p, q, r, t, rfl⟩
  have e1 : Try.prog.cellsOf 3 = 1 := by kernel_rfl
  have e2 : Try.prog.cellsOf 9 = 1 := by kernel_rfl
  simp [e1, e2] at hx hy hz hs
  subst hx hy hz hs
  exact ⟨⟨x, y, z, s⟩, ⟨I64.of_wf wx, I64.of_wf wy, I64.of_wf wz, ws⟩, rfl⟩
theorem agg_of_list {c : Array Value} {l : List Value} (h : c.toList = l) : c = l.toArray := by rw [← h]
end Go.Proofs.Ytonilojjahfboaa
