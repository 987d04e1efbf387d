/- Are two keys one? Conditions: none. -/
import Derived.Test.YtonilojjahfboaaOrdPlain
import Derived.Test.YtonilojjahfboaaAwake9
import Derived.Test.YtonilojjahfboaaKyMem
import Derived.Deep.RegionHeld3
namespace Go.Proofs.Ytonilojjahfboaa
open Go.RowKit Go.Maps

/-- are two keys one? -/
def Ky.eqB (a b : Ky) : Bool := a.kind == b.kind && (a.a == b.a && (a.b == b.b && a.s.toList == b.s.toList))
theorem Ky.eqB_iff (a b : Ky) : a.eqB b = true ↔ a = b := by
  unfold Ky.eqB
  cases a; cases b
  simp [ByteArray.toList_eq]
  intro _ _ _
  rw [ByteArray.ext_iff]
theorem eqKy (a b : Ky) (w : World) : (binOp .eql 35 (.agg #[.int .i64 a.kind, .int .i64 a.a, .int .i64 a.b, .string a.s]) (.agg #[.int .i64 b.kind, .int .i64 b.a, .int .i64 b.b, .string b.s])).run Try.prog w = .ok (.bool (a.eqB b)) w := by
  unfold Ky.eqB
  cases h1 : (a.kind == b.kind) <;> cases h2 : (a.a == b.a) <;> cases h3 : (a.b == b.b) <;> cases h4 : (a.s.toList == b.s.toList) <;> go_simp
end Go.Proofs.Ytonilojjahfboaa
