/- awake (layer 9): it returns true. No condition. -/
import Derived.Test.YtonilojjahfboaaCeA
namespace Go.Proofs.Ytonilojjahfboaa
open Go.RowKit Go.Maps

/-- the key of a number -/
def k9 (n : Int) : Ky := ⟨1, n, 0, ⟨#[]⟩⟩
theorem i64_lit {n : Int} (h : 0 ≤ n) (h2 : n ≤ 1000) : I64 n := by constructor <;> omega

theorem k9_ok {n : Int} (h : I64 n) : (k9 n).Ok := ⟨i64_lit (n := 1) (by omega) (by omega), h, i64_lit (n := 0) (by omega) (by omega), Nat.zero_le _⟩

end Go.Proofs.Ytonilojjahfboaa
