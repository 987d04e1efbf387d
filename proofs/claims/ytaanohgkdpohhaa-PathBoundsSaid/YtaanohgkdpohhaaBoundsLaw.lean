/- Law PathBounds: the walk. Conditions: none. -/
import Derived.Test.YtaanohgkdpohhaaPb6
namespace Go.Proofs.Ytaanohgkdpohhaa
open Go.RowKit Go.Maps

set_option maxRecDepth 100000 in
theorem bounds_law (a b : Int) (w : World) : Calls Try.prog 13 #[.int .i64 a, .int .i64 b] w fun e w' => e = .returned (.bool true) ∧ Below w.heap.size w w' := by
  obtain ⟨r, hr⟩ : ∃ r, r = boundI a b := ⟨_, rfl⟩
  have HP : Hid (∀ u, Calls Try.prog 59 #[.int .i64 a, .int .i64 b] u fun e w' => e = .returned (.int .i64 r) ∧ u = w') := Lib.hid (fun u => by rw [hr]; exact pbound_any a b u)
  have HR : Hid (∀ u, Calls Try.prog 56 #[.int .i64 a, .int .i64 b] u fun e w' => e = .returned (.int .i64 r) ∧ u = w') := Lib.hid (fun u => by rw [hr]; exact r19bound_any a b u)
  clear hr
  go_enter Try.func13, Try.ntmps13
  go_wp2_with fail
  refine (awake19_any w).mono ?_
  rintro e w1 ⟨rfl, b1⟩
  have HB := Lib.hid b1
  clear b1
  go_wp2_with fail
  refine (HP.out w1).mono ?_
  rintro e w2 ⟨rfl, rfl⟩
  go_wp2_with fail
  refine (HR.out w1).mono ?_
  rintro e w2 ⟨rfl, rfl⟩
  go_wp2_with fail
  go_ret
  exact ⟨rfl, HB.out⟩
end Go.Proofs.Ytaanohgkdpohhaa
