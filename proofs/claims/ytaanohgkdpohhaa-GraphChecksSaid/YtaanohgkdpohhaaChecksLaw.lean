/- Law GraphChecks. Conditions: the arguments' own. -/
import Derived.Test.YtaanohgkdpohhaaGi5
import Derived.Test.YtaanohgkdpohhaaGc6
import Derived.Test.YtaanohgkdpohhaaGc7
import Derived.Test.YtaanohgkdpohhaaPropMem
import Derived.Test.YtaanohgkdpohhaaIntMem
namespace Go.Proofs.Ytaanohgkdpohhaa
open Go.RowKit Go.Maps

theorem isV_of {w : World} {a : Option Addr} {l : List Int} (h : ZsV w a l) (hi : ∀ x ∈ l, I64 x) : IsV w a l := fun hn => by
  obtain ⟨b, off, e, hat⟩ := h hn
  exact ⟨b, off, e, ⟨hi, hat.cells, hat.lt⟩⟩
set_option maxRecDepth 100000 in
set_option maxHeartbeats 4000000 in
theorem checks_law (label : ByteArray) (pa ia : Option Addr) (pc ic : Nat) (ps : List Pr) (ids : List Int) (w : World) (hl : label.size ≤ maxLen) (hp : PrV w pa ps) (hpl : ps.length ≤ maxLen) (hi : IsV w ia ids) :
    Calls Try.prog 6 #[.string label, .slice pa ps.length pc, .slice ia ids.length ic] w fun e w' => e = .returned (.bool true) ∧ Below w.heap.size w w' := by
  obtain ⟨np, hnp⟩ : ∃ n, n = ps.length := ⟨_, rfl⟩
  obtain ⟨ni, hni⟩ : ∃ n, n = ids.length := ⟨_, rfl⟩
  obtain ⟨sp, hsp⟩ : ∃ s, s = smallP ps := ⟨_, rfl⟩
  obtain ⟨k, hk⟩ : ∃ k, k = checkR label ps ids := ⟨_, rfl⟩
  have HPR : Hid (∀ u, Below w.heap.size w u → Calls Try.prog 36 #[.slice pa np pc] u fun e w' => e = .returned (.bool sp) ∧ u = w') := Lib.hid (fun u hu => by rw [hnp, hsp]; exact props16_any pa pc ps u (hp.below hu) hpl)
  have HCK : Hid (sp = true → label.size ≤ 500 → ni ≤ 30 → ∀ u, Below w.heap.size w u → Calls Try.prog 37 #[.string label, .slice pa np pc, .slice ia ni ic] u (fun e w' => e = .returned (.int .i64 k) ∧ Below u.heap.size u w') ∧ Calls Try.prog 38 #[.string label, .slice pa np pc, .slice ia ni ic] u (fun e w' => e = .returned (.int .i64 k) ∧ Below u.heap.size u w')) := Lib.hid (fun h1 h2 h3 u hu => by
    have hs : smallP ps = true := hsp.symm.trans h1
    have h30 := (of_decide_eq_true hs).1
    rw [hnp, hni, hk]
    exact ⟨check_any label pa ia pc ic ps ids u hl ((hp.below hu).small hs) (hi.below hu) (by omega) (by omega), r16check_any label pa ia pc ic ps ids u (by omega) ((hp.below hu).small hs) (hi.below hu) (by omega) (by omega)⟩)
  rw [← hnp, ← hni]
  have HLM := Lib.hid hl
  clear hnp hni hsp hk hl hp hpl hi
  go_enter Try.func6, Try.ntmps6
  go_wp2_with fail
  refine (awake16_any w).mono ?_
  rintro e w1 ⟨rfl, b1⟩
  have HB1 := Lib.hid b1
  clear b1
  by_cases h5 : 500 < label.size
  · have t5 : decide ((500 : Int) < (label.size : Int)) = true := decide_eq_true (by omega)
    clear h5
    go_wp2_with fail
    refine (awake16_any _).mono ?_
    rintro e w9 ⟨rfl, b9⟩
    have HB9 : Hid (Below w.heap.size w w9) := Lib.hid (below_then HB1.out b9)
    clear b9
    go_wp2_with fail
    go_ret
    exact ⟨rfl, HB9.out⟩
  have t5 : decide ((500 : Int) < (label.size : Int)) = false := decide_eq_false (by omega)
  have H5 : Hid (label.size ≤ 500) := Lib.hid (by omega)
  clear h5
  go_wp2_with fail
  refine (HPR.out w1 HB1.out).mono ?_
  rintro e w2 ⟨rfl, rfl⟩
  cases sp
  case false =>
    go_wp2_with fail
    refine (awake16_any _).mono ?_
    rintro e w9 ⟨rfl, b9⟩
    have HB9 : Hid (Below w.heap.size w w9) := Lib.hid (below_then HB1.out b9)
    clear b9
    go_wp2_with fail
    go_ret
    exact ⟨rfl, HB9.out⟩
  case true =>
  by_cases h3 : 30 < ni
  · have t3 : decide ((30 : Int) < (ni : Int)) = true := decide_eq_true (by omega)
    clear h3
    go_wp2_with fail
    refine (awake16_any _).mono ?_
    rintro e w9 ⟨rfl, b9⟩
    have HB9 : Hid (Below w.heap.size w w9) := Lib.hid (below_then HB1.out b9)
    clear b9
    go_wp2_with fail
    go_ret
    exact ⟨rfl, HB9.out⟩
  have t3 : decide ((30 : Int) < (ni : Int)) = false := decide_eq_false (by omega)
  have HC := Lib.hid (HCK.out rfl H5.out (by omega))
  clear h3
  go_wp2_with fail
  refine (HC.out w1 HB1.out).1.mono ?_
  rintro e w2 ⟨rfl, b2⟩
  have HB2 := Lib.hid (below_then HB1.out b2)
  clear b2
  go_wp2_with fail
  refine (HC.out w2 HB2.out).2.mono ?_
  rintro e w3 ⟨rfl, b3⟩
  have HB3 := Lib.hid (below_then HB2.out b3)
  have tk : (k == k) = true := by simp
  clear b3
  go_wp2_with fail
  go_ret
  exact ⟨rfl, HB3.out⟩
end Go.Proofs.Ytaanohgkdpohhaa
