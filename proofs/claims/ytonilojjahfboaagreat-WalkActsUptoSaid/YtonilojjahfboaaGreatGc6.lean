/- cobwebref16.Check. Conditions: the contract's own premises. -/
import Derived.Test.YtonilojjahfboaaGreatGc5
namespace Go.Proofs.YtonilojjahfboaaGreat
open Go.RowKit Go.Maps Go.Lib

theorem any_take {l : List Int} {k : Nat} {x : Int} (h : l[k]? = some x) (ht : (l.take k).any idB = false) (hx : idB x = false) : (l.take (k + 1)).any idB = false := by
  rw [List.take_add_one, h, List.any_append, ht]
  simpa using hx
set_option maxRecDepth 100000 in
set_option maxHeartbeats 2000000 in
theorem r16check_any (label : ByteArray) (pa ia : Option Addr) (pc ic : Nat) (ps : List Pr) (ids : List Int) (w : World) (hl : label.size ≤ 2000000) (hp : PsV w pa ps) (hi : IsV w ia ids) (lp : ps.length ≤ 100000) (li : ids.length ≤ 100000) :
    Calls Tryz.prog 164 #[.string label, .slice pa ps.length pc, .slice ia ids.length ic] w fun e w' => e = .returned (.int .i64 (checkR label ps ids)) ∧ Below w.heap.size w w' := by
  have HP := Lib.hid hp
  have HI := Lib.hid hi
  clear hp hi
  go_enter Tryz.func164, Tryz.ntmps164
  go_wp2_with fail
  go_loop [7] (fun i => ∃ k : Nat, k ≤ ids.length ∧ i = .int .i64 k ∧ Hid ((ids.take k).any idB = false)) (fun i => ids.length - (intOf i).toNat)
  case atStart => exact ⟨0, by omega, rfl, Lib.hid rfl⟩
  case round =>
    obtain ⟨k, hk, rfl, HT⟩ := hrel
    by_cases hlt : k < ids.length
    · obtain ⟨x, hx⟩ : ∃ x, ids[k]? = some x := ⟨_, List.getElem?_eq_getElem hlt⟩
      obtain ⟨b, off, rfl, hat⟩ := HI.out (fun e => by rw [e] at hlt; simp at hlt)
      have q0 := hat.cells k x hx
      have hlb := hat.lt
      have HX := Lib.hid hx
      clear hat hx
      cases hb : idB x
      · have HB := Lib.hid (any_take HX.out HT.out hb)
        obtain ⟨h1, h2⟩ : ¬ x < 0 ∧ ¬ 1099511627776 ≤ x := by unfold idB at hb; simp at hb; omega
        clear hb
        go_wp2_with fail
        go_round
        case rel => exact ⟨k + 1, by omega, by go_num, HB⟩
        case measure => simp [intOf]; omega
      · have HC : Hid (checkR label ps ids = 2) := Lib.hid (by unfold checkR; rw [if_pos (List.any_eq_true.2 ⟨x, List.mem_of_getElem? HX.out, hb⟩)])
        unfold idB at hb
        simp at hb
        by_cases h1 : x < 0
        · clear hb
          go_wp2_with fail
          go_ret
          exact ⟨by rw [HC.out]; rfl, Below.refl _ _⟩
        · have h2 : 1099511627776 ≤ x := by omega
          clear hb
          go_wp2_with fail
          go_ret
          exact ⟨by rw [HC.out]; rfl, Below.refl _ _⟩
    · obtain rfl : k = ids.length := by omega
      have HA : Hid (ids.any idB = false) := Lib.hid (by have := HT.out; rwa [List.take_length] at this)
      go_wp2_with fail
      refine (r1right_any label _ hl).mono ?_
      rintro e w1 ⟨rfl, hb1⟩
      cases hb : badS label
      · go_wp2_with fail
        refine (r3right_any pa pc ps _ (HP.out.below hb1) lp).mono ?_
        rintro e w2 ⟨rfl, hb2⟩
        have HB := Lib.hid hb
        clear hb
        cases hr : rightPs ps
        · have HC : Hid (checkR label ps ids = 10) := Lib.hid (by unfold checkR; rw [HA.out, HB.out, hr]; rfl)
          clear hr
          go_wp2_with fail
          go_ret
          exact ⟨by rw [HC.out]; rfl, below_then hb1 hb2⟩
        · have HC : Hid (checkR label ps ids = 0) := Lib.hid (by unfold checkR; rw [HA.out, HB.out, hr]; rfl)
          clear hr
          go_wp2_with fail
          go_ret
          exact ⟨by rw [HC.out]; rfl, below_then hb1 hb2⟩
      · have HC : Hid (checkR label ps ids = 30) := Lib.hid (by unfold checkR; rw [HA.out, hb]; rfl)
        clear hb
        go_wp2_with fail
        go_ret
        exact ⟨by rw [HC.out]; rfl, hb1⟩
end Go.Proofs.YtonilojjahfboaaGreat
