/- cobwebref16.SameV of one vertex beside one. Conditions: the contract's own premises. -/
import Derived.Test.YtcafedfldmcbiaaWb15
namespace Go.Proofs.Ytcafedfldmcbiaa
open Go.RowKit Go.Maps

set_option maxRecDepth 100000 in
set_option maxHeartbeats 1000000 in
theorem sameV1 (A B : Nat) (id : Int) (l1 l2 : ByteArray) (pa pb : Option Addr) (ca cb : Nat) (x y : List Pr) (w : World)
    (hA : w.heap[A]? = some (.cells #[.int .i64 id, .string l1, .slice pa x.length ca] 24 (0, 0))) (hB : w.heap[B]? = some (.cells #[.int .i64 id, .string l2, .slice pb y.length cb] 24 (0, 0)))
    (ha : PsV w pa x) (hb : PsV w pb y) (hx : x.length ≤ 100000) (r : Bool) (hr : (l1.toList == l2.toList && sameP x y) = r) :
    Calls Try.prog 10 #[.slice (some ⟨A, 0, none⟩) 1 1, .slice (some ⟨B, 0, none⟩) 1 1] w fun e w' => e = .returned (.bool r) ∧ ∃ n, w' = w.drewN n := by
  have lA := (Array.getElem?_eq_some_iff.1 hA).1
  have lB := (Array.getElem?_eq_some_iff.1 hB).1
  have a0 := cell_of_blk hA 0
  have a1 := cell_of_blk hA 1
  have a2 := cell_of_blk hA 2
  have b0 := cell_of_blk hB 0
  have b1 := cell_of_blk hB 1
  have b2 := cell_of_blk hB 2
  simp at a0 a1 a2 b0 b1 b2
  have HA := Lib.hid ha
  have HB := Lib.hid hb
  have HX := Lib.hid hx
  have HR := Lib.hid hr
  clear hA hB ha hb hx hr
  cases hl : (l1.toList == l2.toList)
  · have hrf : r = false := by rw [← HR.out, hl]; rfl
    subst hrf
    go_enter Try.func10, Try.ntmps10
    go_wp2_with fail
    refine wp_loop_rounds 1 ?_
    rw [rounds_succ]
    go_wp2_with fail
    go_quiet (fail)
    go_wp2_with fail
    go_ret
    exact ⟨rfl, _, rfl⟩
  · have hrs : sameP x y = r := by rw [← HR.out, hl]; rfl
    have HS := Lib.hid hrs
    have hle : l1 = l2 := ba_eq hl
    subst hle
    clear hrs hl
    have q : ∀ n, Calls Try.prog 38 #[.slice pa x.length ca, .slice pb y.length cb] (w.drewN n) fun e w' => e = .returned (.bool r) ∧ ∃ m, w' = w.drewN m := fun n => by
      refine (same3_any pa pb ca cb x y (w.drewN n) (fun e => ?_) (fun e => ?_) HX.out).mono ?_
      · obtain ⟨b, o, h1, h2⟩ := HA.out e; exact ⟨b, o, h1, h2.of_block rfl⟩
      · obtain ⟨b, o, h1, h2⟩ := HB.out e; exact ⟨b, o, h1, h2.of_block rfl⟩
      · rintro e w' ⟨rfl, m, rfl⟩
        exact ⟨by rw [HS.out], n + m, World.drewN_drewN _ _ _⟩
    have Q := Lib.hid q
    clear q
    cases r
    · go_enter Try.func10, Try.ntmps10
      go_wp2_with fail
      refine wp_loop_rounds 1 ?_
      rw [rounds_succ]
      go_wp2_with fail
      go_quiet ((go_at_call 38; exact Q.out _))
      go_wp2_with fail
      go_ret
      exact ⟨rfl, _, rfl⟩
    · go_enter Try.func10, Try.ntmps10
      go_wp2_with fail
      refine wp_loop_rounds 2 ?_
      rw [rounds_succ]
      go_wp2_with fail
      go_quiet ((go_at_call 38; exact Q.out _))
      go_wp2_with fail
      rw [rounds_succ]
      go_wp2_with fail
      go_ret
      exact ⟨rfl, _, rfl⟩
end Go.Proofs.Ytcafedfldmcbiaa
