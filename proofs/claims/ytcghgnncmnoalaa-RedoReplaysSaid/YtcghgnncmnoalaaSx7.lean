/- cobwebref13.Same of like writes. Conditions: each contract's own premises. -/
import Derived.Test.YtcghgnncmnoalaaRdB
import Derived.Deep.QuietTactic
import Derived.BigQuiet
namespace Go.Proofs.Ytcghgnncmnoalaa
open Go.RowKit Go.Maps

set_option maxRecDepth 100000 in
set_option maxHeartbeats 2000000 in
theorem same13_eq (a1 a2 : Option Addr) (p1 p2 : Nat) (ws : List Wr) (w : World) (h1 : WsV w a1 ws) (h2 : WsV w a2 ws) (hl : ws.length ≤ 1000000) :
    Calls Try.prog 47 #[.slice a1 ws.length p1, .slice a2 ws.length p2] w (BoolPost w true) := by
  have H1 := Lib.hid h1
  have H2 := Lib.hid h2
  clear h1 h2
  go_enter Try.func47, Try.ntmps47
  obtain ⟨W, hW⟩ : ∃ W, W = w := ⟨_, rfl⟩
  have HWW := Lib.hid hW
  clear hW
  rw [← HWW.out] at H1 H2
  rw [← HWW.out]
  clear HWW
  go_wp2_with fail
  go_loopw [5] (fun i wr => ∃ k : Nat, k ≤ ws.length ∧ i = .int .i64 k ∧ Hid (Below W.heap.size W wr)) (fun i _ => ws.length - (intOf i).toNat)
  case atStart => exact ⟨0, by omega, rfl, Lib.hid (Below.refl _ _)⟩
  case round =>
    obtain ⟨k, hk, rfl, HB⟩ := hrel
    by_cases hlt : k < ws.length
    · obtain ⟨x, hx⟩ : ∃ x, ws[k]? = some x := ⟨_, List.getElem?_eq_getElem hlt⟩
      obtain ⟨ba, oa, rfl, ata⟩ := H1.out (fun e => by rw [e] at hlt; simp at hlt)
      obtain ⟨bb, ob, rfl, atb⟩ := H2.out (fun e => by rw [e] at hlt; simp at hlt)
      obtain ⟨x0, x1, x2, x3, x4, x5⟩ := (ata.below HB.out).six hx
      obtain ⟨y0, y1, y2, y3, y4, y5⟩ := (atb.below HB.out).six hx
      have la := (ata.below HB.out).lt
      have lb := (atb.below HB.out).lt
      clear hx ata atb
      go_wp2_with fail
      go_quiet (fail)
      go_wp2_with fail
      exact ⟨⟨k + 1, by omega, by go_num, Lib.hid (below_drewN' HB.out _)⟩, by simp [intOf]; omega⟩
    · obtain rfl : k = ws.length := by omega
      go_wp2_with fail
      go_ret
      exact ⟨rfl, HB.out⟩
end Go.Proofs.Ytcghgnncmnoalaa
