/- cobwebref14.Same of like records. Conditions: each contract's own premises. -/
import Derived.Test.YtcghgnncmnoalaaRd15
import Derived.Deep.QuietTactic
import Derived.BigQuiet
namespace Go.Proofs.Ytcghgnncmnoalaa
open Go.RowKit Go.Maps

set_option maxRecDepth 100000 in
set_option maxHeartbeats 2000000 in
theorem same_eq (st : Nat) (a1 a2 : Option Addr) (p1 p2 : Nat) (ws : List Wr) (w : World) (h1 : WsV w a1 ws) (h2 : WsV w a2 ws) (hl : ws.length ≤ 1000000) :
    Calls Try.prog 24 #[.agg #[.int .u64 st, .slice a1 ws.length p1], .agg #[.int .u64 st, .slice a2 ws.length p2]] w (BoolPost w true) := by
  obtain ⟨W, hW⟩ : ∃ W, W = (w.alloc (.cells #[.int .u64 st, .slice a1 ws.length p1] 35)).alloc (.cells #[.int .u64 st, .slice a2 ws.length p2] 35) := ⟨_, rfl⟩
  have hBW : Below w.heap.size w W := by rw [hW]; exact (below_box w _).alloc (by (try simp only [size_alloc]); omega) _
  have e1 : W.heap[w.heap.size]? = some (.cells #[.int .u64 st, .slice a1 ws.length p1] 35) := by rw [hW, Below.heap_alloc _ _ _ (by (try simp only [size_alloc]); omega)]; exact heap_new w _
  have e2 : W.heap[w.heap.size + 1]? = some (.cells #[.int .u64 st, .slice a2 ws.length p2] 35) := by
    have := heap_new (w.alloc (.cells #[.int .u64 st, .slice a1 ws.length p1] 35)) (.cells #[.int .u64 st, .slice a2 ws.length p2] 35)
    rw [hW]; simpa using this
  obtain ⟨b2, hb2⟩ : ∃ b, b = w.heap.size + 1 := ⟨_, rfl⟩
  obtain ⟨b1, hb1⟩ : ∃ b, b = w.heap.size := ⟨_, rfl⟩
  rw [← hb2] at e2
  rw [← hb1] at e1
  have H1 := Lib.hid (h1.below hBW)
  have H2 := Lib.hid (h2.below hBW)
  have E1 := Lib.hid e1
  have E2 := Lib.hid e2
  have HW := Lib.hid hW
  have HB1 := Lib.hid hb1
  have HB2 := Lib.hid hb2
  have HBW := Lib.hid hBW
  clear h1 h2 e1 e2 hW hb1 hb2 hBW
  go_enter Try.func24, Try.ntmps24
  go_upto_region 1 with fail
  rw [← HW.out, ← HB2.out, ← HB1.out]
  clear HW HB1 HB2
  have c0 := cell_of_blk E1.out 0
  have c1 := cell_of_blk E1.out 1
  have d0 := cell_of_blk E2.out 0
  have d1 := cell_of_blk E2.out 1
  simp at c0 c1 d0 d1
  go_wp2_with fail
  go_loopw [5] (fun i wr => ∃ k : Nat, k ≤ ws.length ∧ i = .int .i64 k ∧ Hid (Below W.heap.size W wr)) (fun i _ => ws.length - (intOf i).toNat)
  case atStart => exact ⟨0, by omega, rfl, Lib.hid (Below.refl _ _)⟩
  case round =>
    obtain ⟨k, hk, rfl, HB⟩ := hrel
    clear c0 c1 d0 d1
    have c1 := cell_of_blk ((HB.out.block _ (Array.getElem?_eq_some_iff.1 E1.out).1).trans E1.out) 1
    have d1 := cell_of_blk ((HB.out.block _ (Array.getElem?_eq_some_iff.1 E2.out).1).trans E2.out) 1
    simp at c1 d1
    by_cases hlt : k < ws.length
    · obtain ⟨x, hx⟩ : ∃ x, ws[k]? = some x := ⟨_, List.getElem?_eq_getElem hlt⟩
      obtain ⟨ba, oa, rfl, ata⟩ := H1.out (fun e => by rw [e] at hlt; simp at hlt)
      obtain ⟨bb, ob, rfl, atb⟩ := H2.out (fun e => by rw [e] at hlt; simp at hlt)
      obtain ⟨x0, x1, x2, x3, x4, x5⟩ := (ata.below HB.out).six hx
      obtain ⟨y0, y1, y2, y3, y4, y5⟩ := (atb.below HB.out).six hx
      have la := (ata.below HB.out).lt
      have lb := (atb.below HB.out).lt
      clear hx ata atb
      go_wp2_with fail
      go_quiet (fail)
      go_wp2_with fail
      exact ⟨⟨k + 1, by omega, by go_num, Lib.hid (below_drewN' HB.out _)⟩, by simp [intOf]; omega⟩
    · obtain rfl : k = ws.length := by omega
      go_wp2_with fail
      go_ret
      exact ⟨rfl, HBW.out.trans (HB.out.mono HBW.out.size)⟩
end Go.Proofs.Ytcghgnncmnoalaa
