/- The journal: Promise, Append. Conditions: each contract's own premises. -/
import Derived.Test.YtcghgnncmnoalaaJn3
namespace Go.Proofs.Ytcghgnncmnoalaa
open Go.RowKit Go.Maps

/-- what a promise answers: how many bytes, the errno, what is promised then -/
def promR (room len : Nat) (prom : Int) (r : Rc) : Int × Int × Int :=
  if r.wrong = true then (0, 2, prom) else if (room : Int) - len - prom - 14 < ((packL 1 (bodyL r.stamp r.ws)).length : Nat) then (0, 50, prom) else ((packL 1 (bodyL r.stamp r.ws)).length, 0, prom + (packL 1 (bodyL r.stamp r.ws)).length)
def PromPost (w : World) (jb db room safe : Nat) (prom last : Int) (B : Nat) (l : List UInt8) (ms : List (Int × Int)) (r : Rc) (e : Ending) (w' : World) : Prop :=
  e = .returned (.tuple #[.int .i64 (promR room l.length prom r).1, .int .i64 (promR room l.length prom r).2.1]) ∧ JS w' jb db room safe (promR room l.length prom r).2.2 last B l ms ∧ Chg w w' (fun j => j = jb)
set_option maxRecDepth 100000 in
set_option maxHeartbeats 2000000 in
theorem jPromise_any {w : World} {jb db room safe B : Nat} {prom last : Int} {l : List UInt8} {ms : List (Int × Int)} (h : JS w jb db room safe prom last B l ms) (hp0 : 0 ≤ prom) (hp1 : prom ≤ 2147483648)
    (st : Nat) (a : Option Addr) (cap n : Nat) (ws : List Wr) (hn : n = ws.length) (hw : WsV w a ws) (hs : st < 18446744073709551616) (hl : ws.length ≤ 1000000) (hlen : (bodyL (max st 1) ws).length ≤ 1000000) :
    Calls Try.prog 55 #[.pointer (some ⟨jb, 0, none⟩), .agg #[.int .u64 st, .slice a n cap]] w (PromPost w jb db room safe prom last B l ms ⟨max st 1, ws⟩) := by
  obtain ⟨r, hr⟩ : ∃ r : Rc, r = ⟨max st 1, ws⟩ := ⟨_, rfl⟩
  rw [← hr]
  obtain ⟨W, hW⟩ : ∃ W, (w.alloc (.cells #[.int .u64 st, .slice a n cap] 35)) = W := ⟨_, rfl⟩
  have bW : Below w.heap.size w W := by rw [← hW]; exact below_box w _
  have eW : W.heap[w.heap.size]? = some (.cells #[.int .u64 st, .slice a n cap] 35) := by rw [← hW]; exact heap_new _ _
  have v0 := cell_of_blk eW 0
  have v1 := cell_of_blk eW 1
  simp at v0 v1
  have HC : Hid (Calls Try.prog 108 #[.agg #[.int .u64 st, .slice a n cap]] W (CommitPost W r)) := Lib.hid (by rw [hr]; exact jbytes_any st a cap n ws W hn (hw.below bW) hs hl hlen)
  have HS := Lib.hid (h.below bW)
  have HB := Lib.hid bW
  have HW := Lib.hid hW
  have HLEN : Hid ((bodyL r.stamp r.ws).length ≤ 1000000) := Lib.hid (by rw [hr]; exact hlen)
  obtain ⟨ln, hln⟩ : ∃ ln, ln = l.length := ⟨_, rfl⟩
  have HLN := Lib.hid hln
  have hl6 := h.d.hl
  have hr6 := h.d.hr
  rw [← hln] at hl6
  clear hW bW eW h hw hs hl hlen hn hr hln
  go_enter Try.func55, Try.ntmps55
  go_upto_region 1 with fail
  rw [HW.out]
  go_wp2_with fail
  refine HC.out.mono ?_
  rintro e w1 ⟨b1, h1⟩
  have HB1 := Lib.hid (below_then HB.out b1)
  have HS1 := Lib.hid (HS.out.below b1)
  clear b1
  rcases h1 with ⟨hwr, rfl⟩ | ⟨hwr, v, rfl, o1⟩
  · have HR : Hid (promR room l.length prom r = (0, 2, prom)) := Lib.hid (by unfold promR; rw [if_pos hwr])
    clear hwr
    go_wp2_with fail
    go_ret2
    refine ⟨by rw [HR.out]; rfl, by rw [HR.out]; exact HS1.out, Chg.of_below HB1.out _⟩
  · obtain ⟨a1, c1, rfl⟩ := o1.shape
    obtain ⟨pn, hpn⟩ : ∃ pn, pn = (packL 1 (bodyL r.stamp r.ws)).length := ⟨_, rfl⟩
    rw [← hpn]
    have hpl : pn ≤ 1000100 := by rw [hpn, pack_len]; have := HLEN.out; omega
    obtain ⟨aj, cj, e1, _⟩ := HS1.out.j
    have k0 := cell_of_blk e1 0
    have k1 := cell_of_blk e1 1
    have f1 := frozen_of_blk e1 1
    simp at k0 k1
    have HQ : Hid (∀ n : Nat, Quiet Try.prog 59 #[.pointer (some ⟨db, 0, none⟩)] (w1.drewN n) (.int .i64 ((room : Int) - ln))) := Lib.hid (fun n => by rw [HLN.out]; exact dkLeft_q (HS1.out.d.below (below_drewN (Below.refl _ _) n)))
    have w2 : IntKind.i64.wrap ((room : Int) - (ln : Int) - prom) = (room : Int) - (ln : Int) - prom := by rw [IntKind.wrap_i64]; omega
    have w3 : IntKind.i64.wrap ((room : Int) - (ln : Int) - prom - 14) = (room : Int) - (ln : Int) - prom - 14 := by rw [IntKind.wrap_i64]; omega
    have w4 : IntKind.i64.wrap (prom + (pn : Int)) = prom + (pn : Int) := by rw [IntKind.wrap_i64]; omega
    by_cases hf : (room : Int) - ln - prom - 14 < (pn : Int)
    · have t1 : decide ((room : Int) - (ln : Int) - prom - 14 < (pn : Int)) = true := decide_eq_true hf
      have HR : Hid (promR room l.length prom r = (0, 50, prom)) := Lib.hid (by unfold promR; rw [if_neg (by rw [hwr]; decide), ← hpn, ← HLN.out, if_pos hf])
      clear hwr hpn o1 e1 hf
      go_wp2_with fail
      go_quiet ((go_at_call 59; first | exact quiet_at (HQ.out _) | exact quiet_at2 (HQ.out _)))
      go_wp2_with fail
      go_ret2
      refine ⟨by rw [HR.out]; rfl, by rw [HR.out]; exact HS1.out.below (below_drewN (Below.refl _ _) _), Chg.of_below (below_drewN HB1.out _) _⟩
    · have t1 : decide ((room : Int) - (ln : Int) - prom - 14 < (pn : Int)) = false := decide_eq_false hf
      have HR : Hid (promR room l.length prom r = ((pn : Int), (0 : Int), prom + (pn : Int))) := Lib.hid (by unfold promR; rw [if_neg (by rw [hwr]; decide), ← hpn, ← HLN.out, if_neg hf])
      clear hwr hpn o1 e1 hf
      go_wp2_with fail
      go_quiet ((go_at_call 59; first | exact quiet_at (HQ.out _) | exact quiet_at2 (HQ.out _)))
      go_wp2_with fail
      go_ret2
      refine ⟨by rw [HR.out]; rfl, by rw [HR.out]; exact (HS1.out.below (below_drewN (Below.refl _ _) _)).prom _, (Chg.of_below (below_drewN HB1.out _) (fun j => j = jb)).setCell (p := ⟨jb, 1, none⟩) (fun _ => rfl) _⟩
end Go.Proofs.Ytcghgnncmnoalaa
