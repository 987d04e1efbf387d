/- The journal: Mark's walk. Conditions: each contract's own premises. -/
import Derived.Test.YtcghgnncmnoalaaJn6
import Derived.Deep.RegionLaw
namespace Go.Proofs.Ytcghgnncmnoalaa
open Go.RowKit Go.Maps

theorem JMarkPost.kept {w w1 : World} {jb db room safe B : Nat} {prom last n : Int} {l : List UInt8} {ms : List (Int × Int)} (hs : JS w1 jb db room safe prom last B l ms) (hc : Below w.heap.size w w1) {x : Int} (hx : x ≠ 0) (hm : mkE room l.length prom last n = x) : JMarkPost w jb db room safe prom last B l ms n (.returned (.int .i64 x)) w1 :=
  ⟨by rw [hm], fun _ => hs, fun h => absurd (hm.symm.trans h) hx, Chg.of_below hc _⟩
set_option maxRecDepth 100000 in
set_option maxHeartbeats 4000000 in
theorem jMark_any {w : World} {jb db room safe B : Nat} {prom last : Int} {l : List UInt8} {ms : List (Int × Int)} (h : JS w jb db room safe prom last B l ms) (hB : B ≤ w.heap.size) (hp0 : 0 ≤ prom) (hp1 : prom ≤ 2147483648) (hms : ms.length ≤ 1000000) (hlen : l.length + 14 ≤ 1000000) (n : Int) :
    Calls Try.prog 57 #[.pointer (some ⟨jb, 0, none⟩), .int .i64 n] w (JMarkPost w jb db room safe prom last B l ms n) := by
  have HS := Lib.hid h
  have HBB := Lib.hid hB
  obtain ⟨ln, hln⟩ : ∃ ln, ln = l.length := ⟨_, rfl⟩
  have HLN := Lib.hid hln
  have HLEN := Lib.hid hlen
  have HMS := Lib.hid hms
  have hl6 := h.d.hl
  have hr6 := h.d.hr
  rw [← hln] at hl6
  clear h hln hlen hms hB
  go_enter Try.func57, Try.ntmps57
  go_wp2_with fail
  refine (mark_any n _).mono ?_
  rintro e w1 ⟨b1, h1⟩
  have HB1 := Lib.hid b1
  have HS1 := Lib.hid (HS.out.below b1)
  clear b1
  rcases h1 with ⟨hwr, rfl⟩ | ⟨hwr, v, rfl, o1⟩
  · have HR : Hid (mkE room l.length prom last n = 2) := Lib.hid (by unfold mkE; rw [if_pos hwr])
    clear hwr
    go_wp2_with fail
    go_ret
    exact JMarkPost.kept HS1.out HB1.out (by decide) HR.out
  · obtain ⟨a1, c1, rfl⟩ := o1.shape
    obtain ⟨p, hp⟩ : ∃ p, p = packL 2 (fourL n.toNat) := ⟨_, rfl⟩
    rw [← hp] at o1 ⊢
    have hpl : p.length = 14 := by rw [hp, pack_len]; simp [fourL]
    rw [hpl] at o1 ⊢
    have hwr2 : ¬ (epB n = false) := by rw [hwr]; decide
    obtain ⟨aj, cj, e1, _⟩ := HS1.out.j
    have k0 := cell_of_blk e1 0
    have k1 := cell_of_blk e1 1
    have k2 := cell_of_blk e1 2
    simp at k0 k1 k2
    have HQ : Hid (∀ n : Nat, Quiet Try.prog 59 #[.pointer (some ⟨db, 0, none⟩)] (w1.drewN n) (.int .i64 ((room : Int) - ln))) := Lib.hid (fun n => by rw [HLN.out]; exact dkLeft_q (HS1.out.d.below (below_drewN (Below.refl _ _) n)))
    have w2 : IntKind.i64.wrap ((room : Int) - (ln : Int) - prom) = (room : Int) - (ln : Int) - prom := by rw [IntKind.wrap_i64]; omega
    by_cases hst : n ≤ last
    · have t1 : decide (n ≤ last) = true := decide_eq_true hst
      have HR : Hid (mkE room l.length prom last n = 51) := Lib.hid (by unfold mkE; rw [if_neg hwr2, if_pos hst])
      clear hwr hwr2 o1 e1 hst hp
      go_wp2_with fail
      go_ret
      exact JMarkPost.kept HS1.out HB1.out (by decide) HR.out
    · have t1 : decide (n ≤ last) = false := decide_eq_false hst
      by_cases hf : (room : Int) - ln - prom < 28
      · have t2 : decide ((room : Int) - (ln : Int) - prom < 28) = true := decide_eq_true hf
        have HR : Hid (mkE room l.length prom last n = 50) := Lib.hid (by unfold mkE; rw [if_neg hwr2, if_neg hst, ← HLN.out, if_pos hf])
        clear hwr hwr2 o1 e1 hst hp hf
        go_wp2_with fail
        go_quiet ((go_at_call 59; first | exact quiet_at (HQ.out _) | exact quiet_at2 (HQ.out _)))
        go_wp2_with fail
        go_ret
        exact JMarkPost.kept (HS1.out.below (below_drewN (Below.refl _ _) _)) (below_drewN HB1.out _) (by decide) HR.out
      · have t2 : decide ((room : Int) - (ln : Int) - prom < 28) = false := decide_eq_false hf
        have HR : Hid (mkE room l.length prom last n = 0) := Lib.hid (by unfold mkE; rw [if_neg hwr2, if_neg hst, ← HLN.out, if_neg hf])
        have HFT : Hid (l.length + p.length ≤ room) := Lib.hid (by rw [hpl, ← HLN.out]; omega)
        have HP := Lib.hid hp
        have HPL := Lib.hid hpl
        have HO1 := Lib.hid o1
        clear hwr hwr2 o1 e1 hst hp hf hpl
        go_wp2_with fail
        go_quiet ((go_at_call 59; first | exact quiet_at (HQ.out _) | exact quiet_at2 (HQ.out _)))
        obtain ⟨W2, hW2⟩ : ∃ W2, w1.drewN nq = W2 := ⟨_, rfl⟩
        rw [hW2]
        have kk : W2.cell? ⟨jb, 0, none⟩ = some (.pointer (some ⟨db, 0, none⟩)) := by rw [← hW2]; exact k0
        have b2 : Below w1.heap.size w1 W2 := by rw [← hW2]; exact below_drewN (Below.refl _ _) _
        obtain ⟨W3, hW3⟩ : ∃ W3, W2.alloc (.cells #[.slice a1 14 c1] 22) = W3 := ⟨_, rfl⟩
        have b3 : Below W2.heap.size W2 W3 := by rw [← hW3]; exact below_box _ _
        have b13 := below_then b2 b3
        have e3 : W3.heap[W2.heap.size]? = some (.cells #[.slice a1 14 c1] 22) := by rw [← hW3]; exact heap_new _ _
        have HS3 := Lib.hid (HS1.out.below b13)
        have HB3 := Lib.hid (below_then HB1.out b13)
        have HCA : Hid (Calls Try.prog 66 #[.pointer (some ⟨db, 0, none⟩), .slice (some ⟨W2.heap.size, 0, none⟩) 1 1] W3 (DkAppPost W3 db room safe B l p)) := Lib.hid (dkAppend_any HS3.out.d (Nat.le_trans HBB.out HB3.out.size) W2.heap.size a1 14 c1 p e3 (fun e => by
          rw [dob_below HS1.out.d b13] at e
          have h1 := (HS1.out.d.ob e).2.1
          have h2 := b2.size
          omega) HPL.out.symm ((BsO.bsV HO1.out).below b13) (by rw [HPL.out]; exact HLEN.out))
        have HW3 := Lib.hid hW3
        clear hW2 hW3 e3 b2 b3 b13
        clear k0 k1 k2
        go_upto_region 8 with fail
        go_wp2_with fail
        rw [HW3.out]
        refine HCA.out.mono ?_
        rintro e w4 ⟨hy, _⟩
        obtain ⟨rfl, d4, g4, _⟩ := hy HFT.out
        have HS4 := Lib.hid (HS3.out.disk2 d4 g4)
        have HG4 := Lib.hid (show Chg w w4 (fun j => j = jb ∨ j = db ∨ dob w db = some j ∨ job w jb = some j) from (Chg.of_below HB3.out _).trans g4 (fun j _ hj => by rw [dob_below HS.out.d HB3.out] at hj; exact hj.elim (fun q => .inr (.inl q)) (fun q => .inr (.inr (.inl q)))))
        have HJO : Hid (job w4 jb = job w jb) := Lib.hid ((job_chg HS3.out.j g4 (fun e => e.elim (HS3.out.j.ne HS3.out.d) HS3.out.n1)).trans (job_chg HS.out.j (Chg.of_below HB3.out (fun _ => False)) (fun e => e)))
        obtain ⟨a4, c4, e4, _⟩ := HS4.out.j
        have f2 := frozen_of_blk e4 2
        obtain ⟨W5, hW5⟩ : ∃ W5, w4.setCell ⟨jb, 2, none⟩ (.int .i64 n) = W5 := ⟨_, rfl⟩
        have e5 : W5.heap[jb]? = some (.cells #[.pointer (some ⟨db, 0, none⟩), .int .i64 prom, .int .i64 n, .slice a4 ms.length c4] 174) := by rw [← hW5, blk_setCell e4]; rfl
        have k3 := cell_of_blk e4 2
        have k30 := cell_of_blk e4 0
        have HS5 : Hid (JS W5 jb db room safe prom n B (l ++ p) ms) := Lib.hid (by rw [← hW5]; exact HS4.out.last n)
        have HG5 : Hid (Chg w W5 (fun j => j = jb ∨ j = db ∨ dob w db = some j ∨ job w jb = some j)) := Lib.hid (by rw [← hW5]; exact HG4.out.setCell (p := ⟨jb, 2, none⟩) (fun _ => .inl rfl) _)
        have HJ5 : Hid (job W5 jb = job w jb) := Lib.hid (by rw [← HJO.out, job_eq e5, job_eq e4])
        have HW5 := Lib.hid hW5
        have HE5 := Lib.hid e5
        clear hW5 e4 e5 hy d4 g4 kk
        simp at k3 k30
        go_upto_region 10 with fail
        rw [HW5.out]
        clear k3 k30 f2
        obtain ⟨mz, hmz⟩ : ∃ mz : Nat, mz = (l ++ p).length := ⟨_, rfl⟩
        have hmz2 : mz = l.length + 14 := by rw [hmz, List.length_append, HPL.out]
        have q0 := cell_of_blk HE5.out 0
        have q3 := cell_of_blk HE5.out 3
        simp at q0 q3
        obtain ⟨W6, hW6⟩ : ∃ W6, (W5.alloc (.cells #[.int .i64 n, .int .i64 mz] 171)).drew = W6 := ⟨_, rfl⟩
        have b6 : Below W5.heap.size W5 W6 := by rw [← hW6]; exact below_drewN (below_box W5 _) 1
        have e6 : W6.heap[W5.heap.size]? = some (.cells #[.int .i64 n, .int .i64 mz] 171) := by rw [← hW6]; exact heap_new W5 _
        have q3a : (W5.alloc (.cells #[.int .i64 n, .int .i64 mz] 171)).cell? ⟨jb, 3, none⟩ = some (.slice a4 ms.length c4) := ((below_box W5 _).cell (p := ⟨jb, 3, none⟩) HS5.out.j.lt).trans q3
        have HV6 : Hid (kS.V W6 (some ⟨W5.heap.size, 0, none⟩) [(n, (mz : Int))]) := Lib.hid (fun _ => ⟨_, 0, rfl, RowK.new_at (k := kS) (l := [(n, (mz : Int))]) e6 rfl⟩)
        have HO6 : Hid (kS.Own W6 B (.slice a4 ms.length c4) ms) := Lib.hid (by
          obtain ⟨a7, c7, e7, o7, _⟩ := HS5.out.j
          rw [HE5.out] at e7
          injection e7 with e7
          injection e7 with e7
          simp at e7
          obtain ⟨rfl, rfl⟩ := e7
          exact o7.below b6)
        have HLC : Hid (Calls Try.prog 58 #[.pointer (some ⟨db, 0, none⟩)] W5.drew (fun e w'' => e = .returned (.int .i64 (mz : Int)) ∧ w'' = W5.drew)) := Lib.hid (by
          rw [hmz]
          exact (dkLen_any (HS5.out.d.below (below_drewN (Below.refl _ _) 1))).mono (fun _ _ h => ⟨h.1, h.2.symm⟩))
        have HMK : Hid (∀ v' w7, kS.App W6 B (.slice a4 ms.length c4) (ms ++ [(n, (mz : Int))]) v' w7 → _) := Lib.hid (fun v' w7 hA => HS5.out.marked HE5.out b6 hA)
        have HW6 := Lib.hid hW6
        have HB6 : Hid (B ≤ W6.heap.size) := Lib.hid (Nat.le_trans HBB.out (Nat.le_trans HG5.out.size b6.size))
        have HMZ := Lib.hid hmz2
        clear hW6 b6 e6 hmz hmz2
        go_region_law (first
          | (rw [HW6.out]; refine RowK.step_app (k := kS) (B := B) (v := .slice a4 ms.length c4) (l := ms) rfl (.tmp 50) (.tmp 58) rfl rfl HO6.out (some ⟨W5.heap.size, 0, none⟩) 1 [(n, (mz : Int))] 1 rfl rfl HV6.out (by simp) ?hlx HB6.out ?_
             case hlx => (have := HMS.out; simp; omega)
             intro v' w7 hA
             obtain ⟨q4, q5, q6, q7, a7, c7, rfl⟩ := HMK.out _ _ hA
             have HQ4 := Lib.hid (And.intro q4 q7)
             clear hA q4 q7)
          | (go_simp; refine HLC.out.mono ?_; rintro e w'' ⟨rfl, rfl⟩; dsimp only))
        all_goals (
          go_wp2_with fail
          go_ret
          obtain ⟨h4, h7⟩ := HQ4.out
          rw [show (ms ++ [(n, (mz : Int))]).length = ms.length + 1 by simp] at h4 h7
          refine ⟨by rw [HR.out]; rfl, fun h => absurd HR.out h, fun _ => ?_, ?_⟩
          · rw [← HP.out, ← HMZ.out]
            exact h4
          · exact HG5.out.trans h7 (fun j _ hj => by
              rw [HJ5.out] at hj
              exact hj.elim (fun q => .inl q) (fun q => .inr (.inr (.inr q)))))
end Go.Proofs.Ytcghgnncmnoalaa
