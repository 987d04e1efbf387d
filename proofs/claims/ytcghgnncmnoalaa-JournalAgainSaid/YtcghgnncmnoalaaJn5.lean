/- The journal: Append. Conditions: each contract's own premises. -/
import Derived.Test.YtcghgnncmnoalaaJn4
namespace Go.Proofs.Ytcghgnncmnoalaa
open Go.RowKit Go.Maps

/-- what an append answers: the errno, what is promised then, what is laid -/
def appR (room len : Nat) (prom : Int) (r : Rc) : Int × Int × List UInt8 :=
  if r.wrong = true then (2, prom, []) else if prom < ((packL 1 (bodyL r.stamp r.ws)).length : Nat) then (50, prom, [])
  else if len + (packL 1 (bodyL r.stamp r.ws)).length ≤ room then (0, prom - (packL 1 (bodyL r.stamp r.ws)).length, packL 1 (bodyL r.stamp r.ws)) else (50, prom - (packL 1 (bodyL r.stamp r.ws)).length, [])
def JAppPost (w : World) (jb db room safe : Nat) (prom last : Int) (B : Nat) (l : List UInt8) (ms : List (Int × Int)) (r : Rc) (e : Ending) (w' : World) : Prop :=
  e = .returned (.int .i64 (appR room l.length prom r).1) ∧ JS w' jb db room safe (appR room l.length prom r).2.1 last B (l ++ (appR room l.length prom r).2.2) ms ∧ Chg w w' (fun j => j = jb ∨ j = db ∨ dob w db = some j)
set_option maxRecDepth 100000 in
set_option maxHeartbeats 2000000 in
theorem jAppend_any {w : World} {jb db room safe B : Nat} {prom last : Int} {l : List UInt8} {ms : List (Int × Int)} (h : JS w jb db room safe prom last B l ms) (hB : B ≤ w.heap.size) (hp0 : 0 ≤ prom) (hp1 : prom ≤ 2147483648)
    (st : Nat) (a : Option Addr) (cap n : Nat) (ws : List Wr) (hn : n = ws.length) (hw : WsV w a ws) (hs : st < 18446744073709551616) (hl : ws.length ≤ 1000000) (hlen : l.length + (packL 1 (bodyL st ws)).length ≤ 1000000) :
    Calls Try.prog 56 #[.pointer (some ⟨jb, 0, none⟩), .agg #[.int .u64 st, .slice a n cap]] w (JAppPost w jb db room safe prom last B l ms ⟨st, ws⟩) := by
  obtain ⟨r, hr⟩ : ∃ r : Rc, r = ⟨st, ws⟩ := ⟨_, rfl⟩
  rw [← hr]
  obtain ⟨W, hW⟩ : ∃ W, (w.alloc (.cells #[.int .u64 st, .slice a n cap] 35)) = W := ⟨_, rfl⟩
  have bW : Below w.heap.size w W := by rw [← hW]; exact below_box w _
  have eW : W.heap[w.heap.size]? = some (.cells #[.int .u64 st, .slice a n cap] 35) := by rw [← hW]; exact heap_new _ _
  have v0 := cell_of_blk eW 0
  have v1 := cell_of_blk eW 1
  simp at v0 v1
  have HC : Hid (Calls Try.prog 20 #[.agg #[.int .u64 st, .slice a n cap]] W (CommitPost W r)) := Lib.hid (by rw [hr, hn]; exact commit_any st a cap ws W (hw.below bW) hs hl (by rw [pack_len] at hlen; omega))
  have HS := Lib.hid (h.below bW)
  have HS0 := Lib.hid h
  have HB := Lib.hid bW
  have HBB := Lib.hid hB
  have HW := Lib.hid hW
  have HLEN : Hid (l.length + (packL 1 (bodyL r.stamp r.ws)).length ≤ 1000000) := Lib.hid (by rw [hr]; exact hlen)
  clear hW bW eW h hw hs hl hlen hn hr hB
  go_enter Try.func56, Try.ntmps56
  go_upto_region 1 with fail
  rw [HW.out]
  go_wp2_with fail
  refine HC.out.mono ?_
  rintro e w1 ⟨b1, h1⟩
  have HB1 := Lib.hid (below_then HB.out b1)
  have HS1 := Lib.hid (HS.out.below b1)
  clear b1
  rcases h1 with ⟨hwr, rfl⟩ | ⟨hwr, v, rfl, o1⟩
  · have HR : Hid (appR room l.length prom r = (2, prom, [])) := Lib.hid (by unfold appR; rw [if_pos hwr])
    clear hwr
    go_wp2_with fail
    go_ret
    refine ⟨by rw [HR.out]; rfl, by rw [HR.out, List.append_nil]; exact HS1.out, Chg.of_below HB1.out _⟩
  · obtain ⟨a1, c1, rfl⟩ := o1.shape
    obtain ⟨p, hp⟩ : ∃ p, p = packL 1 (bodyL r.stamp r.ws) := ⟨_, rfl⟩
    rw [← hp] at o1 ⊢
    obtain ⟨pn, hpn⟩ : ∃ pn, pn = p.length := ⟨_, rfl⟩
    rw [← hpn] at o1 ⊢
    have hpl : pn ≤ 1000000 := by rw [hpn, hp]; have := HLEN.out; omega
    obtain ⟨aj, cj, e1, _⟩ := HS1.out.j
    have k0 := cell_of_blk e1 0
    have k1 := cell_of_blk e1 1
    have f1 := frozen_of_blk e1 1
    simp at k0 k1
    have w4 : IntKind.i64.wrap (prom - (pn : Int)) = prom - (pn : Int) := by rw [IntKind.wrap_i64]; omega
    by_cases hf : prom < (pn : Int)
    · have t1 : decide (prom < (pn : Int)) = true := decide_eq_true hf
      have HR : Hid (appR room l.length prom r = (50, prom, [])) := Lib.hid (by unfold appR; rw [if_neg (by rw [hwr]; decide), ← hp, ← hpn, if_pos hf])
      clear hwr hpn o1 e1 hp
      go_wp2_with fail
      go_ret
      refine ⟨by rw [HR.out]; rfl, by rw [HR.out, List.append_nil]; exact HS1.out, Chg.of_below HB1.out _⟩
    · have t1 : decide (prom < (pn : Int)) = false := decide_eq_false hf
      obtain ⟨W2, hW2⟩ : ∃ W2, w1.setCell ⟨jb, 1, none⟩ (.int .i64 (prom - (pn : Int))) = W2 := ⟨_, rfl⟩
      have s2 : JS W2 jb db room safe (prom - pn) last B l ms := by rw [← hW2]; exact HS1.out.prom _
      have g2 : Chg w W2 (fun j => j = jb ∨ j = db ∨ dob w db = some j) := by rw [← hW2]; exact (Chg.of_below HB1.out (fun j => j = jb ∨ j = db ∨ dob w db = some j)).setCell (p := ⟨jb, 1, none⟩) (fun _ => .inl rfl) _
      have g12 : Chg w1 W2 (fun j => j = jb) := by rw [← hW2]; exact (Chg.refl w1 (fun j => j = jb)).setCell (p := ⟨jb, 1, none⟩) (fun _ => rfl) _
      obtain ⟨a2, c2, e2, _⟩ := s2.j
      have q0 := cell_of_blk e2 0
      simp at q0
      have hxv : BsV W2 a1 p := by
        have ho : BsO W2 W.heap.size (.slice a1 p.length c1) p := by
          rw [hpn] at o1
          exact ownsRow_of_block o1 (fun j hj => g12.block j (o1.lt j hj).2 (fun e => by
            have h1 := (o1.lt j hj).1
            have h2 := HS.out.j.lt
            omega))
        exact BsO.bsV ho
      obtain ⟨W3, hW3⟩ : ∃ W3, W2.alloc (.cells #[.slice a1 pn c1] 22) = W3 := ⟨_, rfl⟩
      have b3 : Below W2.heap.size W2 W3 := by rw [← hW3]; exact below_box _ _
      have e3 : W3.heap[W2.heap.size]? = some (.cells #[.slice a1 pn c1] 22) := by rw [← hW3]; exact heap_new _ _
      have HS3 := Lib.hid (s2.below b3)
      have HG3 : Hid (Chg w W3 (fun j => j = jb ∨ j = db ∨ dob w db = some j)) := Lib.hid (g2.trans (Chg.of_below b3 _) (fun _ _ h => h))
      have hdob : dob W3 db = dob w db := by rw [dob_below s2.d b3, dob_chg HS1.out.d g12 (fun e => (HS1.out.j.ne HS1.out.d) e.symm)]; exact dob_below HS0.out.d HB1.out
      have HDOB := Lib.hid hdob
      have HCA : Hid (Calls Try.prog 66 #[.pointer (some ⟨db, 0, none⟩), .slice (some ⟨W2.heap.size, 0, none⟩) 1 1] W3 (DkAppPost W3 db room safe B l p)) := Lib.hid (dkAppend_any HS3.out.d (Nat.le_trans HBB.out HG3.out.size) W2.heap.size a1 pn c1 p e3 (fun e => by
        rw [hdob] at e
        have h1 := (HS0.out.d.ob e).2.1
        have h2 := g2.size
        omega) hpn (hxv.below b3) (by have := HLEN.out; rw [hp]; omega))
      have HW2 := Lib.hid hW2
      have HW3 := Lib.hid hW3
      have HWR := Lib.hid hwr
      have HPN := Lib.hid hpn
      have HP := Lib.hid hp
      have HF := Lib.hid hf
      clear hW2 hW3 e2 e3 b3 g2 g12 s2 hxv hdob hwr hpn hp o1 e1 hf
      go_upto_region 7 with fail
      rw [HW2.out]
      go_wp2_with fail
      rw [HW3.out]
      refine HCA.out.mono ?_
      rintro e w4 ⟨hy, hz⟩
      by_cases hfit : l.length + p.length ≤ room
      · obtain ⟨rfl, d4, g4, _⟩ := hy hfit
        have HR : Hid (appR room l.length prom r = (0, prom - (pn : Int), p)) := Lib.hid (by unfold appR; rw [if_neg (by rw [HWR.out]; decide), ← HP.out, ← HPN.out, if_neg (Int.not_lt.2 HF.out), if_pos (by rw [HPN.out]; exact hfit)])
        have H4 := Lib.hid (And.intro d4 g4)
        clear hy hz d4 g4
        go_wp2_with fail
        go_ret
        refine ⟨by rw [HR.out]; rfl, by rw [HR.out]; exact HS3.out.disk2 H4.out.1 H4.out.2, HG3.out.trans H4.out.2 (fun j _ hj => by rw [HDOB.out] at hj; exact .inr hj)⟩
      · obtain ⟨rfl, b4⟩ := hz (by omega)
        have HR : Hid (appR room l.length prom r = (50, prom - (pn : Int), [])) := Lib.hid (by unfold appR; rw [if_neg (by rw [HWR.out]; decide), ← HP.out, ← HPN.out, if_neg (Int.not_lt.2 HF.out), if_neg (by rw [HPN.out]; exact hfit)])
        have H4 := Lib.hid b4
        clear hy hz b4
        go_wp2_with fail
        go_ret
        refine ⟨by rw [HR.out]; rfl, by rw [HR.out, List.append_nil]; exact HS3.out.below H4.out, HG3.out.trans (Chg.of_below H4.out _) (fun _ _ h => h)⟩
end Go.Proofs.Ytcghgnncmnoalaa
