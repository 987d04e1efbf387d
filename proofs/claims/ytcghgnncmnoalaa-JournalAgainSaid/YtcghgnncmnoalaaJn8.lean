/- The document's examples of layer 15. Conditions: each contract's own premises. -/
import Derived.Test.YtcghgnncmnoalaaJn7
import Derived.Test.YtcghgnncmnoalaaAw
namespace Go.Proofs.Ytcghgnncmnoalaa
open Go.RowKit Go.Maps

set_option maxRecDepth 100000 in
theorem record15_any (e s st : Nat) (he : e < 100) (hs : s < 100) (hst : e * 2147483648 + s = st) (w : World) : Calls Try.prog 61 #[.int .i64 e, .int .i64 s] w (ExPost w st s) := by
  obtain ⟨b, hb⟩ : ∃ b, w.heap.size + 1 = b := ⟨_, rfl⟩
  obtain ⟨W, hW⟩ : ∃ W, ((w.alloc (.cells #[.int .u64 ((e : Int) * 2147483648 + s), .slice (some ⟨b, 0, none⟩) 1 1] 35)).alloc (.cells #[.int .i64 0, .int .i64 s, .int .i64 0, .string ⟨#[]⟩, .string ⟨#[120]⟩, .bool true] 80)) = W := ⟨_, rfl⟩
  have hB : Below w.heap.size w W := by rw [← hW]; exact (below_box w _).alloc (by (try simp only [size_alloc]); omega) _
  have e1 : W.heap[w.heap.size]? = some (.cells #[.int .u64 ((e : Int) * 2147483648 + s), .slice (some ⟨b, 0, none⟩) 1 1] 35) := by rw [← hW, Below.heap_alloc _ _ _ (by (try simp only [size_alloc]); omega)]; exact heap_new w _
  have e2 : W.heap[b]? = some (.cells #[.int .i64 0, .int .i64 s, .int .i64 0, .string ⟨#[]⟩, .string ⟨#[120]⟩, .bool true] 80) := by
    have := heap_new (w.alloc (.cells #[.int .u64 ((e : Int) * 2147483648 + s), .slice (some ⟨b, 0, none⟩) 1 1] 35)) (.cells #[.int .i64 0, .int .i64 s, .int .i64 0, .string ⟨#[]⟩, .string ⟨#[120]⟩, .bool true] 80)
    rw [size_alloc, hb, hW] at this; exact this
  have c0 : W.cell? ⟨w.heap.size, 0, none⟩ = some (.int .u64 ((e : Int) * 2147483648 + s)) := cell_of_blk e1 0
  have c1 : W.cell? ⟨w.heap.size, 1, none⟩ = some (.slice (some ⟨b, 0, none⟩) 1 1) := cell_of_blk e1 1
  have hx : (exW s).Ok := by
    constructor
    · constructor <;> simp [exW, I64, maxLen, ByteArray.size] <;> omega
    · show 1 ≤ maxLen
      unfold maxLen; omega
  have HWS : Hid (WsV W (some ⟨b, 0, none⟩) [exW s]) := Lib.hid (fun _ => ⟨b, 0, rfl, ⟨fun i x hi => by
    obtain ⟨hi2, rfl⟩ := List.getElem?_eq_some_iff.1 hi
    have hi0 : i = 0 := by simpa using hi2
    subst hi0
    refine ⟨hx, fun j v hv => ?_⟩
    rw [cell_of_blk e2, ← hv]
    simp [exW, Wr.cells], (Array.getElem?_eq_some_iff.1 e2).1⟩⟩)
  have hbz : w.heap.size ≤ b := by omega
  have HBW := Lib.hid hB
  have HW := Lib.hid hW
  have HB := Lib.hid hb
  have HST := Lib.hid hst
  clear hW hB hb e1 e2 hx hst
  go_enter Try.func61, Try.ntmps61
  go_upto_region 1 with fail
  go_wp2_with fail
  rw [HB.out, HW.out]
  refine bodyPost_ret (v := .agg #[.int .u64 ((e : Int) * 2147483648 + s), .slice (some ⟨b, 0, none⟩) 1 1]) ?_ rfl ⟨b, hbz, ?_, HWS.out, HBW.out⟩
  · simp [results, Try.results61, go_sem, c0, c1]
  · rw [← HST.out]; simp
theorem ex1_pack : (packL 1 (bodyL ex1.stamp ex1.ws)).length = 37 := by rw [pack_len, ex1_len]
theorem ex1_prom : promR 500 0 0 ex1 = (37, 0, 37) := by
  unfold promR
  rw [if_neg (by rw [ex1_ok]; decide), ex1_pack]
  decide
theorem ex1_app : appR 500 0 37 ex1 = (0, 0, packL 1 (bodyL ex1.stamp ex1.ws)) := by
  unfold appR
  rw [if_neg (by rw [ex1_ok]; decide), ex1_pack, if_neg (by decide), if_pos (by decide)]
  exact Prod.ext rfl (Prod.ext (by decide) rfl)
theorem mk1_e : mkE 500 37 0 (-1) 1 = 0 := by
  unfold mkE
  rw [if_neg (by unfold epB inB; decide)]
  decide
theorem JS.ge {w : World} {jb db room safe B j : Nat} {prom last : Int} {l : List UInt8} {ms : List (Int × Int)} (h : JS w jb db room safe prom last B l ms) (h1 : B ≤ jb) (h2 : B ≤ db) (hj : j = jb ∨ j = db ∨ dob w db = some j ∨ job w jb = some j) : B ≤ j := by
  rcases hj with rfl | rfl | hj | hj
  · exact h1
  · exact h2
  · exact (h.d.ob hj).1
  · exact (h.j.ob hj).1
set_option maxRecDepth 100000 in
set_option maxHeartbeats 4000000 in
theorem awake15_any (w : World) : Calls Try.prog 51 #[] w (BoolPost w true) := by
  go_enter Try.func51, Try.ntmps51
  go_wp2_with fail
  refine (dkNew_any 500 (by omega) w).mono ?_
  rintro e w1 ⟨rfl, d1, b1⟩
  have HD1 := Lib.hid d1
  have HB1 := Lib.hid b1
  clear d1 b1
  go_wp2_with fail
  refine (jOpen_any HD1.out HB1.out.size).mono ?_
  rintro e w2 ⟨jb, a2, c2, rs, rfl, _, _, m2, _, hjb, s2, g2⟩
  have hcut : (lgN []).cut = 0 := by have := cut_le []; simpa using this
  obtain ⟨hla, hou⟩ := cut_none [] hcut
  rw [hou] at m2
  have hrs : rs = [] := List.map_eq_nil_iff.1 m2
  subst hrs
  rw [hla, hcut] at s2
  have HS2 : Hid (JS w2 jb w.heap.size 500 0 0 (-1) w.heap.size [] [(-1, 0)]) := Lib.hid s2
  have HJB : Hid (w.heap.size ≤ jb) := Lib.hid (Nat.le_trans HB1.out.size hjb)
  have HB2 : Hid (Below w.heap.size w w2) := Lib.hid (HB1.out.trans (g2.below HB1.out.size (fun i hi => by rw [hi]; exact Nat.le_refl _)))
  clear m2 hjb s2 g2 hcut hla hou
  go_wp2_with fail
  refine (record15_any 1 1 2147483649 (by omega) (by omega) rfl w2).mono ?_
  rintro e w3 ⟨b3, _, rfl, k3, q3⟩
  have HS3 := Lib.hid (HS2.out.below q3)
  have HB3 := Lib.hid (below_then HB2.out q3)
  have HP : Hid (Calls Try.prog 55 #[.pointer (some ⟨jb, 0, none⟩), .agg #[.int .u64 2147483649, .slice (some ⟨b3, 0, none⟩) 1 1]] w3 (PromPost w3 jb w.heap.size 500 0 0 (-1) w.heap.size [] [(-1, 0)] ex1)) :=
    Lib.hid (jPromise_any HS3.out (by omega) (by omega) 2147483649 (some ⟨b3, 0, none⟩) 1 1 [exW 1] rfl k3 (by omega) (by simp) (by rw [show (bodyL (max 2147483649 1) [exW 1]).length = 27 from ex1_len]; omega))
  clear k3 q3
  go_wp2_with fail
  refine HP.out.mono ?_
  rintro e w4 ⟨rfl, s4, g4⟩
  rw [show promR 500 ([] : List UInt8).length 0 ex1 = (37, 0, 37) from ex1_prom] at s4 ⊢
  have HS4 : Hid (JS w4 jb w.heap.size 500 0 37 (-1) w.heap.size [] [(-1, 0)]) := Lib.hid s4
  have HB4 : Hid (Below w.heap.size w w4) := Lib.hid (HB3.out.trans (g4.below HB3.out.size (fun i hi => by rw [hi]; exact HJB.out)))
  clear s4 g4
  dsimp only
  go_wp2_with fail
  refine (record15_any 1 1 2147483649 (by omega) (by omega) rfl w4).mono ?_
  rintro e w5 ⟨b5, _, rfl, k5, q5⟩
  have HS5 := Lib.hid (HS4.out.below q5)
  have HB5 := Lib.hid (below_then HB4.out q5)
  have HA : Hid (Calls Try.prog 56 #[.pointer (some ⟨jb, 0, none⟩), .agg #[.int .u64 2147483649, .slice (some ⟨b5, 0, none⟩) 1 1]] w5 (JAppPost w5 jb w.heap.size 500 0 37 (-1) w.heap.size [] [(-1, 0)] ex1)) :=
    Lib.hid (jAppend_any HS5.out HB5.out.size (by omega) (by omega) 2147483649 (some ⟨b5, 0, none⟩) 1 1 [exW 1] rfl k5 (by omega) (by simp) (by rw [show (packL 1 (bodyL 2147483649 [exW 1])).length = 37 from ex1_pack]; simp))
  clear k5 q5
  go_wp2_with fail
  refine HA.out.mono ?_
  rintro e w6 ⟨rfl, s6, g6⟩
  rw [show appR 500 ([] : List UInt8).length 37 ex1 = (0, 0, packL 1 (bodyL ex1.stamp ex1.ws)) from ex1_app] at s6 ⊢
  obtain ⟨P, hP⟩ : ∃ P, P = packL 1 (bodyL ex1.stamp ex1.ws) := ⟨_, rfl⟩
  have hPl : P.length = 37 := by rw [hP]; exact ex1_pack
  rw [← hP] at s6
  have HS6 : Hid (JS w6 jb w.heap.size 500 0 0 (-1) w.heap.size P [(-1, 0)]) := Lib.hid s6
  have HB6 : Hid (Below w.heap.size w w6) := Lib.hid (HB5.out.trans (g6.below HB5.out.size (fun i hi => HS5.out.ge HJB.out (Nat.le_refl _) (hi.elim .inl (fun q => q.elim (fun r => .inr (.inl r)) (fun r => .inr (.inr (.inl r))))))))
  have HM : Hid (Calls Try.prog 57 #[.pointer (some ⟨jb, 0, none⟩), .int .i64 1] w6 (JMarkPost w6 jb w.heap.size 500 0 0 (-1) w.heap.size P [(-1, 0)] 1)) :=
    Lib.hid (jMark_any HS6.out HB6.out.size (by omega) (by omega) (by simp) (by omega) 1)
  have HPL := Lib.hid hPl
  clear s6 g6 hP hPl
  dsimp only
  go_wp2_with fail
  refine HM.out.mono ?_
  rintro e w7 ⟨rfl, _, s7, g7⟩
  rw [show mkE 500 P.length 0 (-1) 1 = 0 by rw [HPL.out]; exact mk1_e] at s7 ⊢
  obtain ⟨R, hR⟩ : ∃ R, R = P ++ packL 2 (fourL (1 : Int).toNat) := ⟨_, rfl⟩
  have hRl : R.length = 51 := by rw [hR, List.length_append, HPL.out, pack_len]; simp [fourL]
  rw [← hR] at s7
  have HS7 : Hid (JS w7 jb w.heap.size 500 0 0 1 w.heap.size R [(-1, 0), (1, 51)]) := Lib.hid (by
    have := s7 rfl
    rw [HPL.out] at this
    exact this)
  have HB7 : Hid (Below w.heap.size w w7) := Lib.hid (HB6.out.trans (g7.below HB6.out.size (fun i hi => HS6.out.ge HJB.out (Nat.le_refl _) hi)))
  have HRL := Lib.hid hRl
  clear s7 g7 hR hRl
  go_wp2_with fail
  refine (jSure_any HS7.out.j HS7.out.d (by simp)).mono ?_
  rintro e w8 ⟨rfl, b8⟩
  rw [show sureOf ((0 : Nat) : Int) (-1) [(-1, 0), (1, 51)] = -1 by decide]
  have HS8 := Lib.hid (HS7.out.below b8)
  have HB8 := Lib.hid (below_then HB7.out b8)
  clear b8
  go_wp2_with fail
  refine (jFlush_any HS8.out (by simp)).mono ?_
  rintro e w9 ⟨rfl, _, g9⟩
  rw [show sureOf (R.length : Int) (-1) [(-1, 0), (1, 51)] = 1 by rw [HRL.out]; decide]
  have HB9 : Hid (Below w.heap.size w w9) := Lib.hid (HB8.out.trans (g9.below HB8.out.size (fun i hi => by rw [hi]; exact Nat.le_refl _)))
  clear g9
  go_wp2_with fail
  go_ret
  exact ⟨rfl, HB9.out⟩
end Go.Proofs.Ytcghgnncmnoalaa
