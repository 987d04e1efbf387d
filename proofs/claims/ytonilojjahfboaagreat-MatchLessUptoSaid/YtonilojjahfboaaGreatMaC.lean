/- match.Right: which patterns are right. Conditions: each contract's own premises. match.Right: which patterns are right. Conditions: each contract's own premises. -/
import Derived.Test.YtonilojjahfboaaGreatMaB
import Derived.Deep.Cut
namespace Go.Proofs.YtonilojjahfboaaGreat
open Go.RowKit Go.Maps

theorem VsV.two {w : World} {b : Nat} {v u : Vl} {t : TypeId} {z : Nat × Nat} (hb : w.heap[b]? = some (.cells #[.int .i64 v.kind, .int .i64 v.n, .string v.s, .int .i64 u.kind, .int .i64 u.n, .string u.s] t z)) (hv : v.Ok) (hu : u.Ok) : VsV w (some ⟨b, 0, none⟩) [v, u] := fun _ =>
  ⟨b, 0, rfl, ⟨by simp [hv, hu], fun i x hx => by
    match i, hx with
    | 0, hx => simp at hx; subst hx; exact ⟨by rw [cell_of_blk hb]; rfl, by rw [cell_of_blk hb]; rfl, by rw [cell_of_blk hb]; rfl⟩
    | 1, hx => simp at hx; subst hx; exact ⟨by rw [cell_of_blk hb]; rfl, by rw [cell_of_blk hb]; rfl, by rw [cell_of_blk hb]; rfl⟩
    | i + 2, hx => simp at hx, (Array.getElem?_eq_some_iff.1 hb).1⟩⟩
/-- value.Right of two -/
theorem vright_two (b cap : Nat) (v u : Vl) (t : TypeId) (z : Nat × Nat) (w : World) (hb : w.heap[b]? = some (.cells #[.int .i64 v.kind, .int .i64 v.n, .string v.s, .int .i64 u.kind, .int .i64 u.n, .string u.s] t z)) (hv : v.Ok) (hu : u.Ok) :
    Calls Tryz.prog 230 #[.slice (some ⟨b, 0, none⟩) 2 cap] w fun e w' => e = .returned (.bool (v.right && u.right)) ∧ Below w.heap.size w w' := by
  have hc := conVs_any (some ⟨b, 0, none⟩) cap [v, u] w (VsV.two hb hv hu) (by simp)
  simp only [List.any_cons, List.any_nil, Bool.or_false] at hc
  go_enter Tryz.func230, Tryz.ntmps230
  go_wp2_with fail
  refine hc.mono ?_
  rintro e w1 ⟨rfl, hb1⟩
  clear hc
  go_wp2_with fail
  go_ret
  exact ⟨ret_bool (by unfold wrongV; simp), hb1⟩
set_option maxRecDepth 100000 in
set_option maxHeartbeats 2000000 in
theorem odd_any (x : Nd) (w : World) (h : x.Ok) : Calls Tryz.prog 133 #[.agg #[.string x.lab, .string x.key, .int .i64 x.low.kind, .int .i64 x.low.n, .string x.low.s, .int .i64 x.high.kind, .int .i64 x.high.n, .string x.high.s]] w fun e w' => e = .returned (.bool (!rightNd x)) ∧ Below w.heap.size w w' := by
  obtain ⟨lab, key, low, high⟩ := x
  obtain ⟨h1, h2, h3, h4⟩ := h
  obtain ⟨W, hW⟩ : ∃ W, W = w.alloc (.cells #[.string lab, .string key, .int .i64 low.kind, .int .i64 low.n, .string low.s, .int .i64 high.kind, .int .i64 high.n, .string high.s] 100) := ⟨_, rfl⟩
  obtain ⟨nb, hnb⟩ : ∃ b, b = w.heap.size := ⟨_, rfl⟩
  have eN : W.heap[nb]? = some (.cells #[.string lab, .string key, .int .i64 low.kind, .int .i64 low.n, .string low.s, .int .i64 high.kind, .int .i64 high.n, .string high.s] 100 (0, 0)) := by rw [hW, hnb]; exact heap_new w _
  have HBW : Hid (Below w.heap.size w W) := Lib.hid (by rw [hW]; exact below_box w _)
  have HNC : Hid (∀ u, Below W.heap.size W u → u.cell? ⟨nb, 0, none⟩ = some (.string lab) ∧ u.cell? ⟨nb, 1, none⟩ = some (.string key) ∧ u.cell? ⟨nb, 2, none⟩ = some (.int .i64 low.kind) ∧ u.cell? ⟨nb, 3, none⟩ = some (.int .i64 low.n) ∧ u.cell? ⟨nb, 4, none⟩ = some (.string low.s) ∧ u.cell? ⟨nb, 5, none⟩ = some (.int .i64 high.kind) ∧ u.cell? ⟨nb, 6, none⟩ = some (.int .i64 high.n) ∧ u.cell? ⟨nb, 7, none⟩ = some (.string high.s) ∧ nb < u.heap.size) := Lib.hid (fun u hu => by
    have e := (hu.block _ (Array.getElem?_eq_some_iff.1 eN).1).trans eN
    exact ⟨by rw [cell_of_blk e]; rfl, by rw [cell_of_blk e]; rfl, by rw [cell_of_blk e]; rfl, by rw [cell_of_blk e]; rfl, by rw [cell_of_blk e]; rfl, by rw [cell_of_blk e]; rfl, by rw [cell_of_blk e]; rfl, by rw [cell_of_blk e]; rfl, (Array.getElem?_eq_some_iff.1 e).1⟩)
  have HW := Lib.hid hW
  have HNBE := Lib.hid hnb
  have H1 := Lib.hid (show lab.size ≤ maxLen by unfold maxLen; simp only at h1; omega)
  have H2 := Lib.hid (show key.size ≤ maxLen by unfold maxLen; simp only at h2; omega)
  have H3 := Lib.hid h3
  have H4 := Lib.hid h4
  have HN : Hid (rightNd ⟨lab, key, low, high⟩ = (!badS lab && (key.toList.isEmpty || (!badS key && (low.right && high.right))))) := Lib.hid rfl
  obtain ⟨res, hres⟩ : ∃ r, r = rightNd ⟨lab, key, low, high⟩ := ⟨_, rfl⟩
  rw [← hres]
  rw [← hres] at HN
  clear hW hnb eN h1 h2 h3 h4 hres
  obtain ⟨q1, hq1⟩ : ∃ q, badS lab = q := ⟨_, rfl⟩
  have HQ1 := Lib.hid hq1
  obtain ⟨c0, c1, c2, c3, c4, c5, c6, c7, cl⟩ := HNC.out W (Below.refl _ _)
  have HLR : Hid (∀ u b cap s, u.heap[b]? = some (.cells #[.string s] 9 (0, 0)) → s.size ≤ maxLen → Calls Tryz.prog 131 #[.slice (some ⟨b, 0, none⟩) 1 cap] u fun e w' => e = .returned (.bool (!badS s)) ∧ Below u.heap.size u w') := Lib.hid (fun u b cap s hb hs => lright_one b cap s _ _ u hb hs)
  have HB1 : Hid (Below W.heap.size W (W.alloc (.cells #[.string lab] 9))) := Lib.hid (below_box _ _)
  have HC1 := Lib.hid (HLR.out (W.alloc (.cells #[.string lab] 9)) W.heap.size 1 lab (heap_new _ _) H1.out)
  rw [hq1] at HC1
  clear hq1
  cases q1
  case true =>
    have HR : Hid (res = false) := Lib.hid (by rw [HN.out, HQ1.out]; rfl)
    go_enter Tryz.func133, Tryz.ntmps133
    go_upto_region 1 with fail
    rw [← HW.out, ← HNBE.out]
    go_wp2_with (go_at_call 131; refine HC1.out.mono ?_; rintro e w1 ⟨rfl, hb⟩; have HB := Lib.hid (below_then HB1.out hb); clear hb)
    go_ret
    exact ⟨by rw [HR.out]; rfl, below_then HBW.out HB.out⟩
  case false =>
    by_cases hk : key.toList = []
    · have t1 : key.toList.isEmpty = true := by simp [hk]
      have HR : Hid (res = true) := Lib.hid (by rw [HN.out, HQ1.out, t1]; rfl)
      clear hk
      go_enter Tryz.func133, Tryz.ntmps133
      go_upto_region 1 with fail
      rw [← HW.out, ← HNBE.out]
      go_wp2_with (go_at_call 131; refine HC1.out.mono ?_; rintro e w1 ⟨rfl, hb⟩; have HB := Lib.hid (below_then HB1.out hb); obtain ⟨d0, d1, d2, d3, d4, d5, d6, d7, dl⟩ := HNC.out w1 HB.out; clear hb)
      go_ret
      exact ⟨by rw [HR.out]; rfl, below_then HBW.out HB.out⟩
    · have t1 : key.toList.isEmpty = false := by simpa using hk
      obtain ⟨q2, hq2⟩ : ∃ q, badS key = q := ⟨_, rfl⟩
      have HQ2 := Lib.hid hq2
      have HT1 := Lib.hid t1
      have HC2 : Hid (∀ u : World, Calls Tryz.prog 131 #[.slice (some ⟨u.heap.size, 0, none⟩) 1 1] (u.alloc (.cells #[.string key] 9)) fun e w' => e = .returned (.bool (!q2)) ∧ Below (u.alloc (.cells #[.string key] 9)).heap.size (u.alloc (.cells #[.string key] 9)) w') := Lib.hid (fun u => by
        rw [← hq2]; exact HLR.out (u.alloc (.cells #[.string key] 9)) u.heap.size 1 key (heap_new _ _) H2.out)
      clear hk hq2
      cases q2
      case true =>
        have HR : Hid (res = false) := Lib.hid (by rw [HN.out, HQ1.out, HT1.out, HQ2.out]; rfl)
        go_enter Tryz.func133, Tryz.ntmps133
        go_upto_region 1 with fail
        rw [← HW.out, ← HNBE.out]
        go_wp2_with (first
          | (go_at_call 131; (with_reducible refine HC1.out.mono ?_); rintro e w1 ⟨rfl, hb⟩; have HB := Lib.hid (below_then HB1.out hb); obtain ⟨d0, d1, d2, d3, d4, d5, d6, d7, dl⟩ := HNC.out w1 HB.out; clear hb)
          | (go_at_call 131; (with_reducible refine (HC2.out w1).mono ?_); rintro e w2 ⟨rfl, hb⟩; have HB2 := Lib.hid (below_then HB.out (below_then (below_box _ _) hb)); obtain ⟨f0, f1, f2, f3, f4, f5, f6, f7, fl⟩ := HNC.out w2 HB2.out; clear hb))
        go_ret
        exact ⟨by rw [HR.out]; rfl, below_then HBW.out HB2.out⟩
      case false =>
        have HR : Hid (res = (low.right && high.right)) := Lib.hid (by rw [HN.out, HQ1.out, HT1.out, HQ2.out]; rfl)
        have HC3 : Hid (∀ u : World, Calls Tryz.prog 230 #[.slice (some ⟨u.heap.size, 0, none⟩) 2 2] (u.alloc (.cells #[.int .i64 low.kind, .int .i64 low.n, .string low.s, .int .i64 high.kind, .int .i64 high.n, .string high.s] 98)) fun e w' => e = .returned (.bool res) ∧ Below (u.alloc (.cells #[.int .i64 low.kind, .int .i64 low.n, .string low.s, .int .i64 high.kind, .int .i64 high.n, .string high.s] 98)).heap.size (u.alloc (.cells #[.int .i64 low.kind, .int .i64 low.n, .string low.s, .int .i64 high.kind, .int .i64 high.n, .string high.s] 98)) w') := Lib.hid (fun u => by
          rw [HR.out]
          exact vright_two u.heap.size 2 low high _ _ _ (heap_new _ _) H3.out H4.out)
        go_enter Tryz.func133, Tryz.ntmps133
        go_upto_region 1 with fail
        rw [← HW.out, ← HNBE.out]
        go_wp2_with (first
          | (go_at_call 131; (with_reducible refine HC1.out.mono ?_); rintro e w1 ⟨rfl, hb⟩; have HB := Lib.hid (below_then HB1.out hb); obtain ⟨d0, d1, d2, d3, d4, d5, d6, d7, dl⟩ := HNC.out w1 HB.out; clear hb)
          | (go_at_call 131; (with_reducible refine (HC2.out w1).mono ?_); rintro e w2 ⟨rfl, hb⟩; have HB2 := Lib.hid (below_then HB.out (below_then (below_box _ _) hb)); obtain ⟨f0, f1, f2, f3, f4, f5, f6, f7, fl⟩ := HNC.out w2 HB2.out; clear hb)
          | (go_at_call 230; (with_reducible refine (HC3.out w2).mono ?_); rintro e w3 ⟨rfl, hb⟩; have HB3 := Lib.hid (below_then HB2.out (below_then (below_box _ _) hb)); clear hb))
        go_ret
        exact ⟨rfl, below_then HBW.out HB3.out⟩
end Go.Proofs.YtonilojjahfboaaGreat
namespace Go.Proofs.YtonilojjahfboaaGreat
open Go.RowKit Go.Maps

set_option maxRecDepth 100000 in
theorem inN_any (kb k : Nat) (n : Int) (u : World) (h : u.cell? ⟨kb, 0, none⟩ = some (.int .i64 k)) : Calls Tryz.prog 130 #[.int .i64 n, .pointer (some ⟨kb, 0, none⟩)] u fun e w' => e = .returned (.bool (inN k n)) ∧ u = w' := by
  have hl := block_lt_of_cell h
  have HI : Hid (inN k n = (decide (0 ≤ n) && decide (n < (k : Int)))) := Lib.hid rfl
  obtain ⟨res, hres⟩ : ∃ r, r = inN k n := ⟨_, rfl⟩
  rw [← hres] at HI ⊢
  clear hres
  by_cases h0 : 0 ≤ n
  · have t0 : decide (0 ≤ n) = true := decide_eq_true h0
    have HR : Hid (res = decide (n < (k : Int))) := Lib.hid (by rw [HI.out, t0]; rfl)
    clear h0
    go_enter Tryz.func130, Tryz.ntmps130
    go_wp2_with fail
    go_ret
    exact ⟨by rw [HR.out]; rfl, rfl⟩
  · have t0 : decide (0 ≤ n) = false := decide_eq_false h0
    have HR : Hid (res = false) := Lib.hid (by rw [HI.out, t0]; rfl)
    clear h0
    go_enter Tryz.func130, Tryz.ntmps130
    go_wp2_with fail
    go_ret
    exact ⟨by rw [HR.out]; rfl, rfl⟩
set_option maxRecDepth 100000 in
set_option maxHeartbeats 4000000 in
theorem mright_any (na la : Option Addr) (nc lc : Nat) (NS : List Nd) (LS : List Lk) (w : World) (hn : kNd.V w na NS) (hl : kLk.V w la LS) (on : ∀ x ∈ NS, x.Ok) (ol : ∀ x ∈ LS, x.Ok) (l1 : NS.length ≤ 1000) (l2 : LS.length ≤ 1000) :
    Calls Tryz.prog 57 #[.agg #[.slice na NS.length nc, .slice la LS.length lc]] w fun e w' => e = .returned (.bool (rightPat NS LS)) ∧ Below w.heap.size w w' := by
  obtain ⟨nn, hnn⟩ : ∃ n, n = NS.length := ⟨_, rfl⟩
  obtain ⟨nl, hnl⟩ : ∃ n, n = LS.length := ⟨_, rfl⟩
  have HNN : Hid (nn = NS.length ∧ nn ≤ 1000) := Lib.hid ⟨hnn, by omega⟩
  have HNL : Hid (nl = LS.length ∧ nl ≤ 1000) := Lib.hid ⟨hnl, by omega⟩
  have HON := Lib.hid on
  have HOL := Lib.hid ol
  obtain ⟨res, hres⟩ : ∃ r, r = rightPat NS LS := ⟨_, rfl⟩
  have HRES := Lib.hid hres
  rw [← hnn, ← hnl, ← hres]
  obtain ⟨W, hW⟩ : ∃ W, W = (w.alloc (.cells #[.slice na nn nc, .slice la nl lc] 116)).alloc (.cells #[.int .i64 nn] 3) := ⟨_, rfl⟩
  obtain ⟨pb, hpb⟩ : ∃ b, b = w.heap.size := ⟨_, rfl⟩
  have hBW : Below w.heap.size w W := by rw [hW]; exact below_then (below_box _ _) (below_box _ _)
  have e1 : W.heap[pb]? = some (.cells #[.slice na nn nc, .slice la nl lc] 116 (0, 0)) := by rw [hW, hpb]; exact (Below.heap_alloc _ _ _ (by simp)).trans (heap_new w _)
  have e2 : W.heap[pb + 1]? = some (.cells #[.int .i64 nn] 3 (0, 0)) := by rw [hW, hpb]; exact heap_new2 w _ _
  have HPC : Hid (∀ u, Below W.heap.size W u → u.cell? ⟨pb, 0, none⟩ = some (.slice na nn nc) ∧ u.cell? ⟨pb, 1, none⟩ = some (.slice la nl lc) ∧ u.cell? ⟨pb + 1, 0, none⟩ = some (.int .i64 nn) ∧ pb < u.heap.size ∧ pb + 1 < u.heap.size) := Lib.hid (fun u hu => by
    have g1 := (hu.block _ (Array.getElem?_eq_some_iff.1 e1).1).trans e1
    have g2 := (hu.block _ (Array.getElem?_eq_some_iff.1 e2).1).trans e2
    exact ⟨by rw [cell_of_blk g1]; rfl, by rw [cell_of_blk g1]; rfl, by rw [cell_of_blk g2]; rfl, (Array.getElem?_eq_some_iff.1 g1).1, (Array.getElem?_eq_some_iff.1 g2).1⟩)
  have HBW := Lib.hid hBW
  have HW := Lib.hid hW
  have HPB := Lib.hid hpb
  have HVN := Lib.hid (hn.below hBW)
  have HVL := Lib.hid (hl.below hBW)
  clear hn hl on ol l1 l2 hnn hnl hres hW hpb hBW e1 e2
  obtain ⟨c0, c1, c2, cl, cl2⟩ := HPC.out W (Below.refl _ _)
  go_enter Tryz.func57, Tryz.ntmps57
  go_upto_region 2 with fail
  rw [← HPB.out, ← HW.out]
  go_wp2_with fail
  go_loopw [14] (fun i wr => ∃ j : Nat, j ≤ nl ∧ i = .int .i64 j ∧ Hid (∀ l ∈ LS.take j, rightLk nn l = true) ∧ Hid (Below W.heap.size W wr)) (fun i _ => nl - (intOf i).toNat)
  case atStart => exact ⟨0, Nat.zero_le _, rfl, Lib.hid (fun l hl => by simp at hl), Lib.hid (Below.refl _ _)⟩
  case round =>
    clear c0 c1 c2 cl cl2
    obtain ⟨j, hj, rfl, HA, HB⟩ := hrel
    obtain ⟨wo, rfl⟩ : ∃ wo : World, wo = wr := ⟨_, rfl⟩
    have hj1 : j ≤ 1000 := Nat.le_trans hj HNL.out.2
    by_cases hlt : j < nl
    · obtain ⟨x, hx⟩ : ∃ x, LS[j]? = some x := ⟨_, List.getElem?_eq_getElem (by rw [← HNL.out.1]; exact hlt)⟩
      have hox := HOL.out x (List.mem_of_getElem? hx)
      obtain ⟨b, off, rfl, hat⟩ := HVL.out (fun e => by rw [e] at hx; simp at hx)
      obtain ⟨q0, q1, q2⟩ := kLk_cells (hat.below HB.out) hx
      have hlb := (hat.below HB.out).lt
      have HX := Lib.hid hx
      obtain ⟨fr, tt, lab⟩ := x
      have HLZ : Hid (lab.size ≤ maxLen) := Lib.hid (by have := hox.2.2; unfold maxLen; simp only at this; omega)
      obtain ⟨U, hU⟩ : ∃ U, U = wo.alloc (.cells #[.int .i64 fr, .int .i64 tt, .string lab] 128) := ⟨_, rfl⟩
      obtain ⟨xb, hxb⟩ : ∃ b, b = wo.heap.size := ⟨_, rfl⟩
      have eX : U.heap[xb]? = some (.cells #[.int .i64 fr, .int .i64 tt, .string lab] 128 (0, 0)) := by rw [hU, hxb]; exact heap_new _ _
      have HBU : Hid (Below W.heap.size W U) := Lib.hid (below_then HB.out (by rw [hU]; exact below_box _ _))
      have HXC : Hid (∀ u, Below U.heap.size U u → u.cell? ⟨xb, 0, none⟩ = some (.int .i64 fr) ∧ u.cell? ⟨xb, 1, none⟩ = some (.int .i64 tt) ∧ u.cell? ⟨xb, 2, none⟩ = some (.string lab) ∧ xb < u.heap.size) := Lib.hid (fun u hu => by
        have g1 := (hu.block _ (Array.getElem?_eq_some_iff.1 eX).1).trans eX
        exact ⟨by rw [cell_of_blk g1]; rfl, by rw [cell_of_blk g1]; rfl, by rw [cell_of_blk g1]; rfl, (Array.getElem?_eq_some_iff.1 g1).1⟩)
      have HU := Lib.hid hU
      have HXB := Lib.hid hxb
      clear hx hox hat hU hxb eX
      obtain ⟨p0, p1, p2, pl, pl2⟩ := HPC.out U HBU.out
      obtain ⟨x0, x1, x2, xl⟩ := HXC.out U (Below.refl _ _)
      have hin1 := inN_any (pb + 1) nn fr U p2
      have hin2 := inN_any (pb + 1) nn tt U p2
      obtain ⟨b1, hb1⟩ : ∃ q, inN nn fr = q := ⟨_, rfl⟩
      obtain ⟨b2, hb2⟩ : ∃ q, inN nn tt = q := ⟨_, rfl⟩
      rw [hb1] at hin1
      rw [hb2] at hin2
      have HIN1 := Lib.hid hin1
      have HIN2 := Lib.hid hin2
      have HRK : Hid (rightLk nn ⟨fr, tt, lab⟩ = (b1 && (b2 && (lab.toList.isEmpty || !badS lab)))) := Lib.hid (by rw [← hb1, ← hb2]; rfl)
      have HNO : Hid (rightLk nn ⟨fr, tt, lab⟩ = false → res = false) := Lib.hid (fun h => by
        rw [HRES.out]
        cases hr : rightPat NS LS
        · rfl
        · have := (rightPat_iff.1 hr).2.2 _ (List.mem_of_getElem? HX.out)
          rw [← HNN.out.1, h] at this
          cases this)
      clear hb1 hb2 hin1 hin2
      go_upto_region 6 with fail
      rw [← HXB.out, ← HU.out]
      cases b1
      · go_wp2_with (go_at_call 130; (with_reducible refine HIN1.out.mono ?_); rintro e w1 ⟨rfl, rfl⟩)
        go_ret
        exact ⟨by rw [HNO.out (by rw [HRK.out]; rfl)]; rfl, below_then HBW.out HBU.out⟩
      cases b2
      · go_wp2_with (first | (go_at_call 130; (with_reducible refine HIN1.out.mono ?_); rintro e w1 ⟨rfl, rfl⟩) | (go_at_call 130; (with_reducible refine HIN2.out.mono ?_); rintro e w1 ⟨rfl, rfl⟩))
        go_ret
        exact ⟨by rw [HNO.out (by rw [HRK.out]; rfl)]; rfl, below_then HBW.out HBU.out⟩
      by_cases hk : lab.toList = []
      · have t1 : lab.toList.isEmpty = true := by simp [hk]
        have HT1 := Lib.hid t1
        clear hk
        go_wp2_with (first | (go_at_call 130; (with_reducible refine HIN1.out.mono ?_); rintro e w1 ⟨rfl, rfl⟩) | (go_at_call 130; (with_reducible refine HIN2.out.mono ?_); rintro e w1 ⟨rfl, rfl⟩))
        refine ⟨⟨j + 1, by omega, by go_num, Lib.hid (fun y hy => ?_), HBU⟩, by simp [intOf]; omega⟩
        rw [List.take_add_one, HX.out] at hy
        rcases List.mem_append.1 hy with hy | hy
        · exact HA.out y hy
        · simp at hy
          rw [hy, HRK.out, HT1.out]; rfl
      have t1 : lab.toList.isEmpty = false := by simpa using hk
      have HT1 := Lib.hid t1
      obtain ⟨q3, hq3⟩ : ∃ q, badS lab = q := ⟨_, rfl⟩
      have HQ3 := Lib.hid hq3
      have HLR : Hid (Calls Tryz.prog 131 #[.slice (some ⟨U.heap.size, 0, none⟩) 1 1] (U.alloc (.cells #[.string lab] 9)) fun e w' => e = .returned (.bool (!q3)) ∧ Below (U.alloc (.cells #[.string lab] 9)).heap.size (U.alloc (.cells #[.string lab] 9)) w') := Lib.hid (by
        rw [← hq3]; exact lright_one U.heap.size 1 lab _ _ _ (heap_new _ _) HLZ.out)
      clear hk hq3
      cases q3
      · go_wp2_with (first | (go_at_call 130; (with_reducible refine HIN1.out.mono ?_); rintro e w1 ⟨rfl, rfl⟩) | (go_at_call 130; (with_reducible refine HIN2.out.mono ?_); rintro e w1 ⟨rfl, rfl⟩) | (go_at_call 131; (with_reducible refine HLR.out.mono ?_); rintro e w1 ⟨rfl, hb⟩; have HB1 := Lib.hid (below_then HBU.out (below_then (below_box _ _) hb)); clear hb))
        refine ⟨⟨j + 1, by omega, by go_num, Lib.hid (fun y hy => ?_), HB1⟩, by simp [intOf]; omega⟩
        rw [List.take_add_one, HX.out] at hy
        rcases List.mem_append.1 hy with hy | hy
        · exact HA.out y hy
        · simp at hy
          rw [hy, HRK.out, HT1.out, HQ3.out]; rfl
      · go_wp2_with (first | (go_at_call 130; (with_reducible refine HIN1.out.mono ?_); rintro e w1 ⟨rfl, rfl⟩) | (go_at_call 130; (with_reducible refine HIN2.out.mono ?_); rintro e w1 ⟨rfl, rfl⟩) | (go_at_call 131; (with_reducible refine HLR.out.mono ?_); rintro e w1 ⟨rfl, hb⟩; have HB1 := Lib.hid (below_then HBU.out (below_then (below_box _ _) hb)); clear hb))
        go_ret
        exact ⟨by rw [HNO.out (by rw [HRK.out, HT1.out, HQ3.out]; rfl)]; rfl, below_then HBW.out HB1.out⟩
    · obtain rfl : j = nl := by omega
      have HALL : Hid (LS.all (rightLk NS.length) = true) := Lib.hid (List.all_eq_true.2 (fun l hl => by
        have := HA.out l (by rw [HNL.out.1, List.take_length]; exact hl)
        rw [HNN.out.1] at this
        exact this))
      have HRP : Hid (res = (decide (1 ≤ nn ∧ nn ≤ 8 ∧ j ≤ 16) && NS.all rightNd)) := Lib.hid (by
        rw [HRES.out]; unfold rightPat; rw [HALL.out, Bool.and_true, ← HNN.out.1, ← HNL.out.1])
      obtain ⟨p0, p1, p2, pl, pl2⟩ := HPC.out wo HB.out
      have HCN : Hid (Calls Tryz.prog 132 #[.slice na nn nc, .func (.func 133) #[] #[]] wo fun e w' => e = .returned (.bool (NS.any (fun x => !rightNd x))) ∧ Below wo.heap.size wo w') := Lib.hid (by
        rw [HNN.out.1]
        exact conNd_by 133 #[] (fun x => !rightNd x) na nc NS wo (enters_of Tryz.func133 (by kernel_rfl) rfl) (HVN.out.below HB.out) (by have := HNN.out; omega) (fun W' x hx hb => by simpa using odd_any x W' (HON.out x hx)))
      have HANY : Hid ((!NS.any (fun x => !rightNd x)) = NS.all rightNd) := Lib.hid (by
        rw [List.any_eq_not_all_not]
        simp)
      obtain ⟨an, han⟩ : ∃ q, q = NS.any (fun x => !rightNd x) := ⟨_, rfl⟩
      rw [← han] at HCN HANY
      clear han hlt hj
      by_cases h1 : 1 ≤ nn
      · have t1 : decide (1 ≤ nn) = true := decide_eq_true h1
        have t1' : decide ((1 : Int) ≤ (nn : Int)) = true := decide_eq_true (by omega)
        by_cases h2 : nn ≤ 8
        · have t2 : decide (nn ≤ 8) = true := decide_eq_true h2
          have t2' : decide ((nn : Int) ≤ 8) = true := decide_eq_true (by omega)
          by_cases h3 : j ≤ 16
          · have t3 : decide (j ≤ 16) = true := decide_eq_true h3
            have t3' : decide ((j : Int) ≤ 16) = true := decide_eq_true (by omega)
            have HF : Hid (res = !an) := Lib.hid (by rw [HRP.out, decide_eq_true ⟨h1, h2, h3⟩, HANY.out]; rfl)
            clear h1 h2 h3
            go_wp2_with (go_at_call 132; (with_reducible refine HCN.out.mono ?_); rintro e w1 ⟨rfl, hb⟩; have HB1 := Lib.hid (below_then HB.out hb); clear hb)
            go_ret
            exact ⟨by rw [HF.out]; rfl, below_then HBW.out HB1.out⟩
          · have t3 : decide (j ≤ 16) = false := decide_eq_false h3
            have t3' : decide ((j : Int) ≤ 16) = false := decide_eq_false (by omega)
            have HF : Hid (res = false) := Lib.hid (by rw [HRP.out, decide_eq_false (fun h => h3 h.2.2)]; rfl)
            clear h1 h2 h3
            go_wp2_with fail
            go_ret
            exact ⟨by rw [HF.out]; rfl, below_then HBW.out HB.out⟩
        · have t2 : decide (nn ≤ 8) = false := decide_eq_false h2
          have t2' : decide ((nn : Int) ≤ 8) = false := decide_eq_false (by omega)
          have HF : Hid (res = false) := Lib.hid (by rw [HRP.out, decide_eq_false (fun h => h2 h.2.1)]; rfl)
          clear h1 h2
          go_wp2_with fail
          go_ret
          exact ⟨by rw [HF.out]; rfl, below_then HBW.out HB.out⟩
      · have t1 : decide (1 ≤ nn) = false := decide_eq_false h1
        have t1' : decide ((1 : Int) ≤ (nn : Int)) = false := decide_eq_false (by omega)
        have HF : Hid (res = false) := Lib.hid (by rw [HRP.out, decide_eq_false (fun h => h1 h.1)]; rfl)
        clear h1
        go_wp2_with fail
        go_ret
        exact ⟨by rw [HF.out]; rfl, below_then HBW.out HB.out⟩
end Go.Proofs.YtonilojjahfboaaGreat
