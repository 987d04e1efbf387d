/- Layer 18: are two lists of rows the same? Conditions: the contract's own premises. Layer 18: is a pattern not too great? Conditions: the contract's own premises. -/
import Derived.Test.YtonilojjahfboaaGreatPb5
import Derived.Test.YtonilojjahfboaaGreatWsr
import Derived.BigRegion
import Derived.Deep.Cut
import Derived.Deep.CutRange
import Derived.Deep.RegionHeld3
import Derived.Test.YtonilojjahfboaaGreatMa3
namespace Go.Proofs.YtonilojjahfboaaGreat
open Go.RowKit Go.Maps

set_option maxRecDepth 100000 in
set_option maxHeartbeats 4000000 in
theorem same18_any (a b : Option Addr) (ac bc : Nat) (A R : List Ws) (w : World) (ha : kW2.V w a A) (hb : kW2.V w b R) (ea : ∀ x ∈ A, kI.V w x.a x.l ∧ x.l.length ≤ 1000000) (eb : ∀ x ∈ R, kI.V w x.a x.l) (l1 : A.length ≤ 1000000) :
    Calls Tryz.prog 54 #[.slice a A.length ac, .slice b R.length bc] w fun e w' => e = .returned (.bool (decide (A.map Ws.l = R.map Ws.l))) ∧ Below w.heap.size w w' := by
  obtain ⟨n, hn⟩ : ∃ n, n = A.length := ⟨_, rfl⟩
  obtain ⟨m, hm⟩ : ∃ n, n = R.length := ⟨_, rfl⟩
  have HN : Hid (n = A.length ∧ n ≤ 1000000 ∧ m = R.length) := Lib.hid ⟨hn, by omega, hm⟩
  have HA := Lib.hid ha
  have HR := Lib.hid hb
  have HEA := Lib.hid ea
  have HEB := Lib.hid eb
  obtain ⟨res, hres⟩ : ∃ r, r = decide (A.map Ws.l = R.map Ws.l) := ⟨_, rfl⟩
  have HNO : Hid (A.map Ws.l ≠ R.map Ws.l → res = false) := Lib.hid (fun h => by rw [hres]; exact decide_eq_false h)
  have HYES : Hid (A.map Ws.l = R.map Ws.l → res = true) := Lib.hid (fun h => by rw [hres]; exact decide_eq_true h)
  rw [← hn, ← hm, ← hres]
  clear hn hm ha hb ea eb l1 hres
  have hn9 : n ≤ 1000000 := HN.out.2.1
  by_cases h0 : n = m
  case neg =>
    have t1 : ((n : Int) == (m : Int)) = false := by simp; omega
    have t1' : ((n : Int) != (m : Int)) = true := by simp; omega
    have HF : Hid (res = false) := Lib.hid (HNO.out (fun e => h0 (by
      have := congrArg List.length e
      rw [List.length_map, List.length_map] at this
      rw [HN.out.1, HN.out.2.2]; exact this)))
    clear h0
    go_enter Tryz.func54, Tryz.ntmps54
    go_wp2_with fail
    go_ret
    exact ⟨by rw [HF.out]; rfl, Below.refl _ _⟩
  subst h0
  go_enter Tryz.func54, Tryz.ntmps54
  go_wp2_with fail
  go_loopw [5] (fun i wr => ∃ j : Nat, j ≤ n ∧ i = .int .i64 j ∧ Hid ((A.take j).map Ws.l = (R.take j).map Ws.l) ∧ Hid (Below w.heap.size w wr)) (fun i _ => n - (intOf i).toNat)
  case atStart => exact ⟨0, Nat.zero_le _, rfl, Lib.hid rfl, Lib.hid (Below.refl _ _)⟩
  case round =>
    obtain ⟨j, hj, rfl, HI, HB⟩ := hrel
    obtain ⟨wo, rfl⟩ : ∃ wo : World, wo = wr := ⟨_, rfl⟩
    by_cases hlt : j < n
    · obtain ⟨x, hx⟩ : ∃ x, A[j]? = some x := ⟨_, List.getElem?_eq_getElem (by rw [← HN.out.1]; exact hlt)⟩
      obtain ⟨y, hy⟩ : ∃ x, R[j]? = some x := ⟨_, List.getElem?_eq_getElem (by rw [← HN.out.2.2]; exact hlt)⟩
      obtain ⟨b1, o1, rfl, hat1⟩ := HA.out (fun e => by rw [e] at hx; simp at hx)
      obtain ⟨b2, o2, rfl, hat2⟩ := HR.out (fun e => by rw [e] at hy; simp at hy)
      have HX := Lib.hid hx
      have HY := Lib.hid hy
      have HFC : Hid (∀ u, Below wo.heap.size wo u → Below wo.heap.size wo u ∧ u.cell? ⟨b1, o1 + j, none⟩ = some (.slice x.a x.l.length x.c) ∧ u.cell? ⟨b2, o2 + j, none⟩ = some (.slice y.a y.l.length y.c) ∧ b1 < u.heap.size ∧ b2 < u.heap.size) := Lib.hid (fun u hu => by
        have h1 := hat1.below (below_then HB.out hu)
        have h2 := hat2.below (below_then HB.out hu)
        have z1 := h1.cells j x hx 0 _ rfl
        have z2 := h2.cells j y hy 0 _ rfl
        simp [kW2] at z1 z2
        exact ⟨hu, z1, z2, h1.lt, h2.lt⟩)
      obtain ⟨q, hq⟩ : ∃ q, decide (x.l = y.l) = q := ⟨_, rfl⟩
      have HIS : Hid (∀ u, Below wo.heap.size wo u → Calls Tryz.prog 44 #[.slice x.a x.l.length x.c, .slice y.a y.l.length y.c] u fun e w' => e = .returned (.bool q) ∧ Below u.heap.size u w') := Lib.hid (fun u hu => by
        have hb := below_then HB.out hu
        have h1 := HEA.out x (List.mem_of_getElem? hx)
        rw [← hq]
        exact ints10_any x.a y.a x.c y.c x.l y.l u (h1.1.below hb) ((HEB.out y (List.mem_of_getElem? hy)).below hb) (by omega))
      have HQ := Lib.hid hq
      have hjn : (j : Int) < (n : Int) := by omega
      clear hx hy hat1 hat2 hq
      go_upto_region 6 with fail
      go_cut [26] from 17 to 26 (fun s26 wc => ∃ u : World, u = wc ∧ s26 = .bool (!q) ∧ Hid (Below wo.heap.size wo u))
      case first =>
        go_region_held3 (fun u => Below wo.heap.size wo u ∧ u.cell? ⟨b1, o1 + j, none⟩ = some (.slice x.a x.l.length x.c) ∧ u.cell? ⟨b2, o2 + j, none⟩ = some (.slice y.a y.l.length y.c) ∧ b1 < u.heap.size ∧ b2 < u.heap.size)
          (first | exact HFC.out _ (Below.refl _ _).drew | exact HFC.out _ HBC.out)
          ((go_at_call 44; (refine (HIS.out _ (by go_split_ands; assumption)).mono ?_); rintro e wc ⟨rfl, hbc⟩; have HBC := Lib.hid (below_then (show Below wo.heap.size wo _ by go_split_ands; assumption) hbc)))
        all_goals
          go_wp2_with fail
          go_meet
          exact ⟨_, rfl, rfl, HBC⟩
      case rest =>
      obtain ⟨u, rfl, rfl, HU⟩ := hcut
      apply_assumption
      cases q
      case false =>
        have HF : Hid (res = false) := Lib.hid (HNO.out (fun e => by
          have h1 := congrArg (fun l => l[j]?) e
          simp only [List.getElem?_map, HX.out, HY.out, Option.map_some] at h1
          exact of_decide_eq_false HQ.out (by simpa using h1)))
        go_wp2_with fail
        go_ret
        exact ⟨by rw [HF.out]; rfl, below_then HB.out HU.out⟩
      case true =>
        have HG : Hid ((A.take (j + 1)).map Ws.l = (R.take (j + 1)).map Ws.l) := Lib.hid (by
          rw [List.take_add_one, List.take_add_one, HX.out, HY.out, List.map_append, List.map_append, HI.out]
          simp [of_decide_eq_true HQ.out])
        go_wp2_with fail
        exact ⟨⟨j + 1, by omega, by go_num, HG, Lib.hid (below_then HB.out HU.out)⟩, by simp [intOf]; omega⟩
    · obtain rfl : j = n := by omega
      have HT : Hid (res = true) := Lib.hid (HYES.out (by
        have h1 := HI.out
        rw [List.take_of_length_le (by rw [← HN.out.1]; exact Nat.le_refl _), List.take_of_length_le (by rw [← HN.out.2.2]; exact Nat.le_refl _)] at h1
        exact h1))
      go_wp2_with fail
      go_ret
      exact ⟨by rw [HT.out]; rfl, HB.out⟩
end Go.Proofs.YtonilojjahfboaaGreat
namespace Go.Proofs.YtonilojjahfboaaGreat
open Go.RowKit Go.Maps

def smallNd (x : Nd) : Prop := x.lab.size ≤ 100 ∧ x.key.size ≤ 100 ∧ x.low.s.size ≤ 300 ∧ x.high.s.size ≤ 300
open Classical in
noncomputable def smallPat (NS : List Nd) (LS : List Lk) : Bool := decide ((NS.length ≤ 12 ∧ LS.length ≤ 30) ∧ (∀ x ∈ NS, smallNd x) ∧ ∀ l ∈ LS, l.lab.size ≤ 100)
open Classical in
set_option maxRecDepth 100000 in
set_option maxHeartbeats 8000000 in
theorem pattern18_any (na la : Option Addr) (nc lc : Nat) (NS : List Nd) (LS : List Lk) (w : World) (hn : kNd.V w na NS) (hl : kLk.V w la LS) (_ : NS.length ≤ maxLen) (_ : LS.length ≤ maxLen) :
    Calls Tryz.prog 48 #[.agg #[.slice na NS.length nc, .slice la LS.length lc]] w fun e w' => e = .returned (.bool (smallPat NS LS)) ∧ Below w.heap.size w w' := by
  obtain ⟨nn, hnn⟩ : ∃ n, n = NS.length := ⟨_, rfl⟩
  obtain ⟨nl, hnl⟩ : ∃ n, n = LS.length := ⟨_, rfl⟩
  have HNN : Hid (nn = NS.length ∧ nl = LS.length) := Lib.hid ⟨hnn, hnl⟩
  obtain ⟨res, hres⟩ : ∃ r, r = smallPat NS LS := ⟨_, rfl⟩
  have HYES : Hid (nn ≤ 12 → nl ≤ 30 → (∀ x ∈ NS, smallNd x) → (∀ l ∈ LS, l.lab.size ≤ 100) → res = true) := Lib.hid (fun h1 h2 h3 h4 => by rw [hres]; exact decide_eq_true ⟨⟨by omega, by omega⟩, h3, h4⟩)
  have HNO : Hid (¬ ((nn ≤ 12 ∧ nl ≤ 30) ∧ (∀ x ∈ NS, smallNd x) ∧ ∀ l ∈ LS, l.lab.size ≤ 100) → res = false) := Lib.hid (fun h => by rw [hres]; exact decide_eq_false (by rw [← hnn, ← hnl]; exact h))
  rw [← hnn, ← hnl, ← hres]
  obtain ⟨W, hW⟩ : ∃ W, W = w.alloc (.cells #[.slice na nn nc, .slice la nl lc] 116) := ⟨_, rfl⟩
  obtain ⟨pb, hpb⟩ : ∃ b, b = w.heap.size := ⟨_, rfl⟩
  have hBW : Below w.heap.size w W := by rw [hW]; exact below_box _ _
  have e1 : W.heap[pb]? = some (.cells #[.slice na nn nc, .slice la nl lc] 116 (0, 0)) := by rw [hW, hpb]; exact heap_new w _
  have c0 : W.cell? ⟨pb, 0, none⟩ = some (.slice na nn nc) := by rw [cell_of_blk e1]; rfl
  have c1 : W.cell? ⟨pb, 1, none⟩ = some (.slice la nl lc) := by rw [cell_of_blk e1]; rfl
  have cl := (Array.getElem?_eq_some_iff.1 e1).1
  have HBW := Lib.hid hBW
  have HW := Lib.hid hW
  have HPB := Lib.hid hpb
  have HVN := Lib.hid (hn.below hBW)
  have HVL := Lib.hid (hl.below hBW)
  clear hn hl hnn hnl hres hW hpb hBW e1
  by_cases h1 : 12 < nn
  · have t1 : decide (12 < nn) = true := decide_eq_true (by omega)
    have t1' : decide ((12 : Int) < ((nn : Nat) : Int)) = true := decide_eq_true (by omega)
    have HR : Hid (res = false) := Lib.hid (HNO.out (fun h => by omega))
    go_enter Tryz.func48, Tryz.ntmps48
    go_upto_region 1 with fail
    rw [← HPB.out, ← HW.out]
    go_wp2_with fail
    go_ret
    exact ⟨by rw [HR.out]; rfl, HBW.out⟩
  have t1 : decide (12 < nn) = false := decide_eq_false (by omega)
  have t1' : decide ((12 : Int) < ((nn : Nat) : Int)) = false := decide_eq_false (by omega)
  by_cases h2 : 30 < nl
  · have t2 : decide (30 < nl) = true := decide_eq_true (by omega)
    have t2' : decide ((30 : Int) < ((nl : Nat) : Int)) = true := decide_eq_true (by omega)
    have HR : Hid (res = false) := Lib.hid (HNO.out (fun h => by omega))
    go_enter Tryz.func48, Tryz.ntmps48
    go_upto_region 1 with fail
    rw [← HPB.out, ← HW.out]
    go_wp2_with fail
    go_ret
    exact ⟨by rw [HR.out]; rfl, HBW.out⟩
  have t2 : decide (30 < nl) = false := decide_eq_false (by omega)
  have t2' : decide ((30 : Int) < ((nl : Nat) : Int)) = false := decide_eq_false (by omega)
  have HNB : Hid (nn ≤ 12 ∧ nl ≤ 30) := Lib.hid ⟨by omega, by omega⟩
  have hnn9 : nn ≤ 1000 := by omega
  have hnl9 : nl ≤ 1000 := by omega
  clear h1 h2
  go_enter Tryz.func48, Tryz.ntmps48
  go_upto_region 1 with fail
  rw [← HPB.out, ← HW.out]
  go_wp2_with fail
  clear t1 t1' t2 t2'
  go_loopw [3] (fun i wr => ∃ j : Nat, j ≤ nn ∧ i = .int .i64 j ∧ Hid (∀ x ∈ NS.take j, smallNd x) ∧ W = wr) (fun i _ => nn - (intOf i).toNat)
  case atStart => exact ⟨0, Nat.zero_le _, rfl, Lib.hid (fun l hl => by simp at hl), rfl⟩
  case round =>
    obtain ⟨j, hj, rfl, HA, rfl⟩ := hrel
    have hj1 : j ≤ 1000 := Nat.le_trans hj hnn9
    by_cases hlt : j < nn
    · obtain ⟨x, hx⟩ : ∃ x, NS[j]? = some x := ⟨_, List.getElem?_eq_getElem (by rw [← HNN.out.1]; exact hlt)⟩
      obtain ⟨b, off, rfl, hat⟩ := HVN.out (fun e => by rw [e] at hx; simp at hx)
      obtain ⟨q0, q1, q2, q3, q4, q5, q6, q7⟩ := kNd_cells hat hx
      have hlb := hat.lt
      have HX := Lib.hid hx
      have HBAD : Hid (¬ smallNd x → res = false) := Lib.hid (fun h => HNO.out (fun hh => h (hh.2.1 x (List.mem_of_getElem? HX.out))))
      have HGO : Hid (smallNd x → ∀ y ∈ NS.take (j + 1), smallNd y) := Lib.hid (fun h y hy => by
        rw [List.take_add_one, HX.out] at hy
        rcases List.mem_append.1 hy with hy | hy
        · exact HA.out y hy
        · simp at hy; rw [hy]; exact h)
      clear hx hat
      by_cases gs1 : 100 < x.lab.size
      · have s1 : decide (100 < x.lab.size) = true := decide_eq_true (by omega)
        have s1' : decide ((100 : Int) < ((x.lab.size : Nat) : Int)) = true := decide_eq_true (by omega)
        have HR : Hid (res = false) := Lib.hid (HBAD.out (fun h => by have := h.1; omega))
        go_wp2_with fail
        go_ret
        exact ⟨by rw [HR.out]; rfl, HBW.out⟩
      have s1 : decide (100 < x.lab.size) = false := decide_eq_false (by omega)
      have s1' : decide ((100 : Int) < ((x.lab.size : Nat) : Int)) = false := decide_eq_false (by omega)
      by_cases gs2 : 100 < x.key.size
      · have s2 : decide (100 < x.key.size) = true := decide_eq_true (by omega)
        have s2' : decide ((100 : Int) < ((x.key.size : Nat) : Int)) = true := decide_eq_true (by omega)
        have HR : Hid (res = false) := Lib.hid (HBAD.out (fun h => by have := h.2.1; omega))
        go_wp2_with fail
        go_ret
        exact ⟨by rw [HR.out]; rfl, HBW.out⟩
      have s2 : decide (100 < x.key.size) = false := decide_eq_false (by omega)
      have s2' : decide ((100 : Int) < ((x.key.size : Nat) : Int)) = false := decide_eq_false (by omega)
      by_cases gs3 : 300 < x.low.s.size
      · have s3 : decide (300 < x.low.s.size) = true := decide_eq_true (by omega)
        have s3' : decide ((300 : Int) < ((x.low.s.size : Nat) : Int)) = true := decide_eq_true (by omega)
        have HR : Hid (res = false) := Lib.hid (HBAD.out (fun h => by have := h.2.2.1; omega))
        go_wp2_with fail
        go_ret
        exact ⟨by rw [HR.out]; rfl, HBW.out⟩
      have s3 : decide (300 < x.low.s.size) = false := decide_eq_false (by omega)
      have s3' : decide ((300 : Int) < ((x.low.s.size : Nat) : Int)) = false := decide_eq_false (by omega)
      by_cases gs4 : 300 < x.high.s.size
      · have s4 : decide (300 < x.high.s.size) = true := decide_eq_true (by omega)
        have s4' : decide ((300 : Int) < ((x.high.s.size : Nat) : Int)) = true := decide_eq_true (by omega)
        have HR : Hid (res = false) := Lib.hid (HBAD.out (fun h => by have := h.2.2.2; omega))
        go_wp2_with fail
        go_ret
        exact ⟨by rw [HR.out]; rfl, HBW.out⟩
      have s4 : decide (300 < x.high.s.size) = false := decide_eq_false (by omega)
      have s4' : decide ((300 : Int) < ((x.high.s.size : Nat) : Int)) = false := decide_eq_false (by omega)
      have HG := Lib.hid (HGO.out ⟨by omega, by omega, by omega, by omega⟩)
      clear gs1 gs2 gs3 gs4
      go_wp2_with fail
      exact ⟨⟨j + 1, by omega, by go_num, HG, trivial⟩, by simp [intOf]; omega⟩
    · obtain rfl : j = nn := by omega
      have HALL : Hid (∀ x ∈ NS, smallNd x) := Lib.hid (fun x hx => HA.out x (by rw [HNN.out.1, List.take_length]; exact hx))
      go_wp2_with fail
      go_loopw [4] (fun i wr => ∃ k : Nat, k ≤ nl ∧ i = .int .i64 k ∧ Hid (∀ l ∈ LS.take k, l.lab.size ≤ 100) ∧ W = wr) (fun i _ => nl - (intOf i).toNat)
      case atStart => exact ⟨0, Nat.zero_le _, rfl, Lib.hid (fun l hl => by simp at hl), rfl⟩
      case round =>
        obtain ⟨k, hk, rfl, HA2, rfl⟩ := hrel
        have hk1 : k ≤ 1000 := Nat.le_trans hk hnl9
        by_cases hlt2 : k < nl
        · obtain ⟨x, hx⟩ : ∃ x, LS[k]? = some x := ⟨_, List.getElem?_eq_getElem (by rw [← HNN.out.2]; exact hlt2)⟩
          obtain ⟨b, off, rfl, hat⟩ := HVL.out (fun e => by rw [e] at hx; simp at hx)
          obtain ⟨q0, q1, q2⟩ := kLk_cells hat hx
          have hlb := hat.lt
          have HX := Lib.hid hx
          clear hx hat
          by_cases g1 : 100 < x.lab.size
          · have s1 : decide (100 < x.lab.size) = true := decide_eq_true (by omega)
            have s1' : decide ((100 : Int) < ((x.lab.size : Nat) : Int)) = true := decide_eq_true (by omega)
            have HR : Hid (res = false) := Lib.hid (HNO.out (fun h => by have := h.2.2 x (List.mem_of_getElem? HX.out); omega))
            go_wp2_with fail
            go_ret
            exact ⟨by rw [HR.out]; rfl, HBW.out⟩
          have s1 : decide (100 < x.lab.size) = false := decide_eq_false (by omega)
          have s1' : decide ((100 : Int) < ((x.lab.size : Nat) : Int)) = false := decide_eq_false (by omega)
          have HG : Hid (∀ l ∈ LS.take (k + 1), l.lab.size ≤ 100) := Lib.hid (fun y hy => by
            rw [List.take_add_one, HX.out] at hy
            rcases List.mem_append.1 hy with hy | hy
            · exact HA2.out y hy
            · simp at hy; rw [hy]; omega)
          clear g1
          go_wp2_with fail
          exact ⟨⟨k + 1, by omega, by go_num, HG, trivial⟩, by simp [intOf]; omega⟩
        · obtain rfl : k = nl := by omega
          have HR : Hid (res = true) := Lib.hid (HYES.out HNB.out.1 HNB.out.2 HALL.out (fun l hl => HA2.out l (by rw [HNN.out.2, List.take_length]; exact hl)))
          go_wp2_with fail
          go_ret
          exact ⟨by rw [HR.out]; rfl, HBW.out⟩
end Go.Proofs.YtonilojjahfboaaGreat
