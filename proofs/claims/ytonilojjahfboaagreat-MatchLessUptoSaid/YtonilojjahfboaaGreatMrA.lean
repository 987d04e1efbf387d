/- Reference 18: edge. Conditions: the contract's own premises. Reference 18: Right. Conditions: the contract's own premises. Reference 18: Fits. Conditions: the contract's own premises. Reference 18: Rows. Conditions: the contract's own premises. -/
import Derived.Test.YtonilojjahfboaaGreatMaA
import Derived.Deep.Cut
import Derived.Test.YtonilojjahfboaaGreatMa3
import Derived.BigRegion
import Derived.Deep.CutRange
import Derived.Deep.RegionHeld3
namespace Go.Proofs.YtonilojjahfboaaGreat
open Go.RowKit Go.Maps

def edQ (lab : ByteArray) (a b : Int) (x : Eg) : Prop := x.fr = a ∧ x.to = b ∧ (lab.toList = [] ∨ x.label = lab)
open Classical in
set_option maxRecDepth 100000 in
set_option maxHeartbeats 2000000 in
theorem r18edge_any {w : World} {rb : Nat} {EL : List Er} {ea : Option Addr} {ec : Nat} (c1 : w.cell? ⟨rb, 1, none⟩ = some (.slice ea EL.length ec)) (hv : kEr.V w ea EL) (hl : EL.length ≤ 1000000) (fr tt : Int) (lab : ByteArray) :
    Calls Tryz.prog 226 #[.pointer (some ⟨rb, 0, none⟩), .int .i64 fr, .int .i64 tt, .string lab] w fun e w' => e = .returned (.bool (decide (edB (EL.map Er.e) lab fr tt))) ∧ Below w.heap.size w w' := by
  obtain ⟨m, hm⟩ : ∃ m, m = EL.length := ⟨_, rfl⟩
  have hz := block_lt_of_cell c1
  have HC : Hid (∀ u, Below w.heap.size w u → u.cell? ⟨rb, 1, none⟩ = some (.slice ea m ec) ∧ rb < u.heap.size ∧ kEr.V u ea EL) := Lib.hid (fun u hu => ⟨by rw [hm]; exact below_cell hu 1 hz c1, Nat.lt_of_lt_of_le hz hu.size, hv.below hu⟩)
  have HM : Hid (m = EL.length ∧ m ≤ 1000000) := Lib.hid ⟨hm, by omega⟩
  have HYES : Hid (∀ x ∈ EL, edQ lab fr tt x.e → decide (edB (EL.map Er.e) lab fr tt) = true) := Lib.hid (fun x hx hq => decide_eq_true ⟨x.e, List.mem_map.2 ⟨x, hx, rfl⟩, hq⟩)
  have HNO : Hid ((∀ x ∈ EL, ¬ edQ lab fr tt x.e) → decide (edB (EL.map Er.e) lab fr tt) = false) := Lib.hid (fun h => decide_eq_false (fun ⟨y, hy, hq⟩ => by
    obtain ⟨x, hx, rfl⟩ := List.mem_map.1 hy
    exact h x hx hq))
  obtain ⟨res, hres⟩ : ∃ r, r = decide (edB (EL.map Er.e) lab fr tt) := ⟨_, rfl⟩
  rw [← hres] at HYES HNO ⊢
  clear c1 hv hl hm hz hres
  go_enter Tryz.func226, Tryz.ntmps226
  go_wp2_with fail
  go_loopw [9] (fun i wr => ∃ j : Nat, i = .int .i64 j ∧ j ≤ m ∧ Hid (∀ x ∈ EL.take j, ¬ edQ lab fr tt x.e) ∧ Hid (Below w.heap.size w wr)) (fun i _ => m - (intOf i).toNat)
  case atStart => exact ⟨0, rfl, Nat.zero_le _, Lib.hid (fun x hx => by simp at hx), Lib.hid (Below.refl _ _)⟩
  case round =>
    obtain ⟨j, rfl, hj, HA, HB⟩ := hrel
    obtain ⟨wo, rfl⟩ : ∃ wo : World, wo = wr := ⟨_, rfl⟩
    have hml := HM.out.2
    obtain ⟨d1, hz, hv⟩ := HC.out wo HB.out
    by_cases hlt : j < m
    · have hne : EL ≠ [] := fun e => by have := HM.out; rw [e] at this; simp at this; omega
      obtain ⟨b, off, rfl, hat⟩ := hv hne
      obtain ⟨x, hx⟩ : ∃ x, EL[j]? = some x := ⟨_, List.getElem?_eq_getElem (by have := HM.out; omega)⟩
      have x0 := hat.cells j x hx 0 _ rfl
      have x1 := hat.cells j x hx 1 _ rfl
      have x2 := hat.cells j x hx 2 _ rfl
      have x3 := hat.cells j x hx 3 _ rfl
      have x4 := hat.cells j x hx 4 _ rfl
      simp [kEr] at x0 x1 x2 x3 x4
      have hbl := hat.lt
      have HX := Lib.hid hx
      have HGO : Hid (¬ edQ lab fr tt x.e → ∀ y ∈ EL.take (j + 1), ¬ edQ lab fr tt y.e) := Lib.hid (fun h y hy => by
        rw [List.take_add_one, hx] at hy
        rcases List.mem_append.1 hy with hy | hy
        · exact HA.out y hy
        · simp at hy; rw [hy]; exact h)
      have HBN : Hid (∀ o, Below w.heap.size w (wo.alloc o)) := Lib.hid (fun o => below_then HB.out (below_box _ _))
      clear hat hx hne hv
      by_cases h1 : x.e.fr = fr
      · have t1 : (x.e.fr == fr) = true := by simpa using h1
        by_cases h2 : x.e.to = tt
        · have t2 : (x.e.to == tt) = true := by simpa using h2
          by_cases h3 : lab.toList = []
          · have t3 : lab.toList.isEmpty = true := by simp [h3]
            have HR : Hid (res = true) := Lib.hid (HYES.out x (List.mem_of_getElem? HX.out) ⟨h1, h2, .inl h3⟩)
            clear h1 h2 h3
            go_wp2_with fail
            go_ret
            exact ⟨by rw [HR.out]; rfl, HBN.out _⟩
          · have t3 : lab.toList.isEmpty = false := by simpa using h3
            have t4 := bytes_eqB x.e.label lab
            by_cases h4 : x.e.label = lab
            · have HR : Hid (res = true) := Lib.hid (HYES.out x (List.mem_of_getElem? HX.out) ⟨h1, h2, .inr h4⟩)
              rw [decide_eq_true h4] at t4
              clear h1 h2 h3 h4
              go_wp2_with fail
              go_ret
              exact ⟨by rw [HR.out]; rfl, HBN.out _⟩
            · have HG : Hid (∀ y ∈ EL.take (j + 1), ¬ edQ lab fr tt y.e) := Lib.hid (HGO.out (fun h => h.2.2.elim h3 h4))
              rw [decide_eq_false h4] at t4
              clear h1 h2 h3 h4
              go_wp2_with fail
              exact ⟨⟨j + 1, by go_num, hlt, HG, Lib.hid (HBN.out _)⟩, by simp [intOf]; omega⟩
        · have t2 : (x.e.to == tt) = false := by simpa using h2
          have HG : Hid (∀ y ∈ EL.take (j + 1), ¬ edQ lab fr tt y.e) := Lib.hid (HGO.out (fun h => h2 h.2.1))
          clear h1 h2
          go_wp2_with fail
          exact ⟨⟨j + 1, by go_num, hlt, HG, Lib.hid (HBN.out _)⟩, by simp [intOf]; omega⟩
      · have t1 : (x.e.fr == fr) = false := by simpa using h1
        have HG : Hid (∀ y ∈ EL.take (j + 1), ¬ edQ lab fr tt y.e) := Lib.hid (HGO.out (fun h => h1 h.1))
        clear h1
        go_wp2_with fail
        exact ⟨⟨j + 1, by go_num, hlt, HG, Lib.hid (HBN.out _)⟩, by simp [intOf]; omega⟩
    · have hjm : j = m := by omega
      have tj : decide ((j : Int) < (m : Int)) = false := decide_eq_false (by omega)
      have HR : Hid (res = false) := Lib.hid (HNO.out (fun x hx => HA.out x (by rw [List.take_of_length_le (by have := HM.out.1; omega)]; exact hx)))
      clear hjm
      go_wp2_with fail
      go_ret
      exact ⟨by rw [HR.out]; rfl, HB.out⟩
end Go.Proofs.YtonilojjahfboaaGreat
namespace Go.Proofs.YtonilojjahfboaaGreat
open Go.RowKit Go.Maps

set_option maxRecDepth 100000 in
set_option maxHeartbeats 8000000 in
theorem r18right_any (na la : Option Addr) (nc lc : Nat) (NS : List Nd) (LS : List Lk) (w : World) (hn : kNd.V w na NS) (hl : kLk.V w la LS) (on : ∀ x ∈ NS, x.Ok) (ol : ∀ x ∈ LS, x.Ok) (l1 : NS.length ≤ 1000) (l2 : LS.length ≤ 1000) :
    Calls Tryz.prog 49 #[.agg #[.slice na NS.length nc, .slice la LS.length lc]] w fun e w' => e = .returned (.bool (rightPat NS LS)) ∧ Below w.heap.size w w' := by
  obtain ⟨nn, hnn⟩ : ∃ n, n = NS.length := ⟨_, rfl⟩
  obtain ⟨nl, hnl⟩ : ∃ n, n = LS.length := ⟨_, rfl⟩
  have HNN : Hid (nn = NS.length ∧ nn ≤ 1000) := Lib.hid ⟨hnn, by omega⟩
  have HNL : Hid (nl = LS.length ∧ nl ≤ 1000) := Lib.hid ⟨hnl, by omega⟩
  have HON := Lib.hid on
  have HOL := Lib.hid ol
  obtain ⟨res, hres⟩ : ∃ r, r = rightPat NS LS := ⟨_, rfl⟩
  have HYES : Hid (1 ≤ nn → nn ≤ 8 → nl ≤ 16 → (∀ x ∈ NS, rightNd x = true) → (∀ l ∈ LS, rightLk nn l = true) → res = true) := Lib.hid (fun h1 h2 h3 h4 h5 => by
    rw [hres]; exact rightPat_iff.2 ⟨⟨by omega, by omega, by omega⟩, h4, by rw [← hnn]; exact h5⟩)
  have HNO : Hid (¬ ((1 ≤ nn ∧ nn ≤ 8 ∧ nl ≤ 16) ∧ (∀ x ∈ NS, rightNd x = true) ∧ ∀ l ∈ LS, rightLk nn l = true) → res = false) := Lib.hid (fun h => by
    rw [hres]
    cases hr : rightPat NS LS
    · rfl
    · exact absurd (by have := rightPat_iff.1 hr; rw [← hnn, ← hnl] at this; exact this) h)
  rw [← hnn, ← hnl, ← hres]
  obtain ⟨W, hW⟩ : ∃ W, W = w.alloc (.cells #[.slice na nn nc, .slice la nl lc] 116) := ⟨_, rfl⟩
  obtain ⟨pb, hpb⟩ : ∃ b, b = w.heap.size := ⟨_, rfl⟩
  have hBW : Below w.heap.size w W := by rw [hW]; exact below_box _ _
  have e1 : W.heap[pb]? = some (.cells #[.slice na nn nc, .slice la nl lc] 116 (0, 0)) := by rw [hW, hpb]; exact heap_new w _
  have HPC : Hid (∀ u, Below W.heap.size W u → u.cell? ⟨pb, 0, none⟩ = some (.slice na nn nc) ∧ u.cell? ⟨pb, 1, none⟩ = some (.slice la nl lc) ∧ pb < u.heap.size) := Lib.hid (fun u hu => by
    have g1 := (hu.block _ (Array.getElem?_eq_some_iff.1 e1).1).trans e1
    exact ⟨by rw [cell_of_blk g1]; rfl, by rw [cell_of_blk g1]; rfl, (Array.getElem?_eq_some_iff.1 g1).1⟩)
  have HBW := Lib.hid hBW
  have HW := Lib.hid hW
  have HPB := Lib.hid hpb
  have HVN := Lib.hid (hn.below hBW)
  have HVL := Lib.hid (hl.below hBW)
  clear hn hl on ol l1 l2 hnn hnl hres hW hpb hBW e1
  obtain ⟨c0, c1, cl⟩ := HPC.out W (Below.refl _ _)
  have hnn9 : nn ≤ 1000 := HNN.out.2
  have hnl9 : nl ≤ 1000 := HNL.out.2
  by_cases h1 : nn < 1
  · have t1 : decide (nn < 1) = true := decide_eq_true h1
    have t1' : decide ((nn : Int) < 1) = true := decide_eq_true (by omega)
    have HR : Hid (res = false) := Lib.hid (HNO.out (fun h => by omega))
    go_enter Tryz.func49, Tryz.ntmps49
    go_upto_region 1 with fail
    rw [← HPB.out, ← HW.out]
    go_wp2_with fail
    go_ret
    exact ⟨by rw [HR.out]; rfl, HBW.out⟩
  have t1 : decide (nn < 1) = false := decide_eq_false h1
  have t1' : decide ((nn : Int) < 1) = false := decide_eq_false (by omega)
  by_cases h2 : 8 < nn
  · have t2 : decide (8 < nn) = true := decide_eq_true h2
    have t2' : decide ((8 : Int) < (nn : Int)) = true := decide_eq_true (by omega)
    have HR : Hid (res = false) := Lib.hid (HNO.out (fun h => by omega))
    go_enter Tryz.func49, Tryz.ntmps49
    go_upto_region 1 with fail
    rw [← HPB.out, ← HW.out]
    go_wp2_with fail
    go_ret
    exact ⟨by rw [HR.out]; rfl, HBW.out⟩
  have t2 : decide (8 < nn) = false := decide_eq_false h2
  have t2' : decide ((8 : Int) < (nn : Int)) = false := decide_eq_false (by omega)
  by_cases h3 : 16 < nl
  · have t3 : decide (16 < nl) = true := decide_eq_true h3
    have t3' : decide ((16 : Int) < (nl : Int)) = true := decide_eq_true (by omega)
    have HR : Hid (res = false) := Lib.hid (HNO.out (fun h => by omega))
    go_enter Tryz.func49, Tryz.ntmps49
    go_upto_region 1 with fail
    rw [← HPB.out, ← HW.out]
    go_wp2_with fail
    go_ret
    exact ⟨by rw [HR.out]; rfl, HBW.out⟩
  have t3 : decide (16 < nl) = false := decide_eq_false h3
  have t3' : decide ((16 : Int) < (nl : Int)) = false := decide_eq_false (by omega)
  have HNB : Hid (1 ≤ nn ∧ nn ≤ 8 ∧ nl ≤ 16) := Lib.hid ⟨by omega, by omega, by omega⟩
  clear h1 h2 h3
  go_enter Tryz.func49, Tryz.ntmps49
  go_upto_region 1 with fail
  rw [← HPB.out, ← HW.out]
  go_wp2_with fail
  clear t1 t1' t2 t2' t3 t3' c0 c1 cl
  go_loopw [3] (fun i wr => ∃ j : Nat, j ≤ nn ∧ i = .int .i64 j ∧ Hid (∀ x ∈ NS.take j, rightNd x = true) ∧ Hid (Below W.heap.size W wr)) (fun i _ => nn - (intOf i).toNat)
  case atStart => exact ⟨0, Nat.zero_le _, rfl, Lib.hid (fun l hl => by simp at hl), Lib.hid (Below.refl _ _)⟩
  case round =>
    obtain ⟨j, hj, rfl, HA, HB⟩ := hrel
    obtain ⟨wo, rfl⟩ : ∃ wo : World, wo = wr := ⟨_, rfl⟩
    have hj1 : j ≤ 1000 := Nat.le_trans hj HNN.out.2
    obtain ⟨c0, c1, cl⟩ := HPC.out wo HB.out
    by_cases hlt : j < nn
    · obtain ⟨x, hx⟩ : ∃ x, NS[j]? = some x := ⟨_, List.getElem?_eq_getElem (by rw [← HNN.out.1]; exact hlt)⟩
      have hox := HON.out x (List.mem_of_getElem? hx)
      obtain ⟨b, off, rfl, hat⟩ := HVN.out (fun e => by rw [e] at hx; simp at hx)
      obtain ⟨q0, q1, q2, q3, q4, q5, q6, q7⟩ := kNd_cells (hat.below HB.out) hx
      have hlb := (hat.below HB.out).lt
      have HX := Lib.hid hx
      obtain ⟨lab, key, low, high⟩ := x
      obtain ⟨ok1, ok2, ok3, ok4⟩ := hox
      have HOK : Hid (lab.size ≤ 2000000 ∧ key.size ≤ 2000000 ∧ low.Ok ∧ high.Ok) := Lib.hid ⟨by simp only at ok1; omega, by simp only at ok2; omega, ok3, ok4⟩
      obtain ⟨U, hU⟩ : ∃ U, U = wo.alloc (.cells #[.string lab, .string key, .int .i64 low.kind, .int .i64 low.n, .string low.s, .int .i64 high.kind, .int .i64 high.n, .string high.s] 100) := ⟨_, rfl⟩
      obtain ⟨xb, hxb⟩ : ∃ b, b = wo.heap.size := ⟨_, rfl⟩
      have eX : U.heap[xb]? = some (.cells #[.string lab, .string key, .int .i64 low.kind, .int .i64 low.n, .string low.s, .int .i64 high.kind, .int .i64 high.n, .string high.s] 100 (0, 0)) := by rw [hU, hxb]; exact heap_new _ _
      have HBU : Hid (Below W.heap.size W U) := Lib.hid (below_then HB.out (by rw [hU]; exact below_box _ _))
      have HXC : Hid (∀ u, Below U.heap.size U u → u.cell? ⟨xb, 0, none⟩ = some (.string lab) ∧ u.cell? ⟨xb, 1, none⟩ = some (.string key) ∧ u.cell? ⟨xb, 2, none⟩ = some (.int .i64 low.kind) ∧ u.cell? ⟨xb, 3, none⟩ = some (.int .i64 low.n) ∧ u.cell? ⟨xb, 4, none⟩ = some (.string low.s) ∧ u.cell? ⟨xb, 5, none⟩ = some (.int .i64 high.kind) ∧ u.cell? ⟨xb, 6, none⟩ = some (.int .i64 high.n) ∧ u.cell? ⟨xb, 7, none⟩ = some (.string high.s) ∧ xb < u.heap.size) := Lib.hid (fun u hu => by
        have g1 := (hu.block _ (Array.getElem?_eq_some_iff.1 eX).1).trans eX
        exact ⟨by rw [cell_of_blk g1]; rfl, by rw [cell_of_blk g1]; rfl, by rw [cell_of_blk g1]; rfl, by rw [cell_of_blk g1]; rfl, by rw [cell_of_blk g1]; rfl, by rw [cell_of_blk g1]; rfl, by rw [cell_of_blk g1]; rfl, by rw [cell_of_blk g1]; rfl, (Array.getElem?_eq_some_iff.1 g1).1⟩)
      have HU := Lib.hid hU
      have HXB := Lib.hid hxb
      have HND : Hid (rightNd ⟨lab, key, low, high⟩ = (!badS lab && (key.toList.isEmpty || (!badS key && (low.right && high.right))))) := Lib.hid rfl
      have HBAD : Hid (rightNd ⟨lab, key, low, high⟩ = false → res = false) := Lib.hid (fun h => HNO.out (fun hh => by
        have := hh.2.1 _ (List.mem_of_getElem? HX.out)
        rw [h] at this
        cases this))
      have HGO : Hid (rightNd ⟨lab, key, low, high⟩ = true → ∀ y ∈ NS.take (j + 1), rightNd y = true) := Lib.hid (fun h y hy => by
        rw [List.take_add_one, HX.out] at hy
        rcases List.mem_append.1 hy with hy | hy
        · exact HA.out y hy
        · simp at hy; rw [hy]; exact h)
      have HTE : Hid (∀ u, Below U.heap.size U u → Below W.heap.size W u) := Lib.hid (fun u hu => below_then HBU.out hu)
      have HC1 := Lib.hid (fun u => r1right_any lab u HOK.out.1)
      have HC2 := Lib.hid (fun u => r1right_any key u HOK.out.2.1)
      have HC3 := Lib.hid (fun u => r2right_any low u HOK.out.2.2.1)
      have HC4 := Lib.hid (fun u => r2right_any high u HOK.out.2.2.2)
      clear hx ok1 ok2 ok3 ok4 hat hU hxb eX
      go_upto_region 7 with fail
      rw [← HXB.out, ← HU.out]
      clear q0 q1 q2 q3 q4 q5 q6 q7 hlb c0 c1 cl
      obtain ⟨x0, x1, x2, x3, x4, x5, x6, x7, xl⟩ := HXC.out U (Below.refl _ _)
      obtain ⟨b1, hb1⟩ : ∃ q, badS lab = q := ⟨_, rfl⟩
      obtain ⟨b2, hb2⟩ : ∃ q, badS key = q := ⟨_, rfl⟩
      obtain ⟨b3, hb3⟩ : ∃ q, low.right = q := ⟨_, rfl⟩
      obtain ⟨b4, hb4⟩ : ∃ q, high.right = q := ⟨_, rfl⟩
      rw [hb1, hb2, hb3, hb4] at HND
      rw [hb1] at HC1
      rw [hb2] at HC2
      rw [hb3] at HC3
      rw [hb4] at HC4
      clear hb1 hb2 hb3 hb4
      cases b1
      case true =>
        go_wp2_with (go_at_call 126; (with_reducible refine (HC1.out U).mono ?_); rintro e w2 ⟨rfl, hb⟩; have HB2 := Lib.hid (HTE.out _ hb); clear hb)
        go_ret
        exact ⟨by rw [HBAD.out (by rw [HND.out]; rfl)]; rfl, below_then HBW.out HB2.out⟩
      case false =>
      go_upto_region 9 with (go_at_call 126; (with_reducible refine (HC1.out U).mono ?_); rintro e w2 ⟨rfl, hb⟩; have HB2 := Lib.hid hb; clear hb)
      clear x0 x1 x2 x3 x4 x5 x6 x7 xl
      obtain ⟨x0, x1, x2, x3, x4, x5, x6, x7, xl⟩ := HXC.out w2 HB2.out
      by_cases hk : key.toList = []
      · have s1 : key.toList.isEmpty = true := by simp [hk]
        have HS1 := Lib.hid s1
        clear hk
        go_wp2_with fail
        exact ⟨⟨j + 1, by omega, by go_num, Lib.hid (HGO.out (by rw [HND.out, HS1.out]; rfl)), Lib.hid (HTE.out _ HB2.out)⟩, by simp [intOf]; omega⟩
      have s1 : key.toList.isEmpty = false := by simpa using hk
      have HS1 := Lib.hid s1
      clear hk
      cases b2
      case true =>
        go_wp2_with (go_at_call 126; (with_reducible refine (HC2.out w2).mono ?_); rintro e w3 ⟨rfl, hb⟩; have HB3 := Lib.hid (HTE.out _ (below_then HB2.out hb)); clear hb)
        go_ret
        exact ⟨by rw [HBAD.out (by rw [HND.out, HS1.out]; rfl)]; rfl, below_then HBW.out HB3.out⟩
      case false =>
      cases b3
      case false =>
        go_wp2_with (first
          | (go_at_call 126; (with_reducible refine (HC2.out w2).mono ?_); rintro e w3 ⟨rfl, hb⟩; have HB3 := Lib.hid (below_then HB2.out hb); obtain ⟨y0, y1, y2, y3, y4, y5, y6, y7, yl⟩ := HXC.out w3 HB3.out; clear hb)
          | (go_at_call 127; (with_reducible refine (HC3.out w3).mono ?_); rintro e w4 ⟨rfl, hb⟩; have HB4 := Lib.hid (HTE.out _ (below_then HB3.out hb)); clear hb))
        go_ret
        exact ⟨by rw [HBAD.out (by rw [HND.out, HS1.out]; rfl)]; rfl, below_then HBW.out HB4.out⟩
      case true =>
      go_wp2_with (first
          | (go_at_call 126; (with_reducible refine (HC2.out w2).mono ?_); rintro e w3 ⟨rfl, hb⟩; have HB3 := Lib.hid (below_then HB2.out hb); obtain ⟨y0, y1, y2, y3, y4, y5, y6, y7, yl⟩ := HXC.out w3 HB3.out; clear hb)
          | (go_at_call 127; (with_reducible refine (HC3.out w3).mono ?_); rintro e w4 ⟨rfl, hb⟩; have HB4 := Lib.hid (below_then HB3.out hb); obtain ⟨z0, z1, z2, z3, z4, z5, z6, z7, zl⟩ := HXC.out w4 HB4.out; clear hb)
          | fail)
      cases b4
      case false =>
        go_wp2_with (go_at_call 127; (with_reducible refine (HC4.out w4).mono ?_); rintro e w5 ⟨rfl, hb⟩; have HB5 := Lib.hid (HTE.out _ (below_then HB4.out hb)); clear hb)
        go_ret
        exact ⟨by rw [HBAD.out (by rw [HND.out, HS1.out]; rfl)]; rfl, below_then HBW.out HB5.out⟩
      case true =>
        go_wp2_with (go_at_call 127; (with_reducible refine (HC4.out w4).mono ?_); rintro e w5 ⟨rfl, hb⟩; have HB5 := Lib.hid (HTE.out _ (below_then HB4.out hb)); clear hb)
        exact ⟨⟨j + 1, by omega, by go_num, Lib.hid (HGO.out (by rw [HND.out, HS1.out]; rfl)), HB5⟩, by simp [intOf]; omega⟩
    · obtain rfl : j = nn := by omega
      have HALL : Hid (∀ x ∈ NS, rightNd x = true) := Lib.hid (fun x hx => HA.out x (by rw [HNN.out.1, List.take_length]; exact hx))
      clear hj
      go_wp2_with fail
      clear c0 c1 cl
      go_loopw [5] (fun i wr => ∃ k : Nat, k ≤ nl ∧ i = .int .i64 k ∧ Hid (∀ l ∈ LS.take k, rightLk j l = true) ∧ Hid (Below W.heap.size W wr)) (fun i _ => nl - (intOf i).toNat)
      case atStart => exact ⟨0, Nat.zero_le _, rfl, Lib.hid (fun l hl => by simp at hl), HB⟩
      case round =>
        obtain ⟨k, hk, rfl, HA2, HB2⟩ := hrel
        obtain ⟨wo2, rfl⟩ : ∃ wo : World, wo = wr := ⟨_, rfl⟩
        have hk1 : k ≤ 1000 := Nat.le_trans hk HNL.out.2
        obtain ⟨c0, c1, cl⟩ := HPC.out wo2 HB2.out
        by_cases hlt2 : k < nl
        · obtain ⟨x, hx⟩ : ∃ x, LS[k]? = some x := ⟨_, List.getElem?_eq_getElem (by rw [← HNL.out.1]; exact hlt2)⟩
          have hox := HOL.out x (List.mem_of_getElem? hx)
          obtain ⟨b, off, rfl, hat⟩ := HVL.out (fun e => by rw [e] at hx; simp at hx)
          obtain ⟨q0, q1, q2⟩ := kLk_cells (hat.below HB2.out) hx
          have hlb := (hat.below HB2.out).lt
          have HX := Lib.hid hx
          obtain ⟨fr, tt, lab⟩ := x
          have HOK : Hid (lab.size ≤ 2000000) := Lib.hid (by have := hox.2.2; simp only at this; omega)
          obtain ⟨U, hU⟩ : ∃ U, U = wo2.alloc (.cells #[.int .i64 fr, .int .i64 tt, .string lab] 128) := ⟨_, rfl⟩
          obtain ⟨xb, hxb⟩ : ∃ b, b = wo2.heap.size := ⟨_, rfl⟩
          have eX : U.heap[xb]? = some (.cells #[.int .i64 fr, .int .i64 tt, .string lab] 128 (0, 0)) := by rw [hU, hxb]; exact heap_new _ _
          have HBU : Hid (Below W.heap.size W U) := Lib.hid (below_then HB2.out (by rw [hU]; exact below_box _ _))
          have x0 : U.cell? ⟨xb, 0, none⟩ = some (.int .i64 fr) := by rw [cell_of_blk eX]; rfl
          have x1 : U.cell? ⟨xb, 1, none⟩ = some (.int .i64 tt) := by rw [cell_of_blk eX]; rfl
          have x2 : U.cell? ⟨xb, 2, none⟩ = some (.string lab) := by rw [cell_of_blk eX]; rfl
          have xl := (Array.getElem?_eq_some_iff.1 eX).1
          have HU := Lib.hid hU
          have HXB := Lib.hid hxb
          have HRK : Hid (rightLk j ⟨fr, tt, lab⟩ = (inN j fr && (inN j tt && (lab.toList.isEmpty || !badS lab)))) := Lib.hid rfl
          have HBAD : Hid (rightLk j ⟨fr, tt, lab⟩ = false → res = false) := Lib.hid (fun h => HNO.out (fun hh => by
            have := hh.2.2 _ (List.mem_of_getElem? HX.out)
            rw [h] at this
            cases this))
          have HGO : Hid (rightLk j ⟨fr, tt, lab⟩ = true → ∀ y ∈ LS.take (k + 1), rightLk j y = true) := Lib.hid (fun h y hy => by
            rw [List.take_add_one, HX.out] at hy
            rcases List.mem_append.1 hy with hy | hy
            · exact HA2.out y hy
            · simp at hy; rw [hy]; exact h)
          have HINF : Hid (∀ n : Int, (n < 0 ∨ (j : Int) ≤ n) → inN j n = false) := Lib.hid (fun n hn => by
            cases hi : inN j n
            · rfl
            · have := inN_iff.1 hi; omega)
          have HINT : Hid (∀ n : Int, ¬ n < 0 → ¬ (j : Int) ≤ n → inN j n = true) := Lib.hid (fun n h1 h2 => inN_iff.2 (by omega))
          have HC1 := Lib.hid (fun u => r1right_any lab u HOK.out)
          clear hx hox hat hU hxb eX
          go_upto_region 15 with fail
          rw [← HXB.out, ← HU.out]
          clear q0 q1 q2 hlb c0 c1 cl
          obtain ⟨c0, c1, cl⟩ := HPC.out U HBU.out
          by_cases g1 : fr < 0
          · have s1 : decide (fr < 0) = true := decide_eq_true g1
            have HR : Hid (res = false) := Lib.hid (HBAD.out (by rw [HRK.out, HINF.out fr (.inl g1)]; rfl))
            go_wp2_with fail
            go_ret
            exact ⟨by rw [HR.out]; rfl, below_then HBW.out HBU.out⟩
          have s1 : decide (fr < 0) = false := decide_eq_false g1
          by_cases g2 : tt < 0
          · have s2 : decide (tt < 0) = true := decide_eq_true g2
            have HR : Hid (res = false) := Lib.hid (HBAD.out (by rw [HRK.out, HINF.out tt (.inl g2)]; simp))
            go_wp2_with fail
            go_ret
            exact ⟨by rw [HR.out]; rfl, below_then HBW.out HBU.out⟩
          have s2 : decide (tt < 0) = false := decide_eq_false g2
          by_cases g3 : (j : Int) ≤ fr
          · have s3 : decide ((j : Int) ≤ fr) = true := decide_eq_true g3
            have HR : Hid (res = false) := Lib.hid (HBAD.out (by rw [HRK.out, HINF.out fr (.inr g3)]; rfl))
            go_wp2_with fail
            go_ret
            exact ⟨by rw [HR.out]; rfl, below_then HBW.out HBU.out⟩
          have s3 : decide ((j : Int) ≤ fr) = false := decide_eq_false g3
          by_cases g4 : (j : Int) ≤ tt
          · have s4 : decide ((j : Int) ≤ tt) = true := decide_eq_true g4
            have HR : Hid (res = false) := Lib.hid (HBAD.out (by rw [HRK.out, HINF.out tt (.inr g4)]; simp))
            go_wp2_with fail
            go_ret
            exact ⟨by rw [HR.out]; rfl, below_then HBW.out HBU.out⟩
          have s4 : decide ((j : Int) ≤ tt) = false := decide_eq_false g4
          have HI1 := Lib.hid (HINT.out fr g1 g3)
          have HI2 := Lib.hid (HINT.out tt g2 g4)
          by_cases hke : lab.toList = []
          · have s5 : lab.toList.isEmpty = true := by simp [hke]
            have HG : Hid (∀ y ∈ LS.take (k + 1), rightLk j y = true) := Lib.hid (HGO.out (by rw [HRK.out, HI1.out, HI2.out, s5]; rfl))
            clear hke g1 g2 g3 g4
            go_wp2_with fail
            exact ⟨⟨k + 1, by omega, by go_num, HG, HBU⟩, by simp [intOf]; omega⟩
          have s5 : lab.toList.isEmpty = false := by simpa using hke
          have HS5 := Lib.hid s5
          obtain ⟨b1, hb1⟩ : ∃ q, badS lab = q := ⟨_, rfl⟩
          rw [hb1] at HRK HC1
          clear hke g1 g2 g3 g4 hb1
          cases b1
          · have HG : Hid (∀ y ∈ LS.take (k + 1), rightLk j y = true) := Lib.hid (HGO.out (by rw [HRK.out, HI1.out, HI2.out, HS5.out]; rfl))
            go_wp2_with (go_at_call 126; (with_reducible refine (HC1.out U).mono ?_); rintro e w2 ⟨rfl, hb⟩; have HB3 := Lib.hid (below_then HBU.out hb); clear hb)
            exact ⟨⟨k + 1, by omega, by go_num, HG, HB3⟩, by simp [intOf]; omega⟩
          · have HR : Hid (res = false) := Lib.hid (HBAD.out (by rw [HRK.out, HI1.out, HI2.out, HS5.out]; rfl))
            go_wp2_with (go_at_call 126; (with_reducible refine (HC1.out U).mono ?_); rintro e w2 ⟨rfl, hb⟩; have HB3 := Lib.hid (below_then HBU.out hb); clear hb)
            go_ret
            exact ⟨by rw [HR.out]; rfl, below_then HBW.out HB3.out⟩
        · obtain rfl : k = nl := by omega
          have HR : Hid (res = true) := Lib.hid (HYES.out HNB.out.1 HNB.out.2.1 HNB.out.2.2 HALL.out (fun l hl => HA2.out l (by rw [HNL.out.1, List.take_length]; exact hl)))
          go_wp2_with fail
          go_ret
          exact ⟨by rw [HR.out]; rfl, below_then HBW.out HB2.out⟩
end Go.Proofs.YtonilojjahfboaaGreat
namespace Go.Proofs.YtonilojjahfboaaGreat
open Go.RowKit Go.Maps

open Classical in
set_option maxRecDepth 100000 in
set_option maxHeartbeats 8000000 in
theorem r18fits_any {w : World} {rb : Nat} {VL : List Vr} {EL : List Er} {ea : Option Addr} {ec : Nat} (hg : RgV w rb VL) (c1 : w.cell? ⟨rb, 1, none⟩ = some (.slice ea EL.length ec)) (he : kEr.V w ea EL) (hel : EL.length ≤ 1000000) (na la ra : Option Addr) (nc lc rc : Nat) (NS : List Nd) (LS : List Lk) (row : List Int)
    (hn : kNd.V w na NS) (hl : kLk.V w la LS) (hr : ∀ l ∈ LS, rightLk NS.length l = true) (l1 : NS.length ≤ 1000) (l2 : LS.length ≤ 1000) (hv : kI.V w ra row) (hlen : row.length ≤ NS.length) :
    Calls Tryz.prog 129 #[.pointer (some ⟨rb, 0, none⟩), .agg #[.slice na NS.length nc, .slice la LS.length lc], .slice ra row.length rc] w fun e w' => e = .returned (.bool (fitsB (VL.map Vr.v) (EL.map Er.e) NS LS row)) ∧ Below w.heap.size w w' := by
  obtain ⟨nn, hnn⟩ : ∃ n, n = NS.length := ⟨_, rfl⟩
  obtain ⟨nl, hnl⟩ : ∃ n, n = LS.length := ⟨_, rfl⟩
  obtain ⟨n, hnr⟩ : ∃ n, n = row.length := ⟨_, rfl⟩
  have HNN : Hid (nn = NS.length ∧ nn ≤ 1000) := Lib.hid ⟨hnn, by omega⟩
  have HNL : Hid (nl = LS.length ∧ nl ≤ 1000) := Lib.hid ⟨hnl, by omega⟩
  have HNR : Hid (n = row.length ∧ n ≤ nn) := Lib.hid ⟨hnr, by omega⟩
  have hz1 := block_lt_of_cell c1
  have HGS := Lib.hid hg.so
  obtain ⟨res, hres⟩ : ∃ r, r = fitsB (VL.map Vr.v) (EL.map Er.e) NS LS row := ⟨_, rfl⟩
  have HYES : Hid ((∀ (i : Nat) (v : Int), row[i]? = some v → v ∈ candP (VL.map Vr.v) NS i ∧ v ∉ row.take i) → (∀ l ∈ LS, l.fr < n → l.tt < n → linkP (EL.map Er.e) row l) → res = true) := Lib.hid (fun h1 h2 => by
    rw [hres]; exact fitsB_iff.2 ⟨h1, by rw [← hnr]; exact h2⟩)
  have HNO : Hid (¬ ((∀ (i : Nat) (v : Int), row[i]? = some v → v ∈ candP (VL.map Vr.v) NS i ∧ v ∉ row.take i) ∧ ∀ l ∈ LS, l.fr < n → l.tt < n → linkP (EL.map Er.e) row l) → res = false) := Lib.hid (fun h => by
    rw [hres]
    cases hf : fitsB (VL.map Vr.v) (EL.map Er.e) NS LS row
    · rfl
    · exact absurd (by have := fitsB_iff.1 hf; rw [← hnr] at this; exact this) h)
  rw [← hnn, ← hnl, ← hnr, ← hres]
  obtain ⟨W, hW⟩ : ∃ W, W = w.alloc (.cells #[.slice na nn nc, .slice la nl lc] 116) := ⟨_, rfl⟩
  obtain ⟨pb, hpb⟩ : ∃ b, b = w.heap.size := ⟨_, rfl⟩
  have hBW : Below w.heap.size w W := by rw [hW]; exact below_box _ _
  have e1 : W.heap[pb]? = some (.cells #[.slice na nn nc, .slice la nl lc] 116 (0, 0)) := by rw [hW, hpb]; exact heap_new w _
  have HPC : Hid (∀ u, Below W.heap.size W u → u.cell? ⟨pb, 0, none⟩ = some (.slice na nn nc) ∧ u.cell? ⟨pb, 1, none⟩ = some (.slice la nl lc) ∧ pb < u.heap.size) := Lib.hid (fun u hu => by
    have g1 := (hu.block _ (Array.getElem?_eq_some_iff.1 e1).1).trans e1
    exact ⟨by rw [cell_of_blk g1]; rfl, by rw [cell_of_blk g1]; rfl, (Array.getElem?_eq_some_iff.1 g1).1⟩)
  have HBW := Lib.hid hBW
  have HW := Lib.hid hW
  have HPB := Lib.hid hpb
  have HVN := Lib.hid (hn.below hBW)
  have HVL := Lib.hid (hl.below hBW)
  have HVR := Lib.hid (hv.below hBW)
  have HG := Lib.hid (hg.below hBW)
  have HC1 : Hid (∀ u, Below W.heap.size W u → u.cell? ⟨rb, 1, none⟩ = some (.slice ea EL.length ec) ∧ kEr.V u ea EL) := Lib.hid (fun u hu => ⟨below_cell (below_then hBW hu) 1 hz1 c1, he.below (below_then hBW hu)⟩)
  have HEL := Lib.hid hel
  have HRL : Hid (∀ l ∈ LS, rightLk nn l = true) := Lib.hid (by rw [hnn]; exact hr)
  clear hn hl hr l1 l2 hnn hnl hnr hres hW hpb hBW e1 hv hlen hg c1 he hel hz1
  have hnn9 : nn ≤ 1000 := HNN.out.2
  have hnl9 : nl ≤ 1000 := HNL.out.2
  have hn9 : n ≤ 1000 := Nat.le_trans HNR.out.2 hnn9
  go_enter Tryz.func129, Tryz.ntmps129
  go_upto_region 1 with fail
  rw [← HPB.out, ← HW.out]
  go_wp2_with fail
  go_loopw [7] (fun i wr => ∃ j : Nat, j ≤ n ∧ i = .int .i64 j ∧ Hid (∀ (i : Nat) (v : Int), i < j → row[i]? = some v → v ∈ candP (VL.map Vr.v) NS i ∧ v ∉ row.take i) ∧ Hid (Below W.heap.size W wr)) (fun i _ => n - (intOf i).toNat)
  case atStart => exact ⟨0, Nat.zero_le _, rfl, Lib.hid (fun i v h => by omega), Lib.hid (Below.refl _ _)⟩
  case round =>
    obtain ⟨j, hj, rfl, HA, HB⟩ := hrel
    obtain ⟨wo, rfl⟩ : ∃ wo : World, wo = wr := ⟨_, rfl⟩
    have hj9 : j ≤ 1000 := Nat.le_trans hj hn9
    by_cases hlt : j < n
    · obtain ⟨x, hx⟩ : ∃ x, NS[j]? = some x := ⟨_, List.getElem?_eq_getElem (by have := HNR.out.2; rw [HNN.out.1] at this; omega)⟩
      obtain ⟨v, hv⟩ : ∃ v, row[j]? = some v := ⟨_, List.getElem?_eq_getElem (by rw [← HNR.out.1]; exact hlt)⟩
      obtain ⟨b, off, rfl, hat⟩ := HVN.out (fun e => by rw [e] at hx; simp at hx)
      obtain ⟨b2, off2, rfl, hat2⟩ := HVR.out (fun e => by rw [e] at hv; simp at hv)
      have HX := Lib.hid hx
      have HV := Lib.hid hv
      have HMC : Hid (v ∈ candP (VL.map Vr.v) NS j ↔ isN (VL.map Vr.v) x.lab x.key x.low x.high v = true) := Lib.hid (mem_candP HGS.out hx v)
      obtain ⟨lab, key, low, high⟩ := x
      have HFC : Hid (∀ u, Below wo.heap.size wo u → Below wo.heap.size wo u ∧ (u.cell? ⟨pb, 0, none⟩ = some (.slice (some ⟨b, off, none⟩) nn nc) ∧ u.cell? ⟨b2, off2 + j, none⟩ = some (.int .i64 v)) ∧ (u.cell? ⟨b, off + j * 8, none⟩ = some (.string lab) ∧ u.cell? ⟨b, off + j * 8 + 1, none⟩ = some (.string key) ∧ u.cell? ⟨b, off + j * 8 + 2, none⟩ = some (.int .i64 low.kind) ∧ u.cell? ⟨b, off + j * 8 + 3, none⟩ = some (.int .i64 low.n) ∧ u.cell? ⟨b, off + j * 8 + 4, none⟩ = some (.string low.s) ∧ u.cell? ⟨b, off + j * 8 + 5, none⟩ = some (.int .i64 high.kind) ∧ u.cell? ⟨b, off + j * 8 + 6, none⟩ = some (.int .i64 high.n) ∧ u.cell? ⟨b, off + j * 8 + 7, none⟩ = some (.string high.s)) ∧ pb < u.heap.size ∧ b < u.heap.size ∧ b2 < u.heap.size) := Lib.hid (fun u hu => by
        have hbb := below_then HB.out hu
        obtain ⟨c0, c1, cl⟩ := HPC.out u hbb
        obtain ⟨q0, q1, q2, q3, q4, q5, q6, q7⟩ := kNd_cells (hat.below hbb) hx
        have r0 := kI_cell (hat2.below hbb) hv
        exact ⟨hu, ⟨c0, r0⟩, ⟨q0, q1, q2, q3, q4, q5, q6, q7⟩, cl, (hat.below hbb).lt, (hat2.below hbb).lt⟩)
      obtain ⟨ok, hok⟩ : ∃ q, isN (VL.map Vr.v) lab key low high v = q := ⟨_, rfl⟩
      have HIS : Hid (∀ u, Below wo.heap.size wo u → Calls Tryz.prog 125 #[.pointer (some ⟨rb, 0, none⟩), .agg #[.string lab, .string key, .int .i64 low.kind, .int .i64 low.n, .string low.s, .int .i64 high.kind, .int .i64 high.n, .string high.s], .int .i64 v] u fun e w' => e = .returned (.bool ok) ∧ Below u.heap.size u w') := Lib.hid (fun u hu => by
        rw [← hok]
        exact r17is_any (HG.out.below (below_then HB.out hu)) lab key low high v)
      simp only at HMC
      rw [hok] at HMC
      have hjn : (j : Int) < (n : Int) := by omega
      have hjnn : (j : Int) < (nn : Int) := by have := HNR.out.2; omega
      clear hx hv hat hat2 hok
      go_upto_region 4 with fail
      go_cut [28] from 17 to 28 (fun s28 wc => ∃ u : World, u = wc ∧ s28 = .bool (!ok) ∧ Hid (Below wo.heap.size wo u))
      case first =>
        go_region_held3 (fun u => Below wo.heap.size wo u ∧ (u.cell? ⟨pb, 0, none⟩ = some (.slice (some ⟨b, off, none⟩) nn nc) ∧ u.cell? ⟨b2, off2 + j, none⟩ = some (.int .i64 v)) ∧ (u.cell? ⟨b, off + j * 8, none⟩ = some (.string lab) ∧ u.cell? ⟨b, off + j * 8 + 1, none⟩ = some (.string key) ∧ u.cell? ⟨b, off + j * 8 + 2, none⟩ = some (.int .i64 low.kind) ∧ u.cell? ⟨b, off + j * 8 + 3, none⟩ = some (.int .i64 low.n) ∧ u.cell? ⟨b, off + j * 8 + 4, none⟩ = some (.string low.s) ∧ u.cell? ⟨b, off + j * 8 + 5, none⟩ = some (.int .i64 high.kind) ∧ u.cell? ⟨b, off + j * 8 + 6, none⟩ = some (.int .i64 high.n) ∧ u.cell? ⟨b, off + j * 8 + 7, none⟩ = some (.string high.s)) ∧ pb < u.heap.size ∧ b < u.heap.size ∧ b2 < u.heap.size)
          (first | exact HFC.out _ (Below.refl _ _).drew | exact HFC.out _ HBC.out)
          ((go_at_call 125; (refine (HIS.out _ (by go_split_ands; assumption)).mono ?_); rintro e wc ⟨rfl, hbc⟩; have HBC := Lib.hid (below_then (show Below wo.heap.size wo _ by go_split_ands; assumption) hbc)))
        all_goals
          go_wp2_with fail
          go_meet
          exact ⟨_, rfl, rfl, HBC⟩
      case rest =>
      obtain ⟨u, rfl, rfl, HU⟩ := hcut
      apply_assumption
      have HBU : Hid (Below W.heap.size W u) := Lib.hid (below_then HB.out HU.out)
      cases ok
      case false =>
        have HR : Hid (res = false) := Lib.hid (HNO.out (fun h => by have := HMC.out.1 (h.1 j v HV.out).1; cases this))
        go_wp2_with fail
        go_ret
        exact ⟨by rw [HR.out]; rfl, below_then HBW.out HBU.out⟩
      case true =>
      have HRC : Hid (∀ (u' : World) (i : Nat) (y : Int), Below u.heap.size u u' → row[i]? = some y → u'.cell? ⟨b2, off2 + i, none⟩ = some (.int .i64 y) ∧ b2 < u'.heap.size) := Lib.hid (fun u' i y hu' hy => by
        obtain ⟨b', o', e, hat⟩ := HVR.out (fun e => by rw [e] at hy; simp at hy)
        cases e
        have := hat.below (below_then HBU.out hu')
        exact ⟨kI_cell this hy, this.lt⟩)
      clear HFC HIS
      go_wp2_with fail
      go_loopw [8] (fun i wr => ∃ k : Nat, k ≤ j ∧ i = .int .i64 k ∧ Hid (∀ y ∈ row.take k, y ≠ v) ∧ Hid (Below u.heap.size u wr)) (fun i _ => j - (intOf i).toNat)
      case atStart => exact ⟨0, Nat.zero_le _, rfl, Lib.hid (fun y hy => by simp at hy), Lib.hid (Below.refl _ _)⟩
      case round =>
        obtain ⟨k, hk, rfl, HA2, HB2⟩ := hrel
        obtain ⟨wo2, rfl⟩ : ∃ wo : World, wo = wr := ⟨_, rfl⟩
        have hk9 : k ≤ 1000 := Nat.le_trans hk hj9
        by_cases hlt2 : k < j
        · obtain ⟨y, hy⟩ : ∃ y, row[k]? = some y := ⟨_, List.getElem?_eq_getElem (by rw [← HNR.out.1]; omega)⟩
          have r0 := (HRC.out wo2 k y HB2.out hy).1
          have r1 := (HRC.out wo2 j v HB2.out HV.out).1
          have hb2 := (HRC.out wo2 k y HB2.out hy).2
          have HY := Lib.hid hy
          have hkn : (k : Int) < (n : Int) := by omega
          have HMEM : Hid (y = v → v ∈ row.take j) := Lib.hid (fun e => by
            rw [← e]
            exact List.mem_iff_getElem?.2 ⟨k, by rw [List.getElem?_take, if_pos hlt2]; exact hy⟩)
          clear hy
          by_cases he : y = v
          · have s1 : (y == v) = true := by simpa using he
            have HR : Hid (res = false) := Lib.hid (HNO.out (fun h => (h.1 j v HV.out).2 (HMEM.out he)))
            clear he
            go_wp2_with fail
            go_quiet (fail)
            go_wp2_with fail
            go_ret
            exact ⟨by rw [HR.out]; rfl, below_then HBW.out (below_then HBU.out (below_drewN HB2.out _))⟩
          · have s1 : (y == v) = false := by simpa using he
            have HE := Lib.hid he
            clear he
            go_wp2_with fail
            go_quiet (fail)
            go_wp2_with fail
            refine ⟨⟨k + 1, by omega, by go_num, Lib.hid (fun z hz => ?_), Lib.hid (below_drewN HB2.out _)⟩, by simp [intOf]; omega⟩
            rw [List.take_add_one, HY.out] at hz
            rcases List.mem_append.1 hz with hz | hz
            · exact HA2.out z hz
            · simp at hz; rw [hz]; exact HE.out
        · obtain rfl : k = j := by omega
          go_wp2_with fail
          refine ⟨⟨k + 1, by omega, by go_num, Lib.hid (fun i z hi hz => ?_), Lib.hid (below_then HBU.out HB2.out)⟩, by simp [intOf]; omega⟩
          by_cases hik : i < k
          · exact HA.out i z hik hz
          · obtain rfl : i = k := by omega
            rw [HV.out] at hz
            cases hz
            exact ⟨HMC.out.2 trivial, fun hm => HA2.out _ hm rfl⟩
    · obtain rfl : j = n := by omega
      have HALL : Hid (∀ (i : Nat) (v : Int), row[i]? = some v → v ∈ candP (VL.map Vr.v) NS i ∧ v ∉ row.take i) := Lib.hid (fun i v hv => HA.out i v (by rw [HNR.out.1]; exact (List.getElem?_eq_some_iff.1 hv).1) hv)
      go_wp2_with fail
      go_loopw [9] (fun i wr => ∃ k : Nat, k ≤ nl ∧ i = .int .i64 k ∧ Hid (∀ l ∈ LS.take k, l.fr < j → l.tt < j → linkP (EL.map Er.e) row l) ∧ Hid (Below W.heap.size W wr)) (fun i _ => nl - (intOf i).toNat)
      case atStart => exact ⟨0, Nat.zero_le _, rfl, Lib.hid (fun l hl => by simp at hl), HB⟩
      case round =>
        obtain ⟨k, hk, rfl, HA2, HB2⟩ := hrel
        obtain ⟨wo2, rfl⟩ : ∃ wo : World, wo = wr := ⟨_, rfl⟩
        have hk9 : k ≤ 1000 := Nat.le_trans hk hnl9
        obtain ⟨c0, c1, cl⟩ := HPC.out wo2 HB2.out
        by_cases hlt2 : k < nl
        · obtain ⟨x, hx⟩ : ∃ x, LS[k]? = some x := ⟨_, List.getElem?_eq_getElem (by rw [← HNL.out.1]; exact hlt2)⟩
          obtain ⟨b, off, rfl, hat⟩ := HVL.out (fun e => by rw [e] at hx; simp at hx)
          obtain ⟨q0, q1, q2⟩ := kLk_cells (hat.below HB2.out) hx
          have hlb := (hat.below HB2.out).lt
          obtain ⟨⟨a1, a2⟩, a3, a4⟩ := rightLk_in (HRL.out x (List.mem_of_getElem? hx))
          have HX := Lib.hid hx
          obtain ⟨fr, tt, lab⟩ := x
          simp only at a1 a2 a3 a4
          obtain ⟨i1, rfl⟩ : ∃ i : Nat, fr = i := ⟨fr.toNat, by omega⟩
          obtain ⟨i2, rfl⟩ : ∃ i : Nat, tt = i := ⟨tt.toNat, by omega⟩
          obtain ⟨U, hU⟩ : ∃ U, U = wo2.alloc (.cells #[.int .i64 i1, .int .i64 i2, .string lab] 128) := ⟨_, rfl⟩
          obtain ⟨xb, hxb⟩ : ∃ b, b = wo2.heap.size := ⟨_, rfl⟩
          have eX : U.heap[xb]? = some (.cells #[.int .i64 i1, .int .i64 i2, .string lab] 128 (0, 0)) := by rw [hU, hxb]; exact heap_new _ _
          have HBU : Hid (Below W.heap.size W U) := Lib.hid (below_then HB2.out (by rw [hU]; exact below_box _ _))
          have x0 : U.cell? ⟨xb, 0, none⟩ = some (.int .i64 i1) := by rw [cell_of_blk eX]; rfl
          have x1 : U.cell? ⟨xb, 1, none⟩ = some (.int .i64 i2) := by rw [cell_of_blk eX]; rfl
          have x2 : U.cell? ⟨xb, 2, none⟩ = some (.string lab) := by rw [cell_of_blk eX]; rfl
          have xl := (Array.getElem?_eq_some_iff.1 eX).1
          have HU := Lib.hid hU
          have HXB := Lib.hid hxb
          have HEX := Lib.hid eX
          have HGO : Hid (((i1 : Int) < j → (i2 : Int) < j → linkP (EL.map Er.e) row ⟨i1, i2, lab⟩) → ∀ l ∈ LS.take (k + 1), l.fr < j → l.tt < j → linkP (EL.map Er.e) row l) := Lib.hid (fun h y hy => by
            rw [List.take_add_one, HX.out] at hy
            rcases List.mem_append.1 hy with hy | hy
            · exact HA2.out y hy
            · simp at hy; rw [hy]; exact h)
          clear hx hat hU hxb eX a1 a2 a3 a4
          by_cases g1 : (i1 : Int) < (j : Int)
          case neg =>
            have s1 : decide ((i1 : Int) < (j : Int)) = false := decide_eq_false g1
            have s1' : decide (i1 < j) = false := decide_eq_false (by omega)
            have HG := Lib.hid (HGO.out (fun h => absurd h g1))
            clear g1
            go_upto_region 15 with fail
            rw [← HXB.out, ← HU.out]
            go_quiet (fail)
            go_wp2_with fail
            exact ⟨⟨k + 1, by omega, by go_num, HG, Lib.hid (below_drewN HBU.out _)⟩, by simp [intOf]; omega⟩
          by_cases g2 : (i2 : Int) < (j : Int)
          case neg =>
            have s1 : decide ((i1 : Int) < (j : Int)) = true := decide_eq_true g1
            have s1' : decide (i1 < j) = true := decide_eq_true (by omega)
            have s2 : decide ((i2 : Int) < (j : Int)) = false := decide_eq_false g2
            have s2' : decide (i2 < j) = false := decide_eq_false (by omega)
            have HG := Lib.hid (HGO.out (fun _ h => absurd h g2))
            clear g1 g2
            go_upto_region 15 with fail
            rw [← HXB.out, ← HU.out]
            go_quiet (fail)
            go_wp2_with fail
            exact ⟨⟨k + 1, by omega, by go_num, HG, Lib.hid (below_drewN HBU.out _)⟩, by simp [intOf]; omega⟩
          obtain ⟨y1, hy1⟩ : ∃ y, row[i1]? = some y := ⟨_, List.getElem?_eq_getElem (by rw [← HNR.out.1]; omega)⟩
          obtain ⟨y2, hy2⟩ : ∃ y, row[i2]? = some y := ⟨_, List.getElem?_eq_getElem (by rw [← HNR.out.1]; omega)⟩
          obtain ⟨b2, off2, rfl, hat2⟩ := HVR.out (fun e => by rw [e] at hy1; simp at hy1)
          have HLP : Hid (linkP (EL.map Er.e) row ⟨i1, i2, lab⟩ ↔ edB (EL.map Er.e) lab y1 y2) := Lib.hid (by
            unfold linkP
            simp only [Int.toNat_natCast, List.getD_eq_getElem?_getD, hy1, hy2, Option.getD_some])
          have HFC : Hid (∀ u, Below U.heap.size U u → Below U.heap.size U u ∧ (u.cell? ⟨xb, 0, none⟩ = some (.int .i64 i1) ∧ u.cell? ⟨xb, 1, none⟩ = some (.int .i64 i2) ∧ u.cell? ⟨xb, 2, none⟩ = some (.string lab)) ∧ (u.cell? ⟨b2, off2 + i1, none⟩ = some (.int .i64 y1) ∧ u.cell? ⟨b2, off2 + i2, none⟩ = some (.int .i64 y2)) ∧ xb < u.heap.size ∧ b2 < u.heap.size) := Lib.hid (fun u hu => by
            have g := (hu.block _ (Array.getElem?_eq_some_iff.1 HEX.out).1).trans HEX.out
            have ha := hat2.below (below_then HBU.out hu)
            exact ⟨hu, ⟨by rw [cell_of_blk g]; rfl, by rw [cell_of_blk g]; rfl, by rw [cell_of_blk g]; rfl⟩, ⟨kI_cell ha hy1, kI_cell ha hy2⟩, (Array.getElem?_eq_some_iff.1 g).1, ha.lt⟩)
          obtain ⟨eb, heb⟩ : ∃ q, decide (edB (EL.map Er.e) lab y1 y2) = q := ⟨_, rfl⟩
          have HED : Hid (∀ u, Below U.heap.size U u → Calls Tryz.prog 226 #[.pointer (some ⟨rb, 0, none⟩), .int .i64 y1, .int .i64 y2, .string lab] u fun e w' => e = .returned (.bool eb) ∧ Below u.heap.size u w') := Lib.hid (fun u hu => by
            obtain ⟨h1, h2⟩ := HC1.out u (below_then HBU.out hu)
            rw [← heb]
            exact r18edge_any h1 h2 HEL.out y1 y2 lab)
          have HEB := Lib.hid heb
          have s1 : decide ((i1 : Int) < (j : Int)) = true := decide_eq_true g1
          have s1' : decide (i1 < j) = true := decide_eq_true (by omega)
          have s2 : decide ((i2 : Int) < (j : Int)) = true := decide_eq_true g2
          have s2' : decide (i2 < j) = true := decide_eq_true (by omega)
          have HG12 : Hid ((i1 : Int) < (j : Int) ∧ (i2 : Int) < (j : Int)) := Lib.hid ⟨g1, g2⟩
          clear hy1 hy2 hat2 heb
          go_upto_region 15 with fail
          rw [← HXB.out, ← HU.out]
          clear x0 x1 x2 xl q0 q1 q2 hlb c0 c1 cl
          go_cut [83] from 55 to 83 (fun s83 wc => ∃ u : World, u = wc ∧ s83 = .bool (!eb) ∧ Hid (Below U.heap.size U u))
          case first =>
            go_region_held3 (fun u => Below U.heap.size U u ∧ (u.cell? ⟨xb, 0, none⟩ = some (.int .i64 i1) ∧ u.cell? ⟨xb, 1, none⟩ = some (.int .i64 i2) ∧ u.cell? ⟨xb, 2, none⟩ = some (.string lab)) ∧ (u.cell? ⟨b2, off2 + i1, none⟩ = some (.int .i64 y1) ∧ u.cell? ⟨b2, off2 + i2, none⟩ = some (.int .i64 y2)) ∧ xb < u.heap.size ∧ b2 < u.heap.size)
              (first | exact HFC.out _ (Below.refl _ _).drew | exact HFC.out _ HBC.out)
              ((go_at_call 226; (refine (HED.out _ (by go_split_ands; assumption)).mono ?_); rintro e wc ⟨rfl, hbc⟩; have HBC := Lib.hid (below_then (show Below U.heap.size U _ by go_split_ands; assumption) hbc)))
            all_goals
              go_wp2_with fail
              go_meet
              exact ⟨_, rfl, rfl, HBC⟩
          case rest =>
          obtain ⟨u, rfl, rfl, HUU⟩ := hcut
          apply_assumption
          have HBU2 : Hid (Below W.heap.size W u) := Lib.hid (below_then HBU.out HUU.out)
          clear s1 s1' s2 s2' g1 g2
          cases eb
          case false =>
            have HR : Hid (res = false) := Lib.hid (HNO.out (fun h => by
              have h2 := h.2 _ (List.mem_of_getElem? HX.out) HG12.out.1 HG12.out.2
              exact absurd (HLP.out.1 h2) (of_decide_eq_false HEB.out)))
            go_wp2_with fail
            go_ret
            exact ⟨by rw [HR.out]; rfl, below_then HBW.out HBU2.out⟩
          case true =>
            have HG := Lib.hid (HGO.out (fun _ _ => HLP.out.2 (of_decide_eq_true HEB.out)))
            go_wp2_with fail
            exact ⟨⟨k + 1, by omega, by go_num, HG, HBU2⟩, by simp [intOf]; omega⟩
        · obtain rfl : k = nl := by omega
          have HR : Hid (res = true) := Lib.hid (HYES.out HALL.out (fun l hl => HA2.out l (by rw [HNL.out.1, List.take_length]; exact hl)))
          go_wp2_with fail
          go_ret
          exact ⟨by rw [HR.out]; rfl, below_then HBW.out HB2.out⟩
end Go.Proofs.YtonilojjahfboaaGreat
namespace Go.Proofs.YtonilojjahfboaaGreat
open Go.RowKit Go.Maps

/-- the rows of one level by the first i rows, and of the next one by the first j vertices -/
noncomputable def nextR (VL : List Vr) (E : List Eg) (NS : List Nd) (LS : List Lk) (L : List (List Int)) (i j : Nat) : List (List Int) :=
  (L.take i).flatMap (refExt (VL.map Vr.v) E NS LS) ++ (match L[i]? with
    | some row => (((VL.take j).map (fun x => x.v.id)).filter (fun v => fitsB (VL.map Vr.v) E NS LS (row ++ [v]))).map (fun v => row ++ [v])
    | none => [])
section
variable {VL : List Vr} {E : List Eg} {NS : List Nd} {LS : List Lk} {L : List (List Int)} {i j : Nat} {row : List Int} {x : Vr}
theorem ids_map (VL : List Vr) : (VL.map Vr.v).map Vt.id = VL.map (fun x => x.v.id) := by rw [List.map_map]; rfl
theorem nextR_start (h : L[i]? = some row) : nextR VL E NS LS L i 0 = (L.take i).flatMap (refExt (VL.map Vr.v) E NS LS) := by
  unfold nextR; rw [h]; simp
theorem nextR_yes (h : L[i]? = some row) (hx : VL[j]? = some x) (hf : fitsB (VL.map Vr.v) E NS LS (row ++ [x.v.id]) = true) : nextR VL E NS LS L i (j + 1) = nextR VL E NS LS L i j ++ [row ++ [x.v.id]] := by
  unfold nextR
  rw [h]
  simp only
  rw [List.take_add_one, hx, List.map_append, List.filter_append, List.map_append, List.append_assoc]
  simp [hf]
theorem nextR_no (h : L[i]? = some row) (hx : VL[j]? = some x) (hf : fitsB (VL.map Vr.v) E NS LS (row ++ [x.v.id]) = false) : nextR VL E NS LS L i (j + 1) = nextR VL E NS LS L i j := by
  unfold nextR
  rw [h]
  simp only
  rw [List.take_add_one, hx, List.map_append, List.filter_append, List.map_append]
  simp [hf]
theorem nextR_end (h : L[i]? = some row) (hj : VL.length ≤ j) : nextR VL E NS LS L i j = (L.take (i + 1)).flatMap (refExt (VL.map Vr.v) E NS LS) := by
  unfold nextR
  rw [h, List.take_of_length_le hj, List.take_add_one, h, List.flatMap_append]
  simp only [Option.toList_some, List.flatMap_cons, List.flatMap_nil, List.append_nil]
  unfold refExt
  rw [ids_map]
theorem nextR_len (h : L[i]? = some row) (j : Nat) : (nextR VL E NS LS L i j).length ≤ (L.flatMap (refExt (VL.map Vr.v) E NS LS)).length := by
  have h1 : (nextR VL E NS LS L i j).length ≤ ((L.take (i + 1)).flatMap (refExt (VL.map Vr.v) E NS LS)).length := by
    rw [← nextR_end (VL := VL) h (Nat.le_refl _)]
    unfold nextR
    rw [h]
    simp only [List.length_append, List.length_map]
    have h2 : (((VL.take j).map (fun x => x.v.id)).filter (fun v => fitsB (VL.map Vr.v) E NS LS (row ++ [v]))).length ≤ (((VL.take VL.length).map (fun x => x.v.id)).filter (fun v => fitsB (VL.map Vr.v) E NS LS (row ++ [v]))).length := by
      rw [List.take_length]
      exact ((List.take_sublist j VL).map _ |>.filter _).length_le
    omega
  refine Nat.le_trans h1 ?_
  have h3 : L.flatMap (refExt (VL.map Vr.v) E NS LS) = (L.take (i + 1)).flatMap (refExt (VL.map Vr.v) E NS LS) ++ (L.drop (i + 1)).flatMap (refExt (VL.map Vr.v) E NS LS) := by
    rw [← List.flatMap_append, List.take_append_drop]
  rw [h3, List.length_append]
  omega
end
theorem app_below {α : Type} {k : RowK Tryz.prog α} {u w w' : World} {n B : Nat} {v v' : Value} {l l' : List α} (h : k.Own w B v l) (hA : k.App w B v l' v' w') (hb : Below n u w) (hn : n ≤ u.heap.size) (hB : n ≤ B) : Below n u w' := by
  obtain ⟨_, gA, _⟩ := hA
  refine hb.trans ⟨gA.os, gA.tape, gA.output, gA.size, fun j hj => gA.block j (Nat.lt_of_lt_of_le hj (Nat.le_trans hn hb.size)) (fun e => ?_)⟩
  have := (h.lt j e.symm).1
  omega
def RwPost (w : World) (lev : List (List Int)) (e : Ending) (w' : World) : Prop := ∃ a c R, e = .returned (.slice a (List.length R) c) ∧ R.map Ws.l = lev ∧ RowsI w' w.heap.size (.slice a R.length c) R ∧ Below w.heap.size w w'
set_option maxRecDepth 100000 in
set_option maxHeartbeats 8000000 in
theorem r18rows_any {w : World} {rb : Nat} {VL : List Vr} {EL : List Er} {ea : Option Addr} {ec : Nat} (hg : RgV w rb VL) (c1 : w.cell? ⟨rb, 1, none⟩ = some (.slice ea EL.length ec)) (he : kEr.V w ea EL) (hel : EL.length ≤ 1000000) (na la : Option Addr) (nc lc : Nat) (NS : List Nd) (LS : List Lk)
    (hn : kNd.V w na NS) (hl : kLk.V w la LS) (hr : ∀ l ∈ LS, rightLk NS.length l = true) (l1 : NS.length ≤ 1000) (l2 : LS.length ≤ 1000) (hbig : ∀ k, k ≤ NS.length → (refLev (VL.map Vr.v) (EL.map Er.e) NS LS k).length ≤ 1000000) (hvl : VL.length ≤ 1000) :
    Calls Tryz.prog 52 #[.pointer (some ⟨rb, 0, none⟩), .agg #[.slice na NS.length nc, .slice la LS.length lc]] w (RwPost w (refLev (VL.map Vr.v) (EL.map Er.e) NS LS NS.length)) := by
  obtain ⟨nn, hnn⟩ : ∃ n, n = NS.length := ⟨_, rfl⟩
  obtain ⟨nl, hnl⟩ : ∃ n, n = LS.length := ⟨_, rfl⟩
  obtain ⟨nv, hnv⟩ : ∃ n, n = VL.length := ⟨_, rfl⟩
  have HNN : Hid (nn = NS.length ∧ nn ≤ 1000) := Lib.hid ⟨hnn, by omega⟩
  have HNL : Hid (nl = LS.length) := Lib.hid hnl
  have HNV : Hid (nv = VL.length ∧ nv ≤ 1000) := Lib.hid ⟨hnv, by omega⟩
  have hz1 := block_lt_of_cell c1
  obtain ⟨lev, hlev⟩ : ∃ f, f = refLev (VL.map Vr.v) (EL.map Er.e) NS LS := ⟨_, rfl⟩
  have HLEV := Lib.hid hlev
  have HBIG : Hid (∀ k, k ≤ nn → (lev k).length ≤ 1000000) := Lib.hid (by rw [hlev, hnn]; exact hbig)
  obtain ⟨va, vc, hg0, hgv⟩ := hg.ex
  have hz0 := block_lt_of_cell hg0
  obtain ⟨W, hW⟩ : ∃ W, W = w.alloc (.cells #[.slice na nn nc, .slice la nl lc] 116) := ⟨_, rfl⟩
  obtain ⟨pb, hpb⟩ : ∃ b, b = w.heap.size := ⟨_, rfl⟩
  have hBW : Below w.heap.size w W := by rw [hW]; exact below_box _ _
  have e1 : W.heap[pb]? = some (.cells #[.slice na nn nc, .slice la nl lc] 116 (0, 0)) := by rw [hW, hpb]; exact heap_new w _
  have HPC : Hid (∀ u, Below W.heap.size W u → u.cell? ⟨pb, 0, none⟩ = some (.slice na nn nc) ∧ u.cell? ⟨pb, 1, none⟩ = some (.slice la nl lc) ∧ pb < u.heap.size ∧ u.cell? ⟨rb, 0, none⟩ = some (.slice va nv vc) ∧ kVr.V u va VL ∧ rb < u.heap.size) := Lib.hid (fun u hu => by
    have g1 := (hu.block _ (Array.getElem?_eq_some_iff.1 e1).1).trans e1
    have hwu := below_then hBW hu
    exact ⟨by rw [cell_of_blk g1]; rfl, by rw [cell_of_blk g1]; rfl, (Array.getElem?_eq_some_iff.1 g1).1, by rw [hnv]; exact below_cell hwu 0 hz0 hg0, hgv.below hwu, Nat.lt_of_lt_of_le hz0 hwu.size⟩)
  have HFT : Hid (∀ (u : World) (ra : Option Addr) (rc : Nat) (row : List Int), Below W.heap.size W u → kI.V u ra row → row.length ≤ nn → Calls Tryz.prog 129 #[.pointer (some ⟨rb, 0, none⟩), .agg #[.slice na nn nc, .slice la nl lc], .slice ra row.length rc] u fun e w' => e = .returned (.bool (fitsB (VL.map Vr.v) (EL.map Er.e) NS LS row)) ∧ Below u.heap.size u w') := Lib.hid (fun u ra rc row hu hv hlen => by
    have hwu := below_then hBW hu
    rw [hnn, hnl]
    exact r18fits_any (hg.below hwu) (below_cell hwu 1 hz1 c1) (he.below hwu) hel na la ra nc lc rc NS LS row (hn.below hwu) (hl.below hwu) hr l1 l2 hv (by omega))
  rw [← hlev, ← hnn, ← hnl]
  have HBW := Lib.hid hBW
  have HW := Lib.hid hW
  have HPB := Lib.hid hpb
  have hnn9 : nn ≤ 1000 := HNN.out.2
  have hnv9 : nv ≤ 1000 := HNV.out.2
  clear hn hl hr l1 l2 hnn hnl hnv hW hpb hBW e1 hg c1 he hel hz1 hlev hbig hg0 hgv hz0 hvl
  obtain ⟨W1, hW1⟩ : ∃ W1, W1 = W.alloc (.cells #[.slice none 0 0] 42) := ⟨_, rfl⟩
  have HI0 : Hid (RowsI W1 W.heap.size (.slice (some ⟨W.heap.size, 0, none⟩) 1 1) [⟨none, 0, []⟩] ∧ [(⟨none, 0, []⟩ : Ws)].map Ws.l = lev 0 ∧ Below W.heap.size W W1) := Lib.hid ⟨⟨by
      rw [hW1]
      exact RowK.Own.new (k := kW2) (l := [⟨none, 0, []⟩]) (heap_new W _) (Nat.le_refl _) rfl (by simp [maxLen]), fun x hx => by
      rw [List.mem_singleton.1 hx]
      exact RowK.Own.nil kI _ _⟩, by rw [HLEV.out]; rfl, by rw [hW1]; exact below_box _ _⟩
  have HW1 := Lib.hid hW1
  clear hW1
  go_enter Tryz.func52, Tryz.ntmps52
  go_upto_region 1 with fail
  rw [← HPB.out, ← HW.out]
  go_upto_region 2 with fail
  rw [← HW1.out]
  go_wp2_with fail
  go_loopw [5, 6] (fun rv i wr => ∃ (k : Nat) (ra : Option Addr) (rc : Nat) (R : List Ws) (n : Nat), k ≤ nn ∧ i = .int .i64 k ∧ rv = .slice ra n rc ∧ Hid (n = R.length ∧ RowsI wr W.heap.size (.slice ra R.length rc) R ∧ R.map Ws.l = lev k ∧ Below W.heap.size W wr)) (fun _ i _ => nn - (intOf i).toNat)
  case atStart => exact ⟨0, _, _, [⟨none, 0, []⟩], 1, Nat.zero_le _, rfl, rfl, Lib.hid ⟨rfl, HI0.out⟩⟩
  case round =>
    clear HI0
    obtain ⟨k, ra, rc, R, n, hk, rfl, rfl, HI⟩ := hrel
    obtain ⟨wo, rfl⟩ : ∃ wo : World, wo = wr := ⟨_, rfl⟩
    have hk9 : k ≤ 1000 := Nat.le_trans hk hnn9
    have HNR : Hid (n = R.length ∧ n = (lev k).length ∧ n ≤ 1000000) := Lib.hid (by
      have h1 := congrArg List.length HI.out.2.2.1
      rw [List.length_map] at h1
      exact ⟨HI.out.1, by rw [HI.out.1]; exact h1, by rw [HI.out.1, h1]; exact HBIG.out k hk⟩)
    have hn9 : n ≤ 1000000 := HNR.out.2.2
    obtain ⟨p0, p1, pl, g0, _, gl⟩ := HPC.out wo HI.out.2.2.2
    by_cases hlt : k < nn
    · have HNX : Hid (lev (k + 1) = (lev k).flatMap (refExt (VL.map Vr.v) (EL.map Er.e) NS LS)) := Lib.hid (by rw [HLEV.out]; rfl)
      have HLT : Hid (k + 1 ≤ nn) := Lib.hid hlt
      have HRO : Hid (RowsI wo W.heap.size (.slice ra n rc) R) := Lib.hid (by rw [HNR.out.1]; exact HI.out.2.1)
      go_wp2_with fail
      clear p0 p1 pl g0 gl
      go_loopw [7, 8] (fun nx i wr => ∃ (j : Nat) (xa : Option Addr) (xc : Nat) (N : List Ws) (m : Nat), j ≤ n ∧ i = .int .i64 j ∧ nx = .slice xa m xc ∧ Hid (m = N.length ∧ RowsI wr wo.heap.size (.slice xa N.length xc) N ∧ RowsI wr W.heap.size (.slice ra n rc) R ∧ N.map Ws.l = ((lev k).take j).flatMap (refExt (VL.map Vr.v) (EL.map Er.e) NS LS) ∧ Below wo.heap.size wo wr)) (fun _ i _ => n - (intOf i).toNat)
      case atStart => exact ⟨0, none, 0, [], 0, Nat.zero_le _, rfl, rfl, Lib.hid ⟨rfl, RowsI.nil _ _, HRO.out, by simp, Below.refl _ _⟩⟩
      case round =>
        obtain ⟨j, xa, xc, N, m, hj, rfl, rfl, HJ⟩ := hrel
        obtain ⟨wp, rfl⟩ : ∃ wo : World, wo = wr := ⟨_, rfl⟩
        by_cases hlt2 : j < n
        · obtain ⟨y, hy⟩ : ∃ y, R[j]? = some y := ⟨_, List.getElem?_eq_getElem (by rw [← HNR.out.1]; exact hlt2)⟩
          have HY := Lib.hid hy
          have HLJ : Hid ((lev k)[j]? = some y.l) := Lib.hid (by rw [← HI.out.2.2.1, List.getElem?_map, hy]; rfl)
          have HYK : Hid (y.l.length ≤ k) := Lib.hid (by
            have h2 : ∀ m, ∀ r ∈ refLev (VL.map Vr.v) (EL.map Er.e) NS LS m, r.length ≤ m := by
              intro m
              induction m with
              | zero => intro r hr; simp [refLev] at hr; rw [hr]; simp
              | succ m ih =>
                intro r hr
                unfold refLev at hr
                obtain ⟨r0, h0, h1⟩ := List.mem_flatMap.1 hr
                unfold refExt at h1
                obtain ⟨v, _, rfl⟩ := List.mem_map.1 h1
                have := ih r0 h0
                simp; omega
            have h3 := List.mem_of_getElem? HLJ.out
            rw [HLEV.out] at h3
            exact h2 k _ h3)
          have HM0 : Hid (m = N.length ∧ RowsI wp wo.heap.size (.slice xa N.length xc) N ∧ RowsI wp W.heap.size (.slice ra n rc) R ∧ N.map Ws.l = nextR VL (EL.map Er.e) NS LS (lev k) j 0 ∧ Below wo.heap.size wo wp) := Lib.hid (by
            rw [nextR_start HLJ.out]; exact HJ.out)
          clear hy
          go_wp2_with fail
          go_loopw [7, 9] (fun nx i wr => ∃ (v : Nat) (xa : Option Addr) (xc : Nat) (N : List Ws) (m : Nat), v ≤ nv ∧ i = .int .i64 v ∧ nx = .slice xa m xc ∧ Hid (m = N.length ∧ RowsI wr wo.heap.size (.slice xa N.length xc) N ∧ RowsI wr W.heap.size (.slice ra n rc) R ∧ N.map Ws.l = nextR VL (EL.map Er.e) NS LS (lev k) j v ∧ Below wo.heap.size wo wr)) (fun _ i _ => nv - (intOf i).toNat)
          case atStart => exact ⟨0, _, _, _, _, Nat.zero_le _, rfl, rfl, HM0⟩
          case round =>
            clear HM0 HJ
            obtain ⟨v, xa, xc, N, m, hv, rfl, rfl, HV⟩ := hrel
            obtain ⟨wq, rfl⟩ : ∃ wo : World, wo = wr := ⟨_, rfl⟩
            have hv9 : v ≤ 1000 := Nat.le_trans hv hnv9
            have HBQ : Hid (Below W.heap.size W wq) := Lib.hid (HI.out.2.2.2.trans (HV.out.2.2.2.2.mono HI.out.2.2.2.size))
            obtain ⟨p0, p1, pl, g0, hvr, gl⟩ := HPC.out wq HBQ.out
            by_cases hlt3 : v < nv
            · obtain ⟨x, hx⟩ : ∃ x, VL[v]? = some x := ⟨_, List.getElem?_eq_getElem (by rw [← HNV.out.1]; exact hlt3)⟩
              obtain ⟨b, off, rfl, hat⟩ := hvr (fun e => by rw [e] at hx; simp at hx)
              obtain ⟨q0, _, _⟩ := kVr_cells hat hx
              have hbl := hat.lt
              obtain ⟨rb2, rc2, hsr, _, _, hat2⟩ := HV.out.2.2.1.o.at' (fun e => by have := HY.out; rw [e] at this; simp at this)
              have r0 := hat2.cells j y HY.out 0 _ rfl
              simp [kW2] at r0
              have hrl := hat2.lt
              have HX := Lib.hid hx
              have HOY := Lib.hid (HV.out.2.2.1.e y (List.mem_of_getElem? HY.out))
              have HYC : Hid (y.a = none → y.c = 0) := Lib.hid (fun e => by
                have h1 := HOY.out
                rw [e] at h1
                exact h1.noneCap)
              have HYV : Hid (kI.V wq y.a y.l) := Lib.hid HOY.out.toV
              have HY9 : Hid (y.l.length ≤ k ∧ k + 1 ≤ nn ∧ nn ≤ 1000) := Lib.hid ⟨HYK.out, HLT.out, hnn9⟩
              have HQL := Lib.hid (And.intro hbl q0)
              clear hx hvr hat hat2
              have HNX9 : Hid (N.length ≤ 1000000) := Lib.hid (by
                have h1 := congrArg List.length HV.out.2.2.2.1
                rw [List.length_map] at h1
                rw [h1]
                refine Nat.le_trans (nextR_len HLJ.out v) ?_
                rw [← HNX.out]
                exact HBIG.out _ HLT.out)
              have HMN := Lib.hid HV.out.1
              have hm9 : m ≤ 1000000 := by rw [HMN.out]; exact HNX9.out
              obtain ⟨b, hb⟩ : ∃ b, fitsB (VL.map Vr.v) (EL.map Er.e) NS LS (y.l ++ [x.v.id]) = b := ⟨_, rfl⟩
              have HFB : Hid (∀ (u : World) (ra : Option Addr) (rc : Nat), Below W.heap.size W u → kI.V u ra (y.l ++ [x.v.id]) → Calls Tryz.prog 129 #[.pointer (some ⟨rb, 0, none⟩), .agg #[.slice na nn nc, .slice la nl lc], .slice ra (y.l.length + 1) rc] u fun e w' => e = .returned (.bool b) ∧ Below u.heap.size u w') := Lib.hid (fun u ra rc hu hv => by
                have h1 := HFT.out u ra rc _ hu hv (by rw [List.length_append, List.length_singleton]; have := HY9.out; omega)
                rw [List.length_append, List.length_singleton, hb] at h1
                exact h1)
              have HBB := Lib.hid hb
              clear hb
              as_aux_lemma =>
              cases b
              case false =>
                go_wp2_with (first
                  | (at_builtin; refine RowK.wpList_app (k := kI) (B := wq.heap.size) (v := .slice none 0 0) (l := []) rfl (.tmp 34) (.tmp 38) rfl rfl (RowK.Own.nil kI _ _) y.a y.l.length y.l y.c rfl rfl HYV.out HYC.out (by have := HY9.out; simp; omega) (Nat.le_refl _) ?_; intro v8 w8 hA; have HA8 : Hid (kI.App wq wq.heap.size (.slice none 0 0) y.l v8 w8) := Lib.hid hA; obtain ⟨a8, c8, hv8⟩ := HA8.out.1.shape; subst hv8; clear hA; have HB8 : Hid (Below wq.heap.size wq w8) := Lib.hid (app_below (RowK.Own.nil kI wq wq.heap.size) HA8.out (Below.refl _ _) (Nat.le_refl _) (Nat.le_refl _)); clear p0 p1 pl g0 gl q0 hbl r0 hrl; obtain ⟨p0, p1, pl, g0, hvr, gl⟩ := HPC.out w8 (below_then HBQ.out HB8.out); have q0 := (below_cell HB8.out _ HQL.out.1 HQL.out.2); have hbl := Nat.lt_of_lt_of_le HQL.out.1 HB8.out.size; clear hvr)
                  | (at_builtin; refine RowK.wpList_app (k := kI) (B := wq.heap.size) (v := .slice a8 y.l.length c8) (l := y.l) rfl (.tmp 40) (.tmp 49) rfl rfl (HA8.out.1.below (below_box w8 (.cells #[.int .i64 x.v.id] 3))) (some ⟨w8.heap.size, 0, none⟩) 1 [x.v.id] 1 rfl rfl (int_new w8 w8.heap.size rfl x.v.id) (fun e => by cases e) (by have := HY9.out; simp; omega) (by have := HB8.out.size; rw [size_alloc]; omega) ?_; intro v9 w9 hA; have HA9 : Hid (kI.App (w8.alloc (.cells #[.int .i64 x.v.id] 3)) wq.heap.size (.slice a8 y.l.length c8) (y.l ++ [x.v.id]) v9 w9) := Lib.hid hA; obtain ⟨a9, c9, hv9⟩ := HA9.out.1.shape; rw [List.length_append, List.length_singleton] at hv9; subst hv9; clear hA; have HB9 : Hid (Below wq.heap.size wq w9) := Lib.hid (app_below (HA8.out.1.below (below_box w8 (.cells #[.int .i64 x.v.id] 3))) HA9.out (below_then HB8.out (below_box w8 _)) (Nat.le_refl _) (Nat.le_refl _)); clear p0 p1 pl g0 gl q0 hbl; obtain ⟨p0, p1, pl, g0, hvr, gl⟩ := HPC.out w9 (below_then HBQ.out HB9.out); clear hvr)
                  | (go_at_call 129; (refine (HFB.out w9 a9 c9 (below_then HBQ.out HB9.out) HA9.out.1.toV).mono ?_); rintro e w10 ⟨rfl, hb10⟩; have HB10 := Lib.hid hb10; clear hb10)
                  | fail)
                exact ⟨⟨v + 1, xa, xc, N, m, hlt3, by go_num, rfl, Lib.hid ⟨HMN.out, HV.out.2.1.below (below_then HB9.out HB10.out), HV.out.2.2.1.below (below_then HB9.out HB10.out), by rw [nextR_no HLJ.out HX.out HBB.out]; exact HV.out.2.2.2.1, below_then HV.out.2.2.2.2 (below_then HB9.out HB10.out)⟩⟩, by simp [intOf]; omega⟩
              case true =>
                go_wp2_with (first
                  | (at_builtin; refine RowK.wpList_app (k := kI) (B := wq.heap.size) (v := .slice none 0 0) (l := []) rfl (.tmp 34) (.tmp 38) rfl rfl (RowK.Own.nil kI _ _) y.a y.l.length y.l y.c rfl rfl HYV.out HYC.out (by have := HY9.out; simp; omega) (Nat.le_refl _) ?_; intro v8 w8 hA; have HA8 : Hid (kI.App wq wq.heap.size (.slice none 0 0) y.l v8 w8) := Lib.hid hA; obtain ⟨a8, c8, hv8⟩ := HA8.out.1.shape; subst hv8; clear hA; have HB8 : Hid (Below wq.heap.size wq w8) := Lib.hid (app_below (RowK.Own.nil kI wq wq.heap.size) HA8.out (Below.refl _ _) (Nat.le_refl _) (Nat.le_refl _)); clear p0 p1 pl g0 gl q0 hbl r0 hrl; obtain ⟨p0, p1, pl, g0, hvr, gl⟩ := HPC.out w8 (below_then HBQ.out HB8.out); have q0 := (below_cell HB8.out _ HQL.out.1 HQL.out.2); have hbl := Nat.lt_of_lt_of_le HQL.out.1 HB8.out.size; clear hvr)
                  | (at_builtin; refine RowK.wpList_app (k := kI) (B := wq.heap.size) (v := .slice a8 y.l.length c8) (l := y.l) rfl (.tmp 40) (.tmp 49) rfl rfl (HA8.out.1.below (below_box w8 (.cells #[.int .i64 x.v.id] 3))) (some ⟨w8.heap.size, 0, none⟩) 1 [x.v.id] 1 rfl rfl (int_new w8 w8.heap.size rfl x.v.id) (fun e => by cases e) (by have := HY9.out; simp; omega) (by have := HB8.out.size; rw [size_alloc]; omega) ?_; intro v9 w9 hA; have HA9 : Hid (kI.App (w8.alloc (.cells #[.int .i64 x.v.id] 3)) wq.heap.size (.slice a8 y.l.length c8) (y.l ++ [x.v.id]) v9 w9) := Lib.hid hA; obtain ⟨a9, c9, hv9⟩ := HA9.out.1.shape; rw [List.length_append, List.length_singleton] at hv9; subst hv9; clear hA; have HB9 : Hid (Below wq.heap.size wq w9) := Lib.hid (app_below (HA8.out.1.below (below_box w8 (.cells #[.int .i64 x.v.id] 3))) HA9.out (below_then HB8.out (below_box w8 _)) (Nat.le_refl _) (Nat.le_refl _)); clear p0 p1 pl g0 gl q0 hbl; obtain ⟨p0, p1, pl, g0, hvr, gl⟩ := HPC.out w9 (below_then HBQ.out HB9.out); clear hvr)
                  | (at_builtin; refine RowK.wpList_app (k := kW2) (B := wo.heap.size) (v := .slice xa m xc) (l := N) rfl (.tmp 55) (.tmp 57) rfl rfl (by rw [HMN.out]; exact (HV.out.2.1.below (below_then (below_then HB9.out HB10.out) (below_box w10 (.cells #[.slice a9 (y.l.length + 1) c9] 42)))).o) (some ⟨w10.heap.size, 0, none⟩) 1 [⟨a9, c9, y.l ++ [x.v.id]⟩] 1 rfl rfl (by have h : (y.l ++ [x.v.id]).length = y.l.length + 1 := (by simp); rw [← h]; exact fun _ => ⟨_, 0, rfl, RowK.new_at (heap_new _ _) rfl⟩) (fun e => by cases e) (by have := HNX9.out; simp; omega) (by have h1 := (below_then (below_then HB9.out HB10.out) (below_box w10 (.cells #[.slice a9 (y.l.length + 1) c9] 42))).size; have h2 := HV.out.2.2.2.2.size; omega) ?_; intro v11 w11 hA; have HA11 := Lib.hid hA; obtain ⟨a11, c11, hv11⟩ := HA11.out.1.shape; rw [List.length_append, List.length_singleton] at hv11; subst hv11; clear hA)
                  | (go_at_call 129; (refine (HFB.out w9 a9 c9 (below_then HBQ.out HB9.out) HA9.out.1.toV).mono ?_); rintro e w10 ⟨rfl, hb10⟩; have HB10 := Lib.hid hb10; clear hb10)
                  | fail)
                have HW10 := Lib.hid (below_then (below_then HB9.out HB10.out) (below_box w10 (.cells #[.slice a9 (y.l.length + 1) c9] 42)))
                have HN10 := Lib.hid (HV.out.2.1.below HW10.out)
                have HROW : Hid (kI.Own (w10.alloc (.cells #[.slice a9 (y.l.length + 1) c9] 42)) 0 (.slice a9 (y.l ++ [x.v.id]).length c9) (y.l ++ [x.v.id])) := Lib.hid (by
                  rw [List.length_append, List.length_singleton]
                  exact ((HA9.out.1.below HB10.out).below (below_box w10 _)).mono (Nat.zero_le _))
                have HA12 : Hid (kW2.App (w10.alloc (.cells #[.slice a9 (y.l.length + 1) c9] 42)) wo.heap.size (.slice xa N.length xc) (N ++ [⟨a9, c9, y.l ++ [x.v.id]⟩]) (.slice a11 (N.length + 1) c11) w11) := Lib.hid (by rw [← HMN.out]; rw [← HMN.out] at HA11; exact HA11.out)
                refine ⟨⟨v + 1, a11, c11, N ++ [⟨a9, c9, y.l ++ [x.v.id]⟩], _, hlt3, by go_num, rfl, Lib.hid ⟨by simp, ?_, ?_, ?_, ?_⟩⟩, by simp [intOf]; omega⟩
                · rw [List.length_append, List.length_singleton]; exact HN10.out.app HROW.out HA12.out
                · exact (HV.out.2.2.1.below HW10.out).other (fun j hj => (HRO.out.o.lt j hj).2) HN10.out.o HA12.out.2.1
                · rw [nextR_yes HLJ.out HX.out HBB.out, List.map_append, HV.out.2.2.2.1]; rfl
                · exact app_below HN10.out.o HA12.out (below_then HV.out.2.2.2.2 HW10.out) (Nat.le_refl _) (Nat.le_refl _)
            · obtain rfl : v = nv := by omega
              have HEND : Hid (N.map Ws.l = ((lev k).take (j + 1)).flatMap (refExt (VL.map Vr.v) (EL.map Er.e) NS LS)) := Lib.hid (by
                rw [HV.out.2.2.2.1, nextR_end HLJ.out (by rw [← HNV.out.1]; exact Nat.le_refl _)])
              go_wp2_with fail
              exact ⟨⟨j + 1, xa, xc, N, m, by omega, by go_num, rfl, Lib.hid ⟨HV.out.1, HV.out.2.1, HV.out.2.2.1, HEND.out, HV.out.2.2.2.2⟩⟩, by simp [intOf]; omega⟩
        · obtain rfl : j = n := by omega
          have HEND : Hid (N.map Ws.l = lev (k + 1)) := Lib.hid (by
            rw [HJ.out.2.2.2.1, HNX.out, List.take_of_length_le (by rw [← HNR.out.2.1]; exact Nat.le_refl _)])
          go_wp2_with fail
          exact ⟨⟨k + 1, xa, xc, N, m, by omega, by go_num, rfl, Lib.hid ⟨HJ.out.1, ⟨HJ.out.2.1.o.mono HI.out.2.2.2.size, HJ.out.2.1.e⟩, HEND.out, HI.out.2.2.2.trans (HJ.out.2.2.2.2.mono HI.out.2.2.2.size)⟩⟩, by simp [intOf]; omega⟩
    · obtain rfl : k = nn := by omega
      go_wp2_with fail
      go_ret
      exact ⟨ra, rc, R, by rw [HNR.out.1]; rfl, HI.out.2.2.1, ⟨HI.out.2.1.o.mono HBW.out.size, HI.out.2.1.e⟩, below_then HBW.out HI.out.2.2.2⟩
end Go.Proofs.YtonilojjahfboaaGreat
