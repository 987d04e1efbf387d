/- WebApart: the walk where nothing is too great. Conditions: the theorem's own premises. -/
import Derived.Test.YtcafedfldmcbiaaApartLaw
namespace Go.Proofs.Ytcafedfldmcbiaa
open Go.RowKit Go.Maps

theorem small_key {x : List Pr} (h : smallP x = true) : x.length ≤ 30 ∧ ∀ p ∈ x, p.key.size ≤ 200 := by
  have := of_decide_eq_true h
  exact ⟨this.1, fun p hp => by have := (this.2 p hp).1; omega⟩
theorem fit_of {w : World} {a : Option Addr} {x : List Pr} (h : PrV w a x) (hs : smallP x = true) (hr : rightPs x = true) : ∀ p ∈ x, p.Fit := fun p hp => by
  obtain ⟨b, off, _, hat⟩ := h (fun e => by rw [e] at hp; cases hp)
  exact ⟨(small_key hs).2 p hp, (hat.raw p hp).2, (right_mem hr hp).1⟩
theorem heap_new3 (w : World) (X Y Z : Obj) : (((w.alloc X).alloc Y).alloc Z).heap[w.heap.size + 1]? = some Y ∧ (((w.alloc X).alloc Y).alloc Z).heap[w.heap.size + 1 + 1]? = some Z := by
  constructor
  · rw [Below.heap_alloc _ _ _ (by simp)]; exact heap_new2 w X Y
  · have := heap_new ((w.alloc X).alloc Y) Z
    rw [size_alloc, size_alloc] at this
    exact this
theorem eqEn (a b : ByteArray × ByteArray) (w : World) : (binOp .eql 39 (.agg #[.string a.1, .string a.2]) (.agg #[.string b.1, .string b.2])).run Try.prog w = .ok (.bool (a.1.toList == b.1.toList && a.2.toList == b.2.toList)) w := by
  cases h1 : (a.1.toList == b.1.toList) <;> cases h2 : (a.2.toList == b.2.toList) <;> go_simp
theorem eqEn_apart {a b : Nat} {l m : ByteArray} {x y : List Pr} {e f : ByteArray × ByteArray} (ha : a < 1099511627776) (hb : b < 1099511627776) (he : e ∈ entL a l x) (hf : f ∈ entL b m y) : (e.1.toList == f.1.toList && e.2.toList == f.2.toList) = true → a = b := fun h => by
  rw [Bool.and_eq_true] at h
  exact Decidable.byContradiction fun hn => ent_apart ha hb he hf hn (ba_eq h.2)
theorem entL_len (id : Nat) (l : ByteArray) (x : List Pr) : (entL id l x).length = x.length + 1 := by simp [entL]
set_option maxRecDepth 100000 in
set_option maxHeartbeats 4000000 in
theorem apart_in (i1 i2 e0 e1 : Int) (l1 l2 : ByteArray) (a1 a2 : Option Addr) (c1 c2 : Nat) (x y : List Pr) (w : World) (hx : PrV w a1 x) (hy : PrV w a2 y) (s1 : l1.size ≤ 200) (s2 : l2.size ≤ 200)
    (g1 : I64 i1) (g2 : I64 i2) (g3 : I64 e0) (g4 : I64 e1) (hs1 : smallP x = true) (hs2 : smallP y = true) :
    Calls Try.prog 3 #[.agg #[.int .i64 i1, .string l1, .slice a1 x.length c1], .agg #[.int .i64 i2, .string l2, .slice a2 y.length c2], .agg #[.int .i64 e0, .int .i64 e1]] w fun e w' => e = .returned (.bool true) ∧ Below w.heap.size w w' := by
  have HE := Lib.hid (boxesA w #[.int .i64 i1, .string l1, .slice a1 x.length c1] #[.int .i64 i2, .string l2, .slice a2 y.length c2] #[.int .i64 e0, .int .i64 e1])
  have HX := Lib.hid hx
  have HY := Lib.hid hy
  have lx := (small_key hs1).1
  have ly := (small_key hs2).1
  have KX := Lib.hid (small_key hs1).2
  have KY := Lib.hid (small_key hs2).2
  have PX := Lib.hid (hx.small hs1)
  have PY := Lib.hid (hy.small hs2)
  have S1 := Lib.hid hs1
  have S2 := Lib.hid hs2
  have G1 := Lib.hid g1
  have G2 := Lib.hid g2
  have G3 := Lib.hid g3
  have G4 := Lib.hid g4
  clear hx hy hs1 hs2 g1 g2 g3 g4
  go_enter Try.func3, Try.ntmps3
  go_wp2_with fail
  refine (awake21_any _).mono ?_
  rintro e w1 ⟨rfl, hb1⟩
  obtain ⟨k0, k1, _, hlw, hB⟩ := HE.out w1 hb1
  have v0 := cell_of_blk k0 0
  have v1 := cell_of_blk k0 1
  have v2 := cell_of_blk k0 2
  have u1 := cell_of_blk k1 1
  have u2 := cell_of_blk k1 2
  simp at v0 v1 v2 u1 u2
  clear k0 k1
  go_wp2_with fail
  refine (props21_any a1 c1 x _ (HX.out.below hB) (by unfold maxLen; omega)).mono ?_
  rintro e w2 ⟨rfl, rfl⟩
  rw [S1.out]
  go_wp2_with fail
  refine (props21_any a2 c2 y _ (HY.out.below hB) (by unfold maxLen; omega)).mono ?_
  rintro e w3 ⟨rfl, rfl⟩
  rw [S2.out]
  go_wp2_with fail
  refine (vertexText_any i1 l1 a1 c1 x _ G1.out s1 (PX.out.below hB) (by omega) KX.out).mono ?_
  rintro e w2 ⟨rfl, hb2⟩
  replace hb2 := below_then hb1 hb2
  clear v0 v1 v2 u1 u2 hlw hB hb1
  obtain ⟨k0, k1, _, hlw, hB⟩ := HE.out w2 hb2
  have u0 := cell_of_blk k1 0
  have u1 := cell_of_blk k1 1
  have u2 := cell_of_blk k1 2
  simp at u0 u1 u2
  clear k0 k1
  go_wp2_with fail
  refine (vertexText_any i2 l2 a2 c2 y _ G2.out s2 (PY.out.below hB) (by omega) KY.out).mono ?_
  rintro e w3 ⟨rfl, hb3⟩
  replace hb3 := below_then hb2 hb3
  clear u0 u1 u2 hlw hB hb2
  obtain ⟨k0, k1, k2, hlw, hB⟩ := HE.out w3 hb3
  by_cases hc1 : checkR l1 x [i1] = 0
  · by_cases hc2 : checkR l2 y [i2] = 0
    · have hk1 := checkR_ok hc1
      have hk2 := checkR_ok hc2
      obtain ⟨n1, rfl, hn1⟩ : ∃ m : Nat, i1 = m ∧ m < 1099511627776 := idB_ok (by have := hk1.1; simpa using this)
      obtain ⟨n2, rfl, hn2⟩ : ∃ m : Nat, i2 = m ∧ m < 1099511627776 := idB_ok (by have := hk2.1; simpa using this)
      have R1 := Lib.hid hk1.2.2
      have R2 := Lib.hid hk2.2.2
      have V1 : Hid (vtext l1 x [(n1 : Int)] [] = ⟨(textL l1 x).toArray⟩) := Lib.hid (by unfold vtext; rw [if_pos hc1]; rfl)
      have V2 : Hid (vtext l2 y [(n2 : Int)] [] = ⟨(textL l2 y).toArray⟩) := Lib.hid (by unfold vtext; rw [if_pos hc2]; rfl)
      have hts := text_same s1 s2 (rightPs_yes R1.out).2 (rightPs_yes R2.out).2 (fit_of HX.out S1.out R1.out) (fit_of HY.out S2.out R2.out)
      have C1 := Lib.hid hc1
      have C2 := Lib.hid hc2
      have N1 := Lib.hid hn1
      have N2 := Lib.hid hn2
      rw [hc1, hc2, V1.out, V2.out]
      obtain ⟨t1, ht1⟩ : ∃ t : ByteArray, t = ⟨(textL l1 x).toArray⟩ := ⟨_, rfl⟩
      obtain ⟨t2, ht2⟩ : ∃ t : ByteArray, t = ⟨(textL l2 y).toArray⟩ := ⟨_, rfl⟩
      rw [← ht1, ← ht2] at hts ⊢
      obtain ⟨r, hr⟩ : ∃ r, (l1.toList == l2.toList && sameP x y) = r := ⟨_, rfl⟩
      rw [hr] at hts
      have HR := Lib.hid hr
      clear hk1 hk2 hc1 hc2 hr ht1 ht2 V1 V2 hn1 hn2
      have v0 := cell_of_blk k0 0
      have v1 := cell_of_blk k0 1
      have v2 := cell_of_blk k0 2
      have u0 := cell_of_blk k1 0
      have u1 := cell_of_blk k1 1
      have u2 := cell_of_blk k1 2
      simp at v0 v1 v2 u0 u1 u2
      have KK0 := Lib.hid k0
      have hl0 : w.heap.size < w3.heap.size := by omega
      have hl1 : w.heap.size + 1 < w3.heap.size := by omega
      clear k0 k1 k2
      go_wp2_with fail
      obtain ⟨nA, nB⟩ := heap_new3 w3 (.cells #[.int .i64 n1, .string l2, .slice a2 y.length c2] 24) (.cells #[.int .i64 n1, .string l1, .slice a1 x.length c1] 24) (.cells #[.int .i64 n1, .string l2, .slice a2 y.length c2] 24)
      have hB4 := below_al (below_al (below_al hb3 (.cells #[.int .i64 n1, .string l2, .slice a2 y.length c2] 24)) (.cells #[.int .i64 n1, .string l1, .slice a1 x.length c1] 24)) (.cells #[.int .i64 n1, .string l2, .slice a2 y.length c2] 24)
      have hB4' := (HE.out _ hB4).2.2.2.2
      refine (sameV1 _ _ n1 l1 l2 a1 a2 c1 c2 x y _ nA nB (PX.out.below hB4') (PY.out.below hB4') (by omega) r HR.out).mono ?_
      rintro e w4 ⟨rfl, hw4⟩
      replace hB4 : Below (((w.alloc (.cells #[.int .i64 n1, .string l1, .slice a1 x.length c1] 24)).alloc (.cells #[.int .i64 n2, .string l2, .slice a2 y.length c2] 24)).alloc (.cells #[.int .i64 e0, .int .i64 e1] 25)).heap.size (((w.alloc (.cells #[.int .i64 n1, .string l1, .slice a1 x.length c1] 24)).alloc (.cells #[.int .i64 n2, .string l2, .slice a2 y.length c2] 24)).alloc (.cells #[.int .i64 e0, .int .i64 e1] 25)) w4 := by
        obtain ⟨q4, rfl⟩ := hw4
        exact below_drewN' hB4 q4
      clear hw4 hB4' nA nB hl0 hl1 v0 v1 v2 u0 u1 u2 hlw hB hb3
      obtain ⟨k0, k1, k2, hlw, hB⟩ := HE.out w4 hB4
      have v0 := cell_of_blk k0 0
      have v1 := cell_of_blk k0 1
      have v2 := cell_of_blk k0 2
      have d0 := cell_of_blk k2 0
      have d1 := cell_of_blk k2 1
      simp at v0 v1 v2 d0 d1
      have hl0 : w.heap.size < w4.heap.size := by omega
      have hl1 : w.heap.size + 1 < w4.heap.size := by omega
      clear k0 k1 k2
      have hrr : (r != r) = false := by simp
      go_wp2_with fail
      refine (edgeText_any 0 e0 e1 l1 a1 c1 x _ (by constructor <;> omega) G3.out G4.out s1 (PX.out.below hB) (by omega) KX.out).mono ?_
      rintro e w5 ⟨rfl, hb5⟩
      replace hb5 := below_then hB4 hb5
      clear v0 v1 v2 d0 d1 hlw hB hB4 hl0 hl1 hrr hts
      obtain ⟨k0, k1, k2, hlw, hB⟩ := HE.out w5 hb5
      have v0 := cell_of_blk k0 0
      have v1 := cell_of_blk k0 1
      have v2 := cell_of_blk k0 2
      have d0 := cell_of_blk k2 0
      have d1 := cell_of_blk k2 1
      simp at v0 v1 v2 d0 d1
      clear k0 k1 k2
      go_wp2_with fail
      refine (edgeText_any 0 e1 e0 l1 a1 c1 x _ (by constructor <;> omega) G4.out G3.out s1 (PX.out.below hB) (by omega) KX.out).mono ?_
      rintro e w6 ⟨rfl, hb6⟩
      replace hb6 := below_then hb5 hb6
      clear v0 v1 v2 d0 d1 hlw hB hb5
      obtain ⟨k0, k1, k2, hlw, hB⟩ := HE.out w6 hb6
      have d0 := cell_of_blk k2 0
      have d1 := cell_of_blk k2 1
      simp at d0 d1
      have ks : ∀ w', Below w6.heap.size w6 w' → (fun w' => Below w6.heap.size w6 w' ∧ w'.cell? ⟨w.heap.size, 0, none⟩ = some (.int .i64 (n1 : Int)) ∧ w'.cell? ⟨w.heap.size, 1, none⟩ = some (.string l1) ∧ w'.cell? ⟨w.heap.size, 2, none⟩ = some (.slice a1 x.length c1) ∧ w'.cell? ⟨w.heap.size + 1, 0, none⟩ = some (.int .i64 (n2 : Int)) ∧ w'.cell? ⟨w.heap.size + 1, 1, none⟩ = some (.string l2) ∧ w'.cell? ⟨w.heap.size + 1, 2, none⟩ = some (.slice a2 y.length c2)) w' := fun w' hb => by
        have e := (hb.block _ (Array.getElem?_eq_some_iff.1 k0).1).trans k0
        have f := (hb.block _ (Array.getElem?_eq_some_iff.1 k1).1).trans k1
        exact ⟨hb, by rw [cell_of_blk e]; rfl, by rw [cell_of_blk e]; rfl, by rw [cell_of_blk e]; rfl, by rw [cell_of_blk f]; rfl, by rw [cell_of_blk f]; rfl, by rw [cell_of_blk f]; rfl⟩
      have KS := Lib.hid ks
      have HB6 := Lib.hid hB
      clear ks k0 k1 k2 hB
      have ways : (checkR l1 x [0, e0, e1] ≠ 0) ∨ (checkR l1 x [0, e0, e1] = 0 ∧ checkR l1 x [0, e1, e0] ≠ 0) ∨ (checkR l1 x [0, e0, e1] = 0 ∧ checkR l1 x [0, e1, e0] = 0) := by
        by_cases p : checkR l1 x [0, e0, e1] = 0
        · by_cases q : checkR l1 x [0, e1, e0] = 0
          · exact .inr (.inr ⟨p, q⟩)
          · exact .inr (.inl ⟨p, q⟩)
        · exact .inl p
      rcases ways with p | ⟨p, q⟩ | ⟨p, q⟩
      · have hp' : (checkR l1 x [0, e0, e1] == 0) = false := by simpa using p
        generalize checkR l1 x [0, e0, e1] = k at hp' ⊢
        generalize checkR l1 x [0, e1, e0] = k'
        generalize vtext l1 x [0, e0, e1] (fiveL e0.toNat ++ fiveL e1.toNat) = E1
        generalize vtext l1 x [0, e1, e0] (fiveL e1.toNat ++ fiveL e0.toNat) = E2
        clear p
        go_wp2_with fail
        refine wp_region_held_drew (S := (fun w' => Below w6.heap.size w6 w' ∧ w'.cell? ⟨w.heap.size, 0, none⟩ = some (.int .i64 (n1 : Int)) ∧ w'.cell? ⟨w.heap.size, 1, none⟩ = some (.string l1) ∧ w'.cell? ⟨w.heap.size, 2, none⟩ = some (.slice a1 x.length c1) ∧ w'.cell? ⟨w.heap.size + 1, 0, none⟩ = some (.int .i64 (n2 : Int)) ∧ w'.cell? ⟨w.heap.size + 1, 1, none⟩ = some (.string l2) ∧ w'.cell? ⟨w.heap.size + 1, 2, none⟩ = some (.slice a2 y.length c2))) (by kernel_rfl) (KS.out _ (Below.refl _ _).drew) (fun hHeld => ?_)
        refine wpAnyH_take (i := 0) (oi := ⟨some 119, _, _, _, _, _⟩) (v := ?vvq1) rfl (by kernel_rfl) (by kernel_rfl) (by kernel_rfl) (fun _ _ _ h => h) (Or.inl ⟨by rfl, ?yyq1⟩) hHeld ?rrq1
        case yyq1 => (intro wq hSw; (try dsimp only at hSw); go_simp; first | done | with_reducible rfl)
        simp only [Act.put, List.setIfInBounds_toArray, List.set_cons_zero, List.set_cons_succ]
        refine wpAnyH_take (i := 2) (oi := ⟨some 121, _, _, _, _, _⟩) (v := ?vvq2) rfl (by kernel_rfl) (by kernel_rfl) (by kernel_rfl) (fun _ _ _ h => h) (Or.inl ⟨by rfl, ?yyq2⟩) hHeld ?rrq2
        case yyq2 => (intro wq hSw; (try dsimp only at hSw); go_simp; first | done | with_reducible rfl)
        simp only [Act.put, List.setIfInBounds_toArray, List.set_cons_zero, List.set_cons_succ]
        refine wpAnyH_ready (rs := [1]) (by kernel_rfl) (by simp) ?_
        refine AllReadyH.cons (o := ⟨some 120, _, _, _, _, _⟩) rfl (fun K hK => ?_) AllReadyH.nil
        go_simp
        refine (entries_any n1 l1 a1 c1 x _ s1 (PX.out.below (HB6.out.drew)) (by omega) KX.out C1.out).mono ?_
        rintro e w7 ⟨r7, rfl, o7, hb7⟩
        have hB7 : Below w6.heap.size w6 w7 := below_then hHeld.1 hb7
        go_wp2_with fail
        refine hK.out _ _ ?ssq3 (fun hHeld => ?_)
        case ssq3 => (exact KS.out _ hB7)
        clear hK K
        try simp only [Act.put, List.setIfInBounds_toArray, List.set_cons_zero, List.set_cons_succ]
        refine wpAnyH_ready (rs := [3]) (by kernel_rfl) (by simp) ?_
        refine AllReadyH.cons (o := ⟨some 122, _, _, _, _, _⟩) rfl (fun K hK => ?_) AllReadyH.nil
        go_simp
        refine (entries_any n2 l2 a2 c2 y _ s2 (PY.out.below (below_then HB6.out hB7)) (by omega) KY.out C2.out).mono ?_
        rintro e w8 ⟨r8, rfl, o8, hb8⟩
        have hB8 : Below w6.heap.size w6 w8 := below_then hB7 hb8
        go_wp2_with fail
        refine hK.out _ _ ?ssq4 (fun hHeld => ?_)
        case ssq4 => (exact KS.out _ hB8)
        clear hK K
        try simp only [Act.put, List.setIfInBounds_toArray, List.set_cons_zero, List.set_cons_succ]
        refine wpAnyH_take (i := 4) (oi := ⟨some 16, _, _, _, _, _⟩) (v := ?vvq5) rfl (by kernel_rfl) (by kernel_rfl) (by kernel_rfl) (fun _ _ _ h => h) (Or.inl ⟨by rfl, ?yyq5⟩) hHeld ?rrq5
        case yyq5 => (intro wq hSw; (try dsimp only at hSw); go_simp; first | done | with_reducible rfl)
        simp only [Act.put, List.setIfInBounds_toArray, List.set_cons_zero, List.set_cons_succ]
        refine wpAnyH_take (i := 5) (oi := ⟨some 17, _, _, _, _, _⟩) (v := ?vvq6) rfl (by kernel_rfl) (by kernel_rfl) (by kernel_rfl) (fun _ _ _ h => h) (Or.inl ⟨by rfl, ?yyq6⟩) hHeld ?rrq6
        case yyq6 => (intro wq hSw; (try dsimp only at hSw); go_simp; first | done | with_reducible rfl)
        simp only [Act.put, List.setIfInBounds_toArray, List.set_cons_zero, List.set_cons_succ]
        refine wpAnyH_done (by kernel_rfl) ?_ _
        clear hHeld
        have o7' := o7.below hb8
        obtain ⟨b7, p7, rfl, _, m7, at7⟩ := o7'.at' (by unfold entL; simp)
        obtain ⟨b8, p8, rfl, _, m8, at8⟩ := o8.at' (by unfold entL; simp)
        obtain ⟨_, v0, v1, v2, u0, u1, u2⟩ := KS.out _ hB8
        have hBend := Lib.hid (below_then HB6.out hB8)
        have hlw8 : w.heap.size + 2 < w8.heap.size := by have := hB8.size; omega
        clear o7 o7' o8 hb7 hb8 hB7 hB8 v1 u1 u2
        have E7 := entL_len n1 l1 x
        have E8 := entL_len n2 l2 y
        obtain ⟨L, hL⟩ : ∃ L, L = entL n1 l1 x := ⟨_, rfl⟩
        obtain ⟨M, hM⟩ : ∃ M, M = entL n2 l2 y := ⟨_, rfl⟩
        rw [← hL] at at7 E7 ⊢
        rw [← hM] at at8 E8 ⊢
        have HLm := Lib.hid hL
        have HMm := Lib.hid hM
        have A7 := Lib.hid at7
        have A8 := Lib.hid at8
        clear hL hM at7 at8
        go_wp2_with fail
        go_loopw [18] (fun i wr => (∃ n, wr = w8.drewN n) ∧ ∃ j : Nat, j ≤ L.length ∧ i = .int .i64 j) (fun i _ => L.length - (intOf i).toNat)
        case atStart => exact ⟨⟨0, rfl⟩, 0, by omega, rfl⟩
        case round =>
          obtain ⟨⟨n, rfl⟩, j, hj, rfl⟩ := hrel
          by_cases hlt : j < L.length
          · obtain ⟨e, he⟩ : ∃ e, L[j]? = some e := ⟨_, List.getElem?_eq_getElem hlt⟩
            obtain ⟨c1', c2'⟩ := A7.out j e he
            have HEm := Lib.hid (List.mem_of_getElem? he)
            clear he
            go_wp2_with fail
            go_loopw [19] (fun i wr => (∃ n, wr = w8.drewN n) ∧ ∃ j : Nat, j ≤ M.length ∧ i = .int .i64 j) (fun i _ => M.length - (intOf i).toNat)
            case atStart => exact ⟨⟨_, rfl⟩, 0, by omega, rfl⟩
            case round =>
              obtain ⟨⟨n, rfl⟩, k, hk, rfl⟩ := hrel
              by_cases hlt2 : k < M.length
              · obtain ⟨f, hf⟩ : ∃ f, M[k]? = some f := ⟨_, List.getElem?_eq_getElem hlt2⟩
                obtain ⟨d1', d2'⟩ := A8.out k f hf
                have hEF := Lib.hid (eqEn_apart N1.out N2.out (HLm.out ▸ HEm.out) (HMm.out ▸ List.mem_of_getElem? hf))
                clear hf
                have hq := eqEn e f
                obtain ⟨r0, hr0⟩ : ∃ r0, (e.1.toList == f.1.toList && e.2.toList == f.2.toList) = r0 := ⟨_, rfl⟩
                rw [hr0] at hq
                have hEF2 : Hid (r0 = true → n1 = n2) := Lib.hid (fun h => hEF.out (hr0.trans h))
                clear hEF hr0
                cases r0
                · clear hEF2
                  go_wp2_with fail
                  go_quiet (fail)
                  go_wp2_with fail
                  exact ⟨⟨⟨_, rfl⟩, k + 1, by omega, by go_num⟩, by simp [intOf]; omega⟩
                · have hnn := hEF2.out rfl
                  have hnn' : ((n1 : Int) != (n2 : Int)) = false := by rw [hnn]; simp
                  clear hEF2 hnn
                  go_wp2_with fail
                  go_quiet (fail)
                  go_wp2_with fail
                  exact ⟨⟨⟨_, rfl⟩, k + 1, by omega, by go_num⟩, by simp [intOf]; omega⟩
              · obtain rfl : k = M.length := by omega
                go_wp2_with fail
                exact ⟨⟨⟨_, rfl⟩, j + 1, by omega, by go_num⟩, by simp [intOf]; omega⟩
          · obtain rfl : j = L.length := by omega
            rw [E7]
            go_wp2_with fail
            go_ret
            exact ⟨rfl, below_drewN' hBend.out _⟩
      · have hq' : (checkR l1 x [0, e1, e0] == 0) = false := by simpa using q
        rw [p]
        generalize checkR l1 x [0, e1, e0] = k' at hq' ⊢
        generalize vtext l1 x [0, e0, e1] (fiveL e0.toNat ++ fiveL e1.toNat) = E1
        generalize vtext l1 x [0, e1, e0] (fiveL e1.toNat ++ fiveL e0.toNat) = E2
        clear p q
        go_wp2_with fail
        refine wp_region_held_drew (S := (fun w' => Below w6.heap.size w6 w' ∧ w'.cell? ⟨w.heap.size, 0, none⟩ = some (.int .i64 (n1 : Int)) ∧ w'.cell? ⟨w.heap.size, 1, none⟩ = some (.string l1) ∧ w'.cell? ⟨w.heap.size, 2, none⟩ = some (.slice a1 x.length c1) ∧ w'.cell? ⟨w.heap.size + 1, 0, none⟩ = some (.int .i64 (n2 : Int)) ∧ w'.cell? ⟨w.heap.size + 1, 1, none⟩ = some (.string l2) ∧ w'.cell? ⟨w.heap.size + 1, 2, none⟩ = some (.slice a2 y.length c2))) (by kernel_rfl) (KS.out _ (Below.refl _ _).drew) (fun hHeld => ?_)
        refine wpAnyH_take (i := 0) (oi := ⟨some 119, _, _, _, _, _⟩) (v := ?vvq7) rfl (by kernel_rfl) (by kernel_rfl) (by kernel_rfl) (fun _ _ _ h => h) (Or.inl ⟨by rfl, ?yyq7⟩) hHeld ?rrq7
        case yyq7 => (intro wq hSw; (try dsimp only at hSw); go_simp; first | done | with_reducible rfl)
        simp only [Act.put, List.setIfInBounds_toArray, List.set_cons_zero, List.set_cons_succ]
        refine wpAnyH_take (i := 2) (oi := ⟨some 121, _, _, _, _, _⟩) (v := ?vvq8) rfl (by kernel_rfl) (by kernel_rfl) (by kernel_rfl) (fun _ _ _ h => h) (Or.inl ⟨by rfl, ?yyq8⟩) hHeld ?rrq8
        case yyq8 => (intro wq hSw; (try dsimp only at hSw); go_simp; first | done | with_reducible rfl)
        simp only [Act.put, List.setIfInBounds_toArray, List.set_cons_zero, List.set_cons_succ]
        refine wpAnyH_ready (rs := [1]) (by kernel_rfl) (by simp) ?_
        refine AllReadyH.cons (o := ⟨some 120, _, _, _, _, _⟩) rfl (fun K hK => ?_) AllReadyH.nil
        go_simp
        refine (entries_any n1 l1 a1 c1 x _ s1 (PX.out.below (HB6.out.drew)) (by omega) KX.out C1.out).mono ?_
        rintro e w7 ⟨r7, rfl, o7, hb7⟩
        have hB7 : Below w6.heap.size w6 w7 := below_then hHeld.1 hb7
        go_wp2_with fail
        refine hK.out _ _ ?ssq9 (fun hHeld => ?_)
        case ssq9 => (exact KS.out _ hB7)
        clear hK K
        try simp only [Act.put, List.setIfInBounds_toArray, List.set_cons_zero, List.set_cons_succ]
        refine wpAnyH_ready (rs := [3]) (by kernel_rfl) (by simp) ?_
        refine AllReadyH.cons (o := ⟨some 122, _, _, _, _, _⟩) rfl (fun K hK => ?_) AllReadyH.nil
        go_simp
        refine (entries_any n2 l2 a2 c2 y _ s2 (PY.out.below (below_then HB6.out hB7)) (by omega) KY.out C2.out).mono ?_
        rintro e w8 ⟨r8, rfl, o8, hb8⟩
        have hB8 : Below w6.heap.size w6 w8 := below_then hB7 hb8
        go_wp2_with fail
        refine hK.out _ _ ?ssq10 (fun hHeld => ?_)
        case ssq10 => (exact KS.out _ hB8)
        clear hK K
        try simp only [Act.put, List.setIfInBounds_toArray, List.set_cons_zero, List.set_cons_succ]
        refine wpAnyH_take (i := 4) (oi := ⟨some 16, _, _, _, _, _⟩) (v := ?vvq11) rfl (by kernel_rfl) (by kernel_rfl) (by kernel_rfl) (fun _ _ _ h => h) (Or.inl ⟨by rfl, ?yyq11⟩) hHeld ?rrq11
        case yyq11 => (intro wq hSw; (try dsimp only at hSw); go_simp; first | done | with_reducible rfl)
        simp only [Act.put, List.setIfInBounds_toArray, List.set_cons_zero, List.set_cons_succ]
        refine wpAnyH_take (i := 5) (oi := ⟨some 17, _, _, _, _, _⟩) (v := ?vvq12) rfl (by kernel_rfl) (by kernel_rfl) (by kernel_rfl) (fun _ _ _ h => h) (Or.inl ⟨by rfl, ?yyq12⟩) hHeld ?rrq12
        case yyq12 => (intro wq hSw; (try dsimp only at hSw); go_simp; first | done | with_reducible rfl)
        simp only [Act.put, List.setIfInBounds_toArray, List.set_cons_zero, List.set_cons_succ]
        refine wpAnyH_done (by kernel_rfl) ?_ _
        clear hHeld
        have o7' := o7.below hb8
        obtain ⟨b7, p7, rfl, _, m7, at7⟩ := o7'.at' (by unfold entL; simp)
        obtain ⟨b8, p8, rfl, _, m8, at8⟩ := o8.at' (by unfold entL; simp)
        obtain ⟨_, v0, v1, v2, u0, u1, u2⟩ := KS.out _ hB8
        have hBend := Lib.hid (below_then HB6.out hB8)
        have hlw8 : w.heap.size + 2 < w8.heap.size := by have := hB8.size; omega
        clear o7 o7' o8 hb7 hb8 hB7 hB8 v1 u1 u2
        have E7 := entL_len n1 l1 x
        have E8 := entL_len n2 l2 y
        obtain ⟨L, hL⟩ : ∃ L, L = entL n1 l1 x := ⟨_, rfl⟩
        obtain ⟨M, hM⟩ : ∃ M, M = entL n2 l2 y := ⟨_, rfl⟩
        rw [← hL] at at7 E7 ⊢
        rw [← hM] at at8 E8 ⊢
        have HLm := Lib.hid hL
        have HMm := Lib.hid hM
        have A7 := Lib.hid at7
        have A8 := Lib.hid at8
        clear hL hM at7 at8
        go_wp2_with fail
        go_loopw [18] (fun i wr => (∃ n, wr = w8.drewN n) ∧ ∃ j : Nat, j ≤ L.length ∧ i = .int .i64 j) (fun i _ => L.length - (intOf i).toNat)
        case atStart => exact ⟨⟨0, rfl⟩, 0, by omega, rfl⟩
        case round =>
          obtain ⟨⟨n, rfl⟩, j, hj, rfl⟩ := hrel
          by_cases hlt : j < L.length
          · obtain ⟨e, he⟩ : ∃ e, L[j]? = some e := ⟨_, List.getElem?_eq_getElem hlt⟩
            obtain ⟨c1', c2'⟩ := A7.out j e he
            have HEm := Lib.hid (List.mem_of_getElem? he)
            clear he
            go_wp2_with fail
            go_loopw [19] (fun i wr => (∃ n, wr = w8.drewN n) ∧ ∃ j : Nat, j ≤ M.length ∧ i = .int .i64 j) (fun i _ => M.length - (intOf i).toNat)
            case atStart => exact ⟨⟨_, rfl⟩, 0, by omega, rfl⟩
            case round =>
              obtain ⟨⟨n, rfl⟩, k, hk, rfl⟩ := hrel
              by_cases hlt2 : k < M.length
              · obtain ⟨f, hf⟩ : ∃ f, M[k]? = some f := ⟨_, List.getElem?_eq_getElem hlt2⟩
                obtain ⟨d1', d2'⟩ := A8.out k f hf
                have hEF := Lib.hid (eqEn_apart N1.out N2.out (HLm.out ▸ HEm.out) (HMm.out ▸ List.mem_of_getElem? hf))
                clear hf
                have hq := eqEn e f
                obtain ⟨r0, hr0⟩ : ∃ r0, (e.1.toList == f.1.toList && e.2.toList == f.2.toList) = r0 := ⟨_, rfl⟩
                rw [hr0] at hq
                have hEF2 : Hid (r0 = true → n1 = n2) := Lib.hid (fun h => hEF.out (hr0.trans h))
                clear hEF hr0
                cases r0
                · clear hEF2
                  go_wp2_with fail
                  go_quiet (fail)
                  go_wp2_with fail
                  exact ⟨⟨⟨_, rfl⟩, k + 1, by omega, by go_num⟩, by simp [intOf]; omega⟩
                · have hnn := hEF2.out rfl
                  have hnn' : ((n1 : Int) != (n2 : Int)) = false := by rw [hnn]; simp
                  clear hEF2 hnn
                  go_wp2_with fail
                  go_quiet (fail)
                  go_wp2_with fail
                  exact ⟨⟨⟨_, rfl⟩, k + 1, by omega, by go_num⟩, by simp [intOf]; omega⟩
              · obtain rfl : k = M.length := by omega
                go_wp2_with fail
                exact ⟨⟨⟨_, rfl⟩, j + 1, by omega, by go_num⟩, by simp [intOf]; omega⟩
          · obtain rfl : j = L.length := by omega
            rw [E7]
            go_wp2_with fail
            go_ret
            exact ⟨rfl, below_drewN' hBend.out _⟩
      · have hck := (checkR_ok p).1
        obtain ⟨f, rfl, hf⟩ : ∃ m : Nat, e0 = m ∧ m < 1099511627776 := idB_ok (by simp at hck; exact hck.2.1)
        obtain ⟨t, rfl, ht⟩ : ∃ m : Nat, e1 = m ∧ m < 1099511627776 := idB_ok (by simp at hck; exact hck.2.2)
        have V1 : vtext l1 x [0, (f : Int), (t : Int)] (fiveL (f : Int).toNat ++ fiveL (t : Int).toNat) = ⟨(fiveL f ++ fiveL t ++ textL l1 x).toArray⟩ := by unfold vtext; rw [if_pos p]; rfl
        have V2 : vtext l1 x [0, (t : Int), (f : Int)] (fiveL (t : Int).toNat ++ fiveL (f : Int).toNat) = ⟨(fiveL t ++ fiveL f ++ textL l1 x).toArray⟩ := by unfold vtext; rw [if_pos q]; rfl
        have hE := ends_same hf ht (textL l1 x)
        rw [p, q, V1, V2]
        generalize (⟨(fiveL f ++ fiveL t ++ textL l1 x).toArray⟩ : ByteArray) = E1 at hE ⊢
        generalize (⟨(fiveL t ++ fiveL f ++ textL l1 x).toArray⟩ : ByteArray) = E2 at hE ⊢
        have he : ∀ b : Bool, (b != b) = false := by intro b; simp
        clear p q V1 V2 hck
        go_wp2_with fail
        refine wp_region_held_drew (S := (fun w' => Below w6.heap.size w6 w' ∧ w'.cell? ⟨w.heap.size, 0, none⟩ = some (.int .i64 (n1 : Int)) ∧ w'.cell? ⟨w.heap.size, 1, none⟩ = some (.string l1) ∧ w'.cell? ⟨w.heap.size, 2, none⟩ = some (.slice a1 x.length c1) ∧ w'.cell? ⟨w.heap.size + 1, 0, none⟩ = some (.int .i64 (n2 : Int)) ∧ w'.cell? ⟨w.heap.size + 1, 1, none⟩ = some (.string l2) ∧ w'.cell? ⟨w.heap.size + 1, 2, none⟩ = some (.slice a2 y.length c2))) (by kernel_rfl) (KS.out _ (Below.refl _ _).drew) (fun hHeld => ?_)
        refine wpAnyH_take (i := 0) (oi := ⟨some 119, _, _, _, _, _⟩) (v := ?vvq13) rfl (by kernel_rfl) (by kernel_rfl) (by kernel_rfl) (fun _ _ _ h => h) (Or.inl ⟨by rfl, ?yyq13⟩) hHeld ?rrq13
        case yyq13 => (intro wq hSw; (try dsimp only at hSw); go_simp; first | done | with_reducible rfl)
        simp only [Act.put, List.setIfInBounds_toArray, List.set_cons_zero, List.set_cons_succ]
        refine wpAnyH_take (i := 2) (oi := ⟨some 121, _, _, _, _, _⟩) (v := ?vvq14) rfl (by kernel_rfl) (by kernel_rfl) (by kernel_rfl) (fun _ _ _ h => h) (Or.inl ⟨by rfl, ?yyq14⟩) hHeld ?rrq14
        case yyq14 => (intro wq hSw; (try dsimp only at hSw); go_simp; first | done | with_reducible rfl)
        simp only [Act.put, List.setIfInBounds_toArray, List.set_cons_zero, List.set_cons_succ]
        refine wpAnyH_ready (rs := [1]) (by kernel_rfl) (by simp) ?_
        refine AllReadyH.cons (o := ⟨some 120, _, _, _, _, _⟩) rfl (fun K hK => ?_) AllReadyH.nil
        go_simp
        refine (entries_any n1 l1 a1 c1 x _ s1 (PX.out.below (HB6.out.drew)) (by omega) KX.out C1.out).mono ?_
        rintro e w7 ⟨r7, rfl, o7, hb7⟩
        have hB7 : Below w6.heap.size w6 w7 := below_then hHeld.1 hb7
        go_wp2_with fail
        refine hK.out _ _ ?ssq15 (fun hHeld => ?_)
        case ssq15 => (exact KS.out _ hB7)
        clear hK K
        try simp only [Act.put, List.setIfInBounds_toArray, List.set_cons_zero, List.set_cons_succ]
        refine wpAnyH_ready (rs := [3]) (by kernel_rfl) (by simp) ?_
        refine AllReadyH.cons (o := ⟨some 122, _, _, _, _, _⟩) rfl (fun K hK => ?_) AllReadyH.nil
        go_simp
        refine (entries_any n2 l2 a2 c2 y _ s2 (PY.out.below (below_then HB6.out hB7)) (by omega) KY.out C2.out).mono ?_
        rintro e w8 ⟨r8, rfl, o8, hb8⟩
        have hB8 : Below w6.heap.size w6 w8 := below_then hB7 hb8
        go_wp2_with fail
        refine hK.out _ _ ?ssq16 (fun hHeld => ?_)
        case ssq16 => (exact KS.out _ hB8)
        clear hK K
        try simp only [Act.put, List.setIfInBounds_toArray, List.set_cons_zero, List.set_cons_succ]
        refine wpAnyH_take (i := 4) (oi := ⟨some 16, _, _, _, _, _⟩) (v := ?vvq17) rfl (by kernel_rfl) (by kernel_rfl) (by kernel_rfl) (fun _ _ _ h => h) (Or.inl ⟨by rfl, ?yyq17⟩) hHeld ?rrq17
        case yyq17 => (intro wq hSw; (try dsimp only at hSw); go_simp; first | done | with_reducible rfl)
        simp only [Act.put, List.setIfInBounds_toArray, List.set_cons_zero, List.set_cons_succ]
        refine wpAnyH_take (i := 5) (oi := ⟨some 17, _, _, _, _, _⟩) (v := ?vvq18) rfl (by kernel_rfl) (by kernel_rfl) (by kernel_rfl) (fun _ _ _ h => h) (Or.inl ⟨by rfl, ?yyq18⟩) hHeld ?rrq18
        case yyq18 => (intro wq hSw; (try dsimp only at hSw); go_simp; first | done | with_reducible rfl)
        simp only [Act.put, List.setIfInBounds_toArray, List.set_cons_zero, List.set_cons_succ]
        refine wpAnyH_done (by kernel_rfl) ?_ _
        clear hHeld
        have o7' := o7.below hb8
        obtain ⟨b7, p7, rfl, _, m7, at7⟩ := o7'.at' (by unfold entL; simp)
        obtain ⟨b8, p8, rfl, _, m8, at8⟩ := o8.at' (by unfold entL; simp)
        obtain ⟨_, v0, v1, v2, u0, u1, u2⟩ := KS.out _ hB8
        have hBend := Lib.hid (below_then HB6.out hB8)
        have hlw8 : w.heap.size + 2 < w8.heap.size := by have := hB8.size; omega
        clear o7 o7' o8 hb7 hb8 hB7 hB8 v1 u1 u2
        have E7 := entL_len n1 l1 x
        have E8 := entL_len n2 l2 y
        obtain ⟨L, hL⟩ : ∃ L, L = entL n1 l1 x := ⟨_, rfl⟩
        obtain ⟨M, hM⟩ : ∃ M, M = entL n2 l2 y := ⟨_, rfl⟩
        rw [← hL] at at7 E7 ⊢
        rw [← hM] at at8 E8 ⊢
        have HLm := Lib.hid hL
        have HMm := Lib.hid hM
        have A7 := Lib.hid at7
        have A8 := Lib.hid at8
        clear hL hM at7 at8
        go_wp2_with fail
        go_loopw [18] (fun i wr => (∃ n, wr = w8.drewN n) ∧ ∃ j : Nat, j ≤ L.length ∧ i = .int .i64 j) (fun i _ => L.length - (intOf i).toNat)
        case atStart => exact ⟨⟨0, rfl⟩, 0, by omega, rfl⟩
        case round =>
          obtain ⟨⟨n, rfl⟩, j, hj, rfl⟩ := hrel
          by_cases hlt : j < L.length
          · obtain ⟨e, he⟩ : ∃ e, L[j]? = some e := ⟨_, List.getElem?_eq_getElem hlt⟩
            obtain ⟨c1', c2'⟩ := A7.out j e he
            have HEm := Lib.hid (List.mem_of_getElem? he)
            clear he
            go_wp2_with fail
            go_loopw [19] (fun i wr => (∃ n, wr = w8.drewN n) ∧ ∃ j : Nat, j ≤ M.length ∧ i = .int .i64 j) (fun i _ => M.length - (intOf i).toNat)
            case atStart => exact ⟨⟨_, rfl⟩, 0, by omega, rfl⟩
            case round =>
              obtain ⟨⟨n, rfl⟩, k, hk, rfl⟩ := hrel
              by_cases hlt2 : k < M.length
              · obtain ⟨f, hf⟩ : ∃ f, M[k]? = some f := ⟨_, List.getElem?_eq_getElem hlt2⟩
                obtain ⟨d1', d2'⟩ := A8.out k f hf
                have hEF := Lib.hid (eqEn_apart N1.out N2.out (HLm.out ▸ HEm.out) (HMm.out ▸ List.mem_of_getElem? hf))
                clear hf
                have hq := eqEn e f
                obtain ⟨r0, hr0⟩ : ∃ r0, (e.1.toList == f.1.toList && e.2.toList == f.2.toList) = r0 := ⟨_, rfl⟩
                rw [hr0] at hq
                have hEF2 : Hid (r0 = true → n1 = n2) := Lib.hid (fun h => hEF.out (hr0.trans h))
                clear hEF hr0
                cases r0
                · clear hEF2
                  go_wp2_with fail
                  go_quiet (fail)
                  go_wp2_with fail
                  exact ⟨⟨⟨_, rfl⟩, k + 1, by omega, by go_num⟩, by simp [intOf]; omega⟩
                · have hnn := hEF2.out rfl
                  have hnn' : ((n1 : Int) != (n2 : Int)) = false := by rw [hnn]; simp
                  clear hEF2 hnn
                  go_wp2_with fail
                  go_quiet (fail)
                  go_wp2_with fail
                  exact ⟨⟨⟨_, rfl⟩, k + 1, by omega, by go_num⟩, by simp [intOf]; omega⟩
              · obtain rfl : k = M.length := by omega
                go_wp2_with fail
                exact ⟨⟨⟨_, rfl⟩, j + 1, by omega, by go_num⟩, by simp [intOf]; omega⟩
          · obtain rfl : j = L.length := by omega
            rw [E7]
            go_wp2_with fail
            go_ret
            exact ⟨rfl, below_drewN' hBend.out _⟩
    · have hc' : (checkR l2 y [i2] == 0) = false := by simpa using hc2
      rw [hc1]
      obtain ⟨k, hk⟩ : ∃ k, checkR l2 y [i2] = k := ⟨_, rfl⟩
      rw [hk] at hc' ⊢
      clear hk hc1 hc2 k0 k1 k2
      go_wp2_with fail
      go_ret
      exact ⟨rfl, hB⟩
  · have hc' : (checkR l1 x [i1] == 0) = false := by simpa using hc1
    obtain ⟨k, hk⟩ : ∃ k, checkR l1 x [i1] = k := ⟨_, rfl⟩
    obtain ⟨k', hk'⟩ : ∃ k, checkR l2 y [i2] = k := ⟨_, rfl⟩
    rw [hk] at hc'
    rw [hk, hk']
    clear hk hk' hc1 k0 k1 k2
    go_wp2_with fail
    go_ret
    exact ⟨rfl, hB⟩
end Go.Proofs.Ytcafedfldmcbiaa
