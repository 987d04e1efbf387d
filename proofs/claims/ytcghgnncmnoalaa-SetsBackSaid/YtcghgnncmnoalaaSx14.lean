/- Reference 13: Write. Conditions: each contract's own premises. -/
import Derived.Test.YtcghgnncmnoalaaSx13
import Derived.Test.YtcghgnncmnoalaaRowM
import Derived.Test.YtcghgnncmnoalaaRd10
namespace Go.Proofs.Ytcghgnncmnoalaa
open Go.RowKit Go.Maps

/-- a block of rows -/
def RX (w : World) (j : Nat) : Prop := ∃ c z, w.heap[j]? = some (.cells c 82 z)
theorem chgRX {a b c : World} {B : Nat} (h : Chg a b (fun j => B ≤ j ∧ RX a j)) (k : Chg b c (fun j => B ≤ j ∧ RX b j)) : Chg a c (fun j => B ≤ j ∧ RX a j) :=
  h.trans k (fun i hi ⟨h1, c, z, hc⟩ => ⟨h1, Classical.byContradiction fun hn => hn ⟨c, z, (h.block i hi (fun hh => hn hh.2)).symm.trans hc⟩⟩)
theorem setXs_append (t : Tx) : ∀ (a b : List Ky) (L : List Rx), setXs t (a ++ b) L = setXs t b (setXs t a L)
  | [], _, _ => rfl
  | k :: a, b, L => setXs_append t a b (L.map (setX k t))
theorem setXs_keys (t : Tx) : ∀ (ks : List Ky) (L : List Rx), (setXs t ks L).map Rx.k = L.map Rx.k
  | [], _ => rfl
  | k :: ks, L => by
    show (setXs t ks (L.map (setX k t))).map Rx.k = _
    rw [setXs_keys t ks, List.map_map]
    exact List.map_congr_left (fun x _ => setX_k k t x)
theorem mem_keys {L : List Rx} {k : Ky} : (∃ x ∈ L, x.k = k) ↔ k ∈ L.map Rx.k := by
  rw [List.mem_map]
/-- one row set -/
theorem map_setX {L : List Rx} {k : Ky} (t : Tx) (hs : KySorted (L.map Rx.k)) {j : Nat} {x : Rx} (hx : L[j]? = some x) (hk : x.k = k) : L.map (setX k t) = L.set j { x with wrote := true, w := ⟨k, t.val, t.has⟩ } := by
  apply List.ext_getElem?
  intro i
  obtain ⟨hj, hje⟩ := List.getElem?_eq_some_iff.1 hx
  rw [List.getElem?_map, List.getElem?_set]
  by_cases e : j = i
  · subst e
    rw [if_pos rfl, if_pos hj, hx]
    show some (setX k t x) = _
    unfold setX
    rw [if_pos hk]
  · rw [if_neg e]
    cases hi : L[i]? with
    | none => rfl
    | some y =>
      show some (setX k t y) = some y
      unfold setX
      rw [if_neg]
      intro hy
      obtain ⟨hil, hie⟩ := List.getElem?_eq_some_iff.1 hi
      have h3 : (L.map Rx.k).Pairwise (fun a b => a.cmp b < 0) := hs
      rw [List.pairwise_map] at h3
      have hz : y.k.cmp x.k = 0 := (Ky.cmp_zero _ _).2 (by rw [hy, hk])
      have hz2 : x.k.cmp y.k = 0 := (Ky.cmp_zero _ _).2 (by rw [hy, hk])
      rcases Nat.lt_or_gt_of_ne e with hlt | hlt
      · have := List.pairwise_iff_getElem.1 h3 j i hj hil hlt
        rw [hje, hie] at this
        omega
      · have := List.pairwise_iff_getElem.1 h3 i j hil hj hlt
        rw [hje, hie] at this
        omega
/-- in a round of Write -/
structure WtI (w wr : World) (rb B : Nat) (L : List Rx) (t : Tx) (ks : List Ky) (i : Nat) : Prop where
  s : SrX wr rb B (setXs t (ks.take i) L)
  c : Chg w wr (fun j => B ≤ j ∧ RX w j)
def Write13 (w : World) (rb B : Nat) (L : List Rx) (t : Tx) (ks : List Ky) (e : Ending) (w' : World) : Prop :=
  ((∃ k ∈ ks, ∀ x ∈ L, x.k ≠ k) ∧ e = .returned (.int .i64 101) ∧ Below w.heap.size w w') ∨
    ((∀ k ∈ ks, ∃ x ∈ L, x.k = k) ∧ e = .returned (.int .i64 0) ∧ SrX w' rb B (setXs t ks L) ∧ Chg w w' (fun j => B ≤ j ∧ RX w j))
theorem take_snocK {ks : List Ky} {i : Nat} {x : Ky} (hx : ks[i]? = some x) : ks.take (i + 1) = ks.take i ++ [x] := by
  obtain ⟨hk', e⟩ := List.getElem?_eq_some_iff.1 hx
  rw [List.take_succ_eq_append_getElem hk', e]
set_option maxRecDepth 100000 in
set_option maxHeartbeats 4000000 in
theorem r13Write_any {w : World} {rb B : Nat} {L : List Rx} (h : SrX w rb B L) (hs : KySorted (L.map Rx.k)) (ka : Option Addr) (kcap : Nat) (ks : List Ky) (hv : kK.V w ka ks) (hl : ks.length ≤ 1000000)
    (hap : ks ≠ [] → ∀ b off, ka = some ⟨b, off, none⟩ → b < B ∨ ¬ RX w b) (t : Tx) :
    Calls Try.prog 36 #[.pointer (some ⟨rb, 0, none⟩), .slice ka ks.length kcap, .string t.val, .bool t.has] w (Write13 w rb B L t ks) := by
  have HS := Lib.hid h
  have HSO := Lib.hid hs
  have HV := Lib.hid hv
  have HAP := Lib.hid hap
  obtain ⟨n, hn⟩ : ∃ n, n = ks.length := ⟨_, rfl⟩
  rw [← hn] at hl ⊢
  have HN := Lib.hid hn
  clear h hs hv hap hn
  go_enter Try.func36, Try.ntmps36
  go_wp2_with fail
  go_loopw [9] (fun i wr => ∃ k : Nat, k ≤ n ∧ i = .int .i64 k ∧ Hid (∀ j ∈ ks.take k, ∃ x ∈ L, x.k = j) ∧ Hid (Below w.heap.size w wr)) (fun i _ => n - (intOf i).toNat)
  case atStart => exact ⟨0, Nat.zero_le _, rfl, Lib.hid (fun j hj => by simp at hj), Lib.hid (Below.refl _ _)⟩
  case round =>
    obtain ⟨k, hk, rfl, HI, HB⟩ := hrel
    by_cases hlt : k < n
    · have hltz : (k : Int) < (n : Int) := by omega
      obtain ⟨x, hx⟩ : ∃ x, ks[k]? = some x := ⟨_, List.getElem?_eq_getElem (by have := HN.out; omega)⟩
      obtain ⟨b, off, rfl, hat⟩ := HV.out (fun e => by rw [e] at hx; simp at hx)
      have hat2 := hat.below HB.out
      have c0 := hat2.cells k x hx 0 _ rfl
      have c1 := hat2.cells k x hx 1 _ rfl
      have c2 := hat2.cells k x hx 2 _ rfl
      have c3 := hat2.cells k x hx 3 _ rfl
      simp [kK] at c0 c1 c2 c3
      obtain ⟨sa, sc, e1, e2, e3⟩ := HS.out.ex
      have HS2 : Hid (SrX wr rb B L) := Lib.hid ⟨⟨sa, sc, (HB.out.block _ (Array.getElem?_eq_some_iff.1 e1).1).trans e1, e2.below HB.out, e3⟩, HS.out.n⟩
      have HX := Lib.hid hx
      clear hx hat hat2 e1 e2 e3
      go_wp2_with fail
      refine (r13Find_any HS2.out x).mono ?_
      rintro e w1 ⟨fv, rfl, hf, b1⟩
      have HB1 := Lib.hid (below_then HB.out b1)
      clear b1 c0 c1 c2 c3
      rcases hf with ⟨rfl, hno⟩ | ⟨fj, fx, rfl, hfx, hfk⟩
      · have HNO := Lib.hid hno
        clear hno
        go_wp2_with fail
        go_ret
        exact .inl ⟨⟨x, List.mem_of_getElem? HX.out, HNO.out⟩, rfl, HB1.out⟩
      · have t5 : decide ((fj : Int) < 0) = false := decide_eq_false (by omega)
        have HF : Hid (∃ x' ∈ L, x'.k = x) := Lib.hid ⟨fx, List.mem_of_getElem? hfx, hfk⟩
        clear hfx hfk
        go_wp2_with fail
        refine ⟨⟨k + 1, by omega, by go_num, Lib.hid (fun j hj => ?_), HB1⟩, by simp [intOf]; omega⟩
        rw [take_snocK HX.out] at hj
        rcases List.mem_append.1 hj with hj | hj
        · exact HI.out j hj
        · rw [List.mem_singleton.1 hj]; exact HF.out
    · obtain rfl : k = n := by omega
      have HALL : Hid (∀ j ∈ ks, ∃ x ∈ L, x.k = j) := Lib.hid (by have := HI.out; rw [HN.out, List.take_length] at this; exact this)
      have HW0 : Hid (WtI w wr rb B L t ks 0) := Lib.hid (by
        obtain ⟨sa, sc, e1, e2, e3⟩ := HS.out.ex
        exact ⟨⟨⟨sa, sc, (HB.out.block _ (Array.getElem?_eq_some_iff.1 e1).1).trans e1, e2.below HB.out, e3⟩, HS.out.n⟩, Chg.of_below HB.out _⟩)
      clear HI HB
      go_wp2_with fail
      go_loopw [10] (fun i wq => ∃ j : Nat, j ≤ k ∧ i = .int .i64 j ∧ Hid (WtI w wq rb B L t ks j)) (fun i _ => k - (intOf i).toNat)
      case atStart => exact ⟨0, Nat.zero_le _, rfl, HW0⟩
      case round =>
        obtain ⟨j, hj, rfl, HI⟩ := hrel
        by_cases hlt2 : j < k
        · have hltz : (j : Int) < (k : Int) := by omega
          obtain ⟨x, hx⟩ : ∃ x, ks[j]? = some x := ⟨_, List.getElem?_eq_getElem (by have := HN.out; omega)⟩
          obtain ⟨b, off, rfl, hat⟩ := HV.out (fun e => by rw [e] at hx; simp at hx)
          have HAT : Hid (∀ u, Chg w u (fun j => B ≤ j ∧ RX w j) → kK.At u b off ks) := Lib.hid (fun u hu => hat.of_block (hu.block b hat.lt (fun hS => by
            rcases HAP.out (fun e => by rw [e] at hx; simp at hx) b off rfl with q | q
            · omega
            · exact q hS.2)))
          have hat2 := HAT.out _ HI.out.c
          have c0 := hat2.cells j x hx 0 _ rfl
          have c1 := hat2.cells j x hx 1 _ rfl
          have c2 := hat2.cells j x hx 2 _ rfl
          have c3 := hat2.cells j x hx 3 _ rfl
          simp [kK] at c0 c1 c2 c3
          have HX := Lib.hid hx
          clear hx hat hat2
          go_wp2_with fail
          refine (r13Find_any HI.out.s x).mono ?_
          rintro e w1 ⟨fv, rfl, hf, b1⟩
          have hS1 : SrX w1 rb B (setXs t (ks.take j) L) := by
            obtain ⟨sa, sc, e1, e2, e3⟩ := HI.out.s.ex
            exact ⟨⟨sa, sc, (b1.block _ (Array.getElem?_eq_some_iff.1 e1).1).trans e1, e2.below b1, e3⟩, HI.out.s.n⟩
          have HC1 : Hid (Chg w w1 (fun j => B ≤ j ∧ RX w j)) := Lib.hid (HI.out.c.trans (Chg.of_below b1 _) (fun _ _ h => h))
          clear b1 c0 c1 c2 c3
          obtain ⟨L1, hL1⟩ : ∃ M, M = setXs t (ks.take j) L := ⟨_, rfl⟩
          rw [← hL1] at hf hS1
          have hK1 : L1.map Rx.k = L.map Rx.k := by rw [hL1]; exact setXs_keys _ _ _
          rcases hf with ⟨rfl, hno⟩ | ⟨fj, fx, rfl, hfx, hfk⟩
          · exfalso
            have h1 := mem_keys.1 (HALL.out x (List.mem_of_getElem? HX.out))
            rw [← hK1] at h1
            obtain ⟨y, hy, hyk⟩ := mem_keys.2 h1
            exact hno y hy hyk
          · obtain ⟨sa, sc, e1, e2, e3⟩ := hS1.ex
            obtain ⟨g, cp, hve, _, _, _⟩ := e2.at' (fun e => by rw [e] at hfx; simp at hfx)
            injection hve with hv1 hv2 hv3
            subst hv1
            obtain ⟨m, hm⟩ : ∃ m, m = L1.length := ⟨_, rfl⟩
            rw [← hm] at e1 e2 e3
            have hfl : fj < m := by rw [hm]; exact (List.getElem?_eq_some_iff.1 hfx).1
            have hflz : (fj : Int) < (m : Int) := by omega
            have hne : rb ≠ g := fun e => e3 (by rw [e]; rfl)
            have q0 := cell_of_blk e1 0
            obtain ⟨cur, hg, hrest⟩ := e2.blk
            clear hrest
            have th7 := e2.there (i := fj) (r := 7) (m := 1) (by rw [← hm]; exact hfl) (by show 7 + 1 ≤ 21; omega)
            obtain ⟨c7, f7⟩ := th7 0 (by omega)
            obtain ⟨u7, hu7⟩ := Option.isSome_iff_exists.1 c7
            have hu8 : w1.cell? ⟨g, fj * 21 + 7, none⟩ = some u7 := hu7
            have f8 : w1.frozen? ⟨g, fj * 21 + 7, none⟩ = false := f7
            simp at q0
            obtain ⟨y1, hy1⟩ : ∃ y : Rx, y = { fx with wrote := true } := ⟨_, rfl⟩
            have o1 := e2.upd (i := fj) (r := 7) (x := fx) (x' := y1) hfx [.bool true] (by show 7 + 1 ≤ 21; omega) (fun i => by
              rw [hy1, show kX.enc { fx with wrote := true } = (kX.enc fx).take 7 ++ [.bool true] ++ (kX.enc fx).drop (7 + [Value.bool true].length) from rfl]
              exact splice_at (by rw [kX.len]; show 7 + 1 ≤ 21; omega) i)
            obtain ⟨V, hV⟩ : ∃ V, V = w1.setCell ⟨g, fj * 21 + 7, none⟩ (.bool true) := ⟨_, rfl⟩
            have hVs : w1.setCells g (fj * 21 + 7) [.bool true] = V := by rw [hV]; rfl
            change kX.Own (w1.setCells g (fj * 21 + 7) [.bool true]) _ _ _ at o1
            rw [hVs] at o1
            have hRX : RX w1 g := ⟨cur, _, hg⟩
            have hBg : B ≤ g := by obtain ⟨_, _, _, _, q, _⟩ := e2.blk; exact q
            have cV : Chg w1 V (fun j => B ≤ j ∧ RX w1 j) := by rw [hV]; exact (Chg.refl w1 _).setCell (p := ⟨g, fj * 21 + 7, none⟩) (fun _ => ⟨hBg, hRX⟩) _
            have HCV : Hid (Chg w V (fun j => B ≤ j ∧ RX w j)) := Lib.hid (chgRX HC1.out cV)
            have eV : V.heap[rb]? = some (.cells #[.slice (some ⟨g, 0, none⟩) m sc] 60) := by rw [hV, Below.heap_setCell _ _ _ _ hne]; exact e1
            have HEV := Lib.hid eV
            have HO1 := Lib.hid o1
            have HY1 : Hid ((L1.set fj y1)[fj]? = some y1) := Lib.hid (List.getElem?_set_self (by rw [← hm]; exact hfl))
            have HSL : Hid ((L1.set fj y1).length = m) := Lib.hid (by rw [List.length_set, hm])
            have HNE := Lib.hid hne
            have HV9 := Lib.hid hV
            obtain ⟨y2, hy2⟩ : ∃ y : Rx, y = { y1 with w := ⟨x, t.val, t.has⟩ } := ⟨_, rfl⟩
            have HFIN : Hid ((L1.set fj y1).set fj y2 = setXs t (ks.take (j + 1)) L) := Lib.hid (by
              rw [take_snocK HX.out, setXs_append, ← hL1]
              show _ = L1.map (setX x t)
              rw [map_setX t (by rw [hK1]; exact HSO.out) hfx hfk, List.set_set, hy2, hy1])
            have HY2 := Lib.hid hy2
            have HM : Hid (m ≤ 1000000) := Lib.hid (by rw [hm]; exact hS1.n)
            have HE3 := Lib.hid e3
            clear hVs cV eV o1 hV hy1 hy2 hfx hfk hL1 hK1 hS1 e1 e2 e3 hm hg hRX hBg hv2 hv3 c7 f7 th7 hne hu7
            have t6 : decide ((fj : Int) < 0) = false := decide_eq_false (by omega)
            go_upto_region 11 with fail
            rw [← HV9.out]
            clear q0 hu8 f8
            have q0 := cell_of_blk HEV.out 0
            have hat2 := HAT.out _ HCV.out
            have c0 := hat2.cells j x HX.out 0 _ rfl
            have c1 := hat2.cells j x HX.out 1 _ rfl
            have c2 := hat2.cells j x HX.out 2 _ rfl
            have c3 := hat2.cells j x HX.out 3 _ rfl
            simp [kK] at c0 c1 c2 c3
            simp at q0
            clear hat2
            have HTH : Hid (V.drew.there g (fj * 21 + 9) 6) := Lib.hid (HO1.out.drew.there (i := fj) (r := 9) (m := 6) (by rw [HSL.out]; exact hfl) (by show 9 + 6 ≤ 21; omega))
            refine wp_region_still_tail 14 (by kernel_rfl) (by kernel_rfl) ?_
            change wpStill _ _ (World.drew _) (fun a' => wpList _ _ _ _ a' (World.drew _)) _ _
            simp only [List.take_succ_cons, List.take_zero, List.drop_succ_cons, List.drop_zero]
            repeat still_step
            refine wpStill_nil ?_
            refine wpList_store_mid (op := ⟨none, _, _, _, _, _⟩) rfl 80 (.tmp 57) (.tmp 55) rfl g (fj * 21 + 9) #[.int .i64 x.kind, .int .i64 x.a, .int .i64 x.b, .string x.s, .string t.val, .bool t.has] rfl rfl HTH.out (by kernel_rfl) (all_oneCell_toArray (kW.one ⟨x, t.val, t.has⟩)) ?_
            clear q0 c0 c1 c2 c3 t6
            obtain ⟨U, hU⟩ : ∃ U, U = V.drew.setCells g (fj * 21 + 9) [.int .i64 x.kind, .int .i64 x.a, .int .i64 x.b, .string x.s, .string t.val, .bool t.has] := ⟨_, rfl⟩
            have o2 := HO1.out.drew.upd (i := fj) (r := 9) (x := y1) (x' := y2) HY1.out [.int .i64 x.kind, .int .i64 x.a, .int .i64 x.b, .string x.s, .string t.val, .bool t.has] (by show 9 + 6 ≤ 21; omega) (fun i => by
              rw [HY2.out, show kX.enc { y1 with w := ⟨x, t.val, t.has⟩ } = (kX.enc y1).take 9 ++ [.int .i64 x.kind, .int .i64 x.a, .int .i64 x.b, .string x.s, .string t.val, .bool t.has] ++ (kX.enc y1).drop (9 + [Value.int .i64 x.kind, .int .i64 x.a, .int .i64 x.b, .string x.s, .string t.val, .bool t.has].length) from rfl]
              exact splice_at (by rw [kX.len]; show 9 + 6 ≤ 21; omega) i)
            change kX.Own (V.drew.setCells g (fj * 21 + 9) [.int .i64 x.kind, .int .i64 x.a, .int .i64 x.b, .string x.s, .string t.val, .bool t.has]) _ _ _ at o2
            show wpList _ _ _ _ _ (V.drew.setCells g (fj * 21 + 9) [.int .i64 x.kind, .int .i64 x.a, .int .i64 x.b, .string x.s, .string t.val, .bool t.has])
            rw [← hU] at o2 ⊢
            obtain ⟨cur2, hg2, hs21, hs22, hBg2, hs23⟩ := HO1.out.blk
            clear hs21 hs22 hs23
            have cU : Chg V U (fun j => B ≤ j ∧ RX V j) := by
              rw [hU]
              simp only [World.setCells]
              exact ((((((((Chg.refl V _).drew).setCell (p := ⟨g, _, none⟩) (fun _ => ⟨hBg2, cur2, _, hg2⟩) _).setCell (p := ⟨g, _, none⟩) (fun _ => ⟨hBg2, cur2, _, hg2⟩) _).setCell (p := ⟨g, _, none⟩) (fun _ => ⟨hBg2, cur2, _, hg2⟩) _).setCell (p := ⟨g, _, none⟩) (fun _ => ⟨hBg2, cur2, _, hg2⟩) _).setCell (p := ⟨g, _, none⟩) (fun _ => ⟨hBg2, cur2, _, hg2⟩) _).setCell (p := ⟨g, _, none⟩) (fun _ => ⟨hBg2, cur2, _, hg2⟩) _)
            have eU : U.heap[rb]? = some (.cells #[.slice (some ⟨g, 0, none⟩) m sc] 60) := by
              rw [hU]
              simp only [World.setCells]
              rw [Below.heap_setCell _ _ _ _ HNE.out, Below.heap_setCell _ _ _ _ HNE.out, Below.heap_setCell _ _ _ _ HNE.out, Below.heap_setCell _ _ _ _ HNE.out, Below.heap_setCell _ _ _ _ HNE.out, Below.heap_setCell _ _ _ _ HNE.out]
              exact HEV.out
            have HW' : Hid (WtI w U rb B L t ks (j + 1)) := Lib.hid ⟨by
              rw [← HFIN.out]
              have hll : ((L1.set fj y1).set fj y2).length = m := by rw [List.length_set, HSL.out]
              exact ⟨⟨some ⟨g, 0, none⟩, sc, by rw [hll]; exact eU, by rw [hll]; exact o2, by rw [hll]; exact HE3.out⟩, by rw [hll]; exact HM.out⟩, chgRX HCV.out cU⟩
            clear hU o2 cU eU hg2 hBg2
            go_wp2_with fail
            exact ⟨⟨j + 1, by omega, by go_num, HW'⟩, by simp [intOf]; omega⟩
        · obtain rfl : j = k := by omega
          go_wp2_with fail
          go_ret
          have := HI.out.s
          rw [HN.out, List.take_length] at this
          exact .inr ⟨HALL.out, rfl, this, HI.out.c⟩
end Go.Proofs.Ytcghgnncmnoalaa
