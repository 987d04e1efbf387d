/- Reference 13: Mark. Conditions: each contract's own premises. -/
import Derived.Test.YtcghgnncmnoalaaSx14
namespace Go.Proofs.Ytcghgnncmnoalaa
open Go.RowKit Go.Maps

def mbX (back : Bool) (x : Rx) : Rx := if back = true then backX x else markX x
/-- in a round of Mark -/
structure MkI (w wr : World) (rb B : Nat) (L M : List Rx) (back : Bool) (i : Nat) : Prop where
  s : SrX wr rb B M
  c : Chg w wr (fun j => B ≤ j ∧ RX w j)
  n : M.length = L.length
  m : ∀ j, M[j]? = if j < i then (L[j]?).map (mbX back) else L[j]?
theorem MkI.end {w wr : World} {rb B : Nat} {L M : List Rx} {back : Bool} (h : MkI w wr rb B L M back L.length) : M = L.map (mbX back) := by
  apply List.ext_getElem?
  intro j
  rw [h.m j, List.getElem?_map]
  by_cases e : j < L.length
  · rw [if_pos e]
  · rw [if_neg e, List.getElem?_eq_none (by omega)]; rfl
def Mark13 (w : World) (rb B : Nat) (L : List Rx) (back : Bool) (e : Ending) (w' : World) : Prop :=
  e = .returned (.tuple #[]) ∧ SrX w' rb B (L.map (mbX back)) ∧ Chg w w' (fun j => B ≤ j ∧ RX w j)
set_option maxRecDepth 100000 in
set_option maxHeartbeats 4000000 in
theorem r13Mark_any {w : World} {rb B : Nat} {L : List Rx} (h : SrX w rb B L) (back : Bool) :
    Calls Try.prog 39 #[.pointer (some ⟨rb, 0, none⟩), .bool back] w (Mark13 w rb B L back) := by
  have HI0 : Hid (MkI w w rb B L L back 0) := Lib.hid ⟨h, Chg.refl w _, rfl, fun j => by rw [if_neg (by omega)]⟩
  have HNL := Lib.hid h.n
  obtain ⟨n, hn⟩ : ∃ n, n = L.length := ⟨_, rfl⟩
  have HN := Lib.hid hn
  have hn6 : n ≤ 1000000 := by rw [hn]; exact h.n
  clear h hn
  go_enter Try.func39, Try.ntmps39
  go_wp2_with fail
  go_loopw [4] (fun i wr => ∃ j : Nat, j ≤ n ∧ i = .int .i64 j ∧ Hid (∃ M, MkI w wr rb B L M back j)) (fun i _ => n - (intOf i).toNat)
  case atStart => exact ⟨0, Nat.zero_le _, rfl, Lib.hid ⟨L, HI0.out⟩⟩
  case round =>
    obtain ⟨j, hj, rfl, HIX⟩ := hrel
    obtain ⟨M, hI⟩ := HIX.out
    have HI := Lib.hid hI
    obtain ⟨sa, sc, e1, e2, e3⟩ := hI.s.ex
    have hml : M.length = n := by rw [hI.n, HN.out]
    rw [hml] at e1 e2 e3
    have HE3 := Lib.hid e3
    clear hI
    by_cases hlt : j < n
    · have hltz : (j : Int) < (n : Int) := by omega
      have t6 : decide ((j : Int) < 0) = false := decide_eq_false (by omega)
      obtain ⟨x, hx⟩ : ∃ x, M[j]? = some x := ⟨_, List.getElem?_eq_getElem (by omega)⟩
      obtain ⟨g, cp, hve, _, _, hat⟩ := e2.at' (fun e => by rw [e] at hx; simp at hx)
      injection hve with hv1 hv2 hv3
      subst hv1
      have hne : rb ≠ g := fun e => e3 (by rw [e]; rfl)
      obtain ⟨cur, hg, hrest⟩ := e2.blk
      have hBg : B ≤ g := hrest.2.2.1
      clear hrest hv2 hv3
      have hjM : j < M.length := by omega
      have q0 := cell_of_blk e1 0
      simp at q0
      have HRX : Hid (RX wr g) := Lib.hid ⟨cur, _, hg⟩
      have HNE := Lib.hid hne
      have HBG := Lib.hid hBg
      have HX := Lib.hid hx
      have HO0 := Lib.hid e2
      have HE1 := Lib.hid e1
      have HAT := Lib.hid hat
      have HLM : Hid (M.length = n) := Lib.hid hml
      have HLX : Hid (∀ y, mbX back x = y → ∀ U, SrX U rb B (M.set j y) → Chg wr U (fun j => B ≤ j ∧ RX wr j) → MkI w U rb B L (M.set j y) back (j + 1)) := Lib.hid (fun y hy U h1 h2 => by
        refine ⟨h1, chgRX HI.out.c h2, by rw [List.length_set]; exact HI.out.n, fun i => ?_⟩
        rw [List.getElem?_set]
        have hm := HI.out.m
        by_cases e : j = i
        · subst e
          rw [if_pos rfl, if_pos (by rw [HLM.out]; exact hlt), if_pos (Nat.lt_succ_self _)]
          have := hm j
          rw [HX.out, if_neg (Nat.lt_irrefl _)] at this
          rw [← this, ← hy]; rfl
        · rw [if_neg e, hm i]
          by_cases e2 : i < j
          · rw [if_pos e2, if_pos (by omega)]
          · rw [if_neg e2, if_neg (by omega)])
      clear hx e1 e2 e3 hg hBg hml hat hne
      cases back
      · obtain ⟨y1, hy1⟩ : ∃ y : Rx, y = { x with marked := x.wrote } := ⟨_, rfl⟩
        obtain ⟨y2, hy2⟩ : ∃ y : Rx, y = { y1 with m := y1.w } := ⟨_, rfl⟩
        have c7 := HAT.out.cells j x HX.out 7 _ rfl
        have th7 := HO0.out.there (i := j) (r := 8) (m := 1) hjM (by show 8 + 1 ≤ 21; omega)
        obtain ⟨c8, f8⟩ := th7 0 (by omega)
        obtain ⟨u8, hu8⟩ := Option.isSome_iff_exists.1 c8
        have hu9 : wr.cell? ⟨g, j * 21 + 8, none⟩ = some u8 := hu8
        have f9 : wr.frozen? ⟨g, j * 21 + 8, none⟩ = false := f8
        simp [kX] at c7
        clear c8 f8 th7 hu8
        go_upto_region 6 with fail
        refine wp_region_still_tail 15 (by kernel_rfl) (by kernel_rfl) ?_
        change wpStill _ _ (World.drew _) (fun a' => wpList _ _ _ _ a' (World.drew _)) _ _
        simp only [List.take_succ_cons, List.take_zero, List.drop_succ_cons, List.drop_zero]
        repeat still_step
        refine wpStill_nil ?_
        go_upto_region 7 with fail
        clear c7 hu9 f9 q0
        obtain ⟨V, hV⟩ : ∃ V, V = (wr.setCell ⟨g, j * 21 + 8, none⟩ (.bool x.wrote)).drew := ⟨_, rfl⟩
        rw [← hV]
        have o1 := HO0.out.drew.upd (i := j) (r := 8) (x := x) (x' := y1) HX.out [.bool x.wrote] (by show 8 + 1 ≤ 21; omega) (fun i => by
          rw [hy1, show kX.enc { x with marked := x.wrote } = (kX.enc x).take 8 ++ [.bool x.wrote] ++ (kX.enc x).drop (8 + [Value.bool x.wrote].length) from rfl]
          exact splice_at (by rw [kX.len]; show 8 + 1 ≤ 21; omega) i)
        have hVs : wr.drew.setCells g (j * 21 + 8) [.bool x.wrote] = V := by rw [hV]; rfl
        change kX.Own (wr.drew.setCells g (j * 21 + 8) [.bool x.wrote]) _ _ _ at o1
        rw [hVs] at o1
        have cV : Chg wr V (fun j => B ≤ j ∧ RX wr j) := by rw [hV]; exact ((Chg.refl wr _).setCell (p := ⟨g, j * 21 + 8, none⟩) (fun _ => ⟨HBG.out, HRX.out⟩) _).drew
        have eV : V.heap[rb]? = some (.cells #[.slice (some ⟨g, 0, none⟩) n sc] 60) := by rw [hV]; show (wr.setCell _ _).heap[rb]? = _; rw [Below.heap_setCell _ _ _ _ HNE.out]; exact HE1.out
        have HEV := Lib.hid eV
        have HO1 := Lib.hid o1
        have HCV := Lib.hid cV
        have HY1 : Hid ((M.set j y1)[j]? = some y1) := Lib.hid (List.getElem?_set_self hjM)
        obtain ⟨m0, m1, m2, m3, m4, m5, hwk⟩ : ∃ m0 m1 m2 m3 m4 m5, y1.w = ⟨⟨m0, m1, m2, m3⟩, m4, m5⟩ := ⟨_, _, _, _, _, _, rfl⟩
        have hy2' : y2 = { y1 with m := ⟨⟨m0, m1, m2, m3⟩, m4, m5⟩ } := by rw [hy2, hwk]
        have HY2 := Lib.hid hy2'
        have HFX : Hid (mbX false x = y2) := Lib.hid (by rw [hy2, hy1]; rfl)
        obtain ⟨b1, cp1, hve1, _, _, hat1⟩ := o1.at' (fun e => by have := HY1.out; rw [e] at this; simp at this)
        injection hve1 with hv1 hv2 hv3
        injection hv1 with hv1
        injection hv1 with hv1
        subst hv1
        have d0 := hat1.cells j y1 HY1.out 9 (.int .i64 m0) (by show some (Value.int .i64 y1.w.k.kind) = _; rw [hwk])
        have d1 := hat1.cells j y1 HY1.out (9 + 1) (.int .i64 m1) (by show some (Value.int .i64 y1.w.k.a) = _; rw [hwk])
        have d2 := hat1.cells j y1 HY1.out (9 + 2) (.int .i64 m2) (by show some (Value.int .i64 y1.w.k.b) = _; rw [hwk])
        have d3 := hat1.cells j y1 HY1.out (9 + 3) (.string m3) (by show some (Value.string y1.w.k.s) = _; rw [hwk])
        have d4 := hat1.cells j y1 HY1.out (9 + 4) (.string m4) (by show some (Value.string y1.w.val) = _; rw [hwk])
        have d5 := hat1.cells j y1 HY1.out (9 + 5) (.bool m5) (by show some (Value.bool y1.w.has) = _; rw [hwk])
        have q0 := cell_of_blk HEV.out 0
        simp [kX] at d0 d1 d2 d3 d4 d5
        simp at q0
        have HTH : Hid (V.drew.there g (j * 21 + 15) 6) := Lib.hid (HO1.out.drew.there (i := j) (r := 15) (m := 6) (by rw [List.length_set]; exact hjM) (by show 15 + 6 ≤ 21; omega))
        clear hv2 hv3 hat1 hy2 hy2' hwk hy1 hV o1 hVs cV eV
        refine wp_region_still_tail 15 (by kernel_rfl) (by kernel_rfl) ?_
        change wpStill _ _ (World.drew _) (fun a' => wpList _ _ _ _ a' (World.drew _)) _ _
        simp only [List.take_succ_cons, List.take_zero, List.drop_succ_cons, List.drop_zero]
        repeat still_step
        refine wpStill_nil ?_
        refine wpList_store_mid (op := ⟨none, _, _, _, _, _⟩) rfl 80 (.tmp 74) (.tmp 72) rfl g (j * 21 + 15) #[.int .i64 m0, .int .i64 m1, .int .i64 m2, .string m3, .string m4, .bool m5] rfl rfl HTH.out (by kernel_rfl) (all_oneCell_toArray (kW.one ⟨⟨m0, m1, m2, m3⟩, m4, m5⟩)) ?_
        clear q0 d0 d1 d2 d3 d4 d5 t6
        obtain ⟨U, hU⟩ : ∃ U, U = V.drew.setCells g (j * 21 + 15) [.int .i64 m0, .int .i64 m1, .int .i64 m2, .string m3, .string m4, .bool m5] := ⟨_, rfl⟩
        have o2 := HO1.out.drew.upd (i := j) (r := 15) (x := y1) (x' := y2) HY1.out [.int .i64 m0, .int .i64 m1, .int .i64 m2, .string m3, .string m4, .bool m5] (by show 15 + 6 ≤ 21; omega) (fun i => by
          rw [HY2.out, show kX.enc { y1 with m := ⟨⟨m0, m1, m2, m3⟩, m4, m5⟩ } = (kX.enc y1).take 15 ++ [.int .i64 m0, .int .i64 m1, .int .i64 m2, .string m3, .string m4, .bool m5] ++ (kX.enc y1).drop (15 + [Value.int .i64 m0, .int .i64 m1, .int .i64 m2, .string m3, .string m4, .bool m5].length) from rfl]
          exact splice_at (by rw [kX.len]; show 15 + 6 ≤ 21; omega) i)
        change kX.Own (V.drew.setCells g (j * 21 + 15) [.int .i64 m0, .int .i64 m1, .int .i64 m2, .string m3, .string m4, .bool m5]) _ _ _ at o2
        show wpList _ _ _ _ _ (V.drew.setCells g (j * 21 + 15) [.int .i64 m0, .int .i64 m1, .int .i64 m2, .string m3, .string m4, .bool m5])
        rw [← hU] at o2 ⊢
        obtain ⟨cur2, hg2, hs21, hs22, hBg2, hs23⟩ := HO1.out.blk
        clear hs21 hs22 hs23
        have cU : Chg V U (fun j => B ≤ j ∧ RX V j) := by
          rw [hU]
          simp only [World.setCells]
          exact ((((((((Chg.refl V _).drew).setCell (p := ⟨g, _, none⟩) (fun _ => ⟨hBg2, cur2, _, hg2⟩) _).setCell (p := ⟨g, _, none⟩) (fun _ => ⟨hBg2, cur2, _, hg2⟩) _).setCell (p := ⟨g, _, none⟩) (fun _ => ⟨hBg2, cur2, _, hg2⟩) _).setCell (p := ⟨g, _, none⟩) (fun _ => ⟨hBg2, cur2, _, hg2⟩) _).setCell (p := ⟨g, _, none⟩) (fun _ => ⟨hBg2, cur2, _, hg2⟩) _).setCell (p := ⟨g, _, none⟩) (fun _ => ⟨hBg2, cur2, _, hg2⟩) _)
        have eU : U.heap[rb]? = some (.cells #[.slice (some ⟨g, 0, none⟩) n sc] 60) := by
          rw [hU]
          simp only [World.setCells]
          rw [Below.heap_setCell _ _ _ _ HNE.out, Below.heap_setCell _ _ _ _ HNE.out, Below.heap_setCell _ _ _ _ HNE.out, Below.heap_setCell _ _ _ _ HNE.out, Below.heap_setCell _ _ _ _ HNE.out, Below.heap_setCell _ _ _ _ HNE.out]
          exact HEV.out
        have HW' : Hid (∃ M', MkI w U rb B L M' false (j + 1)) := Lib.hid ⟨_, HLX.out y2 HFX.out U (by
          rw [List.set_set] at o2
          have hll : (M.set j y2).length = n := by rw [List.length_set, HLM.out]
          exact ⟨⟨some ⟨g, 0, none⟩, sc, by rw [hll]; exact eU, by rw [hll]; exact o2, by rw [hll]; exact HE3.out⟩, by rw [hll]; exact hn6⟩) (chgRX HCV.out cU)⟩
        clear hU o2 cU eU hg2 hBg2
        go_wp2_with fail
        exact ⟨⟨j + 1, by omega, by go_num, HW'⟩, by simp [intOf]; omega⟩
      · obtain ⟨y1, hy1⟩ : ∃ y : Rx, y = { x with wrote := x.marked } := ⟨_, rfl⟩
        obtain ⟨y2, hy2⟩ : ∃ y : Rx, y = { y1 with w := y1.m } := ⟨_, rfl⟩
        have c7 := HAT.out.cells j x HX.out 8 _ rfl
        have th7 := HO0.out.there (i := j) (r := 7) (m := 1) hjM (by show 7 + 1 ≤ 21; omega)
        obtain ⟨c8, f8⟩ := th7 0 (by omega)
        obtain ⟨u8, hu8⟩ := Option.isSome_iff_exists.1 c8
        have hu9 : wr.cell? ⟨g, j * 21 + 7, none⟩ = some u8 := hu8
        have f9 : wr.frozen? ⟨g, j * 21 + 7, none⟩ = false := f8
        simp [kX] at c7
        clear c8 f8 th7 hu8
        go_upto_region 4 with fail
        refine wp_region_still_tail 15 (by kernel_rfl) (by kernel_rfl) ?_
        change wpStill _ _ (World.drew _) (fun a' => wpList _ _ _ _ a' (World.drew _)) _ _
        simp only [List.take_succ_cons, List.take_zero, List.drop_succ_cons, List.drop_zero]
        repeat still_step
        refine wpStill_nil ?_
        go_upto_region 5 with fail
        clear c7 hu9 f9 q0
        obtain ⟨V, hV⟩ : ∃ V, V = (wr.setCell ⟨g, j * 21 + 7, none⟩ (.bool x.marked)).drew := ⟨_, rfl⟩
        rw [← hV]
        have o1 := HO0.out.drew.upd (i := j) (r := 7) (x := x) (x' := y1) HX.out [.bool x.marked] (by show 7 + 1 ≤ 21; omega) (fun i => by
          rw [hy1, show kX.enc { x with wrote := x.marked } = (kX.enc x).take 7 ++ [.bool x.marked] ++ (kX.enc x).drop (7 + [Value.bool x.marked].length) from rfl]
          exact splice_at (by rw [kX.len]; show 7 + 1 ≤ 21; omega) i)
        have hVs : wr.drew.setCells g (j * 21 + 7) [.bool x.marked] = V := by rw [hV]; rfl
        change kX.Own (wr.drew.setCells g (j * 21 + 7) [.bool x.marked]) _ _ _ at o1
        rw [hVs] at o1
        have cV : Chg wr V (fun j => B ≤ j ∧ RX wr j) := by rw [hV]; exact ((Chg.refl wr _).setCell (p := ⟨g, j * 21 + 7, none⟩) (fun _ => ⟨HBG.out, HRX.out⟩) _).drew
        have eV : V.heap[rb]? = some (.cells #[.slice (some ⟨g, 0, none⟩) n sc] 60) := by rw [hV]; show (wr.setCell _ _).heap[rb]? = _; rw [Below.heap_setCell _ _ _ _ HNE.out]; exact HE1.out
        have HEV := Lib.hid eV
        have HO1 := Lib.hid o1
        have HCV := Lib.hid cV
        have HY1 : Hid ((M.set j y1)[j]? = some y1) := Lib.hid (List.getElem?_set_self hjM)
        obtain ⟨m0, m1, m2, m3, m4, m5, hwk⟩ : ∃ m0 m1 m2 m3 m4 m5, y1.m = ⟨⟨m0, m1, m2, m3⟩, m4, m5⟩ := ⟨_, _, _, _, _, _, rfl⟩
        have hy2' : y2 = { y1 with w := ⟨⟨m0, m1, m2, m3⟩, m4, m5⟩ } := by rw [hy2, hwk]
        have HY2 := Lib.hid hy2'
        have HFX : Hid (mbX true x = y2) := Lib.hid (by rw [hy2, hy1]; rfl)
        obtain ⟨b1, cp1, hve1, _, _, hat1⟩ := o1.at' (fun e => by have := HY1.out; rw [e] at this; simp at this)
        injection hve1 with hv1 hv2 hv3
        injection hv1 with hv1
        injection hv1 with hv1
        subst hv1
        have d0 := hat1.cells j y1 HY1.out 15 (.int .i64 m0) (by show some (Value.int .i64 y1.m.k.kind) = _; rw [hwk])
        have d1 := hat1.cells j y1 HY1.out (15 + 1) (.int .i64 m1) (by show some (Value.int .i64 y1.m.k.a) = _; rw [hwk])
        have d2 := hat1.cells j y1 HY1.out (15 + 2) (.int .i64 m2) (by show some (Value.int .i64 y1.m.k.b) = _; rw [hwk])
        have d3 := hat1.cells j y1 HY1.out (15 + 3) (.string m3) (by show some (Value.string y1.m.k.s) = _; rw [hwk])
        have d4 := hat1.cells j y1 HY1.out (15 + 4) (.string m4) (by show some (Value.string y1.m.val) = _; rw [hwk])
        have d5 := hat1.cells j y1 HY1.out (15 + 5) (.bool m5) (by show some (Value.bool y1.m.has) = _; rw [hwk])
        have q0 := cell_of_blk HEV.out 0
        simp [kX] at d0 d1 d2 d3 d4 d5
        simp at q0
        have HTH : Hid (V.drew.there g (j * 21 + 9) 6) := Lib.hid (HO1.out.drew.there (i := j) (r := 9) (m := 6) (by rw [List.length_set]; exact hjM) (by show 9 + 6 ≤ 21; omega))
        clear hv2 hv3 hat1 hy2 hy2' hwk hy1 hV o1 hVs cV eV
        refine wp_region_still_tail 15 (by kernel_rfl) (by kernel_rfl) ?_
        change wpStill _ _ (World.drew _) (fun a' => wpList _ _ _ _ a' (World.drew _)) _ _
        simp only [List.take_succ_cons, List.take_zero, List.drop_succ_cons, List.drop_zero]
        repeat still_step
        refine wpStill_nil ?_
        refine wpList_store_mid (op := ⟨none, _, _, _, _, _⟩) rfl 80 (.tmp 44) (.tmp 42) rfl g (j * 21 + 9) #[.int .i64 m0, .int .i64 m1, .int .i64 m2, .string m3, .string m4, .bool m5] rfl rfl HTH.out (by kernel_rfl) (all_oneCell_toArray (kW.one ⟨⟨m0, m1, m2, m3⟩, m4, m5⟩)) ?_
        clear q0 d0 d1 d2 d3 d4 d5 t6
        obtain ⟨U, hU⟩ : ∃ U, U = V.drew.setCells g (j * 21 + 9) [.int .i64 m0, .int .i64 m1, .int .i64 m2, .string m3, .string m4, .bool m5] := ⟨_, rfl⟩
        have o2 := HO1.out.drew.upd (i := j) (r := 9) (x := y1) (x' := y2) HY1.out [.int .i64 m0, .int .i64 m1, .int .i64 m2, .string m3, .string m4, .bool m5] (by show 9 + 6 ≤ 21; omega) (fun i => by
          rw [HY2.out, show kX.enc { y1 with w := ⟨⟨m0, m1, m2, m3⟩, m4, m5⟩ } = (kX.enc y1).take 9 ++ [.int .i64 m0, .int .i64 m1, .int .i64 m2, .string m3, .string m4, .bool m5] ++ (kX.enc y1).drop (9 + [Value.int .i64 m0, .int .i64 m1, .int .i64 m2, .string m3, .string m4, .bool m5].length) from rfl]
          exact splice_at (by rw [kX.len]; show 9 + 6 ≤ 21; omega) i)
        change kX.Own (V.drew.setCells g (j * 21 + 9) [.int .i64 m0, .int .i64 m1, .int .i64 m2, .string m3, .string m4, .bool m5]) _ _ _ at o2
        show wpList _ _ _ _ _ (V.drew.setCells g (j * 21 + 9) [.int .i64 m0, .int .i64 m1, .int .i64 m2, .string m3, .string m4, .bool m5])
        rw [← hU] at o2 ⊢
        obtain ⟨cur2, hg2, hs21, hs22, hBg2, hs23⟩ := HO1.out.blk
        clear hs21 hs22 hs23
        have cU : Chg V U (fun j => B ≤ j ∧ RX V j) := by
          rw [hU]
          simp only [World.setCells]
          exact ((((((((Chg.refl V _).drew).setCell (p := ⟨g, _, none⟩) (fun _ => ⟨hBg2, cur2, _, hg2⟩) _).setCell (p := ⟨g, _, none⟩) (fun _ => ⟨hBg2, cur2, _, hg2⟩) _).setCell (p := ⟨g, _, none⟩) (fun _ => ⟨hBg2, cur2, _, hg2⟩) _).setCell (p := ⟨g, _, none⟩) (fun _ => ⟨hBg2, cur2, _, hg2⟩) _).setCell (p := ⟨g, _, none⟩) (fun _ => ⟨hBg2, cur2, _, hg2⟩) _).setCell (p := ⟨g, _, none⟩) (fun _ => ⟨hBg2, cur2, _, hg2⟩) _)
        have eU : U.heap[rb]? = some (.cells #[.slice (some ⟨g, 0, none⟩) n sc] 60) := by
          rw [hU]
          simp only [World.setCells]
          rw [Below.heap_setCell _ _ _ _ HNE.out, Below.heap_setCell _ _ _ _ HNE.out, Below.heap_setCell _ _ _ _ HNE.out, Below.heap_setCell _ _ _ _ HNE.out, Below.heap_setCell _ _ _ _ HNE.out, Below.heap_setCell _ _ _ _ HNE.out]
          exact HEV.out
        have HW' : Hid (∃ M', MkI w U rb B L M' true (j + 1)) := Lib.hid ⟨_, HLX.out y2 HFX.out U (by
          rw [List.set_set] at o2
          have hll : (M.set j y2).length = n := by rw [List.length_set, HLM.out]
          exact ⟨⟨some ⟨g, 0, none⟩, sc, by rw [hll]; exact eU, by rw [hll]; exact o2, by rw [hll]; exact HE3.out⟩, by rw [hll]; exact hn6⟩) (chgRX HCV.out cU)⟩
        clear hU o2 cU eU hg2 hBg2
        go_wp2_with fail
        exact ⟨⟨j + 1, by omega, by go_num, HW'⟩, by simp [intOf]; omega⟩
    · obtain rfl : j = n := by omega
      have q0 := cell_of_blk e1 0
      simp at q0
      clear e1 e2 e3 hml
      go_wp2_with fail
      go_end0
      have hE := HI.out
      rw [HN.out] at hE
      refine ⟨rfl, ?_, hE.c⟩
      rw [← hE.end]
      exact hE.s
end Go.Proofs.Ytcghgnncmnoalaa
