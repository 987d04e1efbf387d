/- WebSpans: the walk. Conditions: the theorem's own premises. -/
import Derived.Test.YtcafedfldmcbiaaWbAwake
import Derived.Test.YtcafedfldmcbiaaWbMem
import Derived.Test.YtcafedfldmcbiaaSpansPlain
namespace Go.Proofs.Ytcafedfldmcbiaa
open Go.RowKit Go.Maps

/-- the boxes of three values, behind whatever is made since -/
theorem boxes3 (a b c : Vl) (w : World) : ∀ w', Below (((w.alloc (.cells #[.int .i64 a.kind, .int .i64 a.n, .string a.s] 42)).alloc (.cells #[.int .i64 b.kind, .int .i64 b.n, .string b.s] 42)).alloc (.cells #[.int .i64 c.kind, .int .i64 c.n, .string c.s] 42)).heap.size (((w.alloc (.cells #[.int .i64 a.kind, .int .i64 a.n, .string a.s] 42)).alloc (.cells #[.int .i64 b.kind, .int .i64 b.n, .string b.s] 42)).alloc (.cells #[.int .i64 c.kind, .int .i64 c.n, .string c.s] 42)) w' →
    (w'.cell? ⟨w.heap.size, 0, none⟩ = some (.int .i64 a.kind) ∧ w'.cell? ⟨w.heap.size, 1, none⟩ = some (.int .i64 a.n) ∧ w'.cell? ⟨w.heap.size, 2, none⟩ = some (.string a.s)) ∧
    (w'.cell? ⟨w.heap.size + 1, 0, none⟩ = some (.int .i64 b.kind) ∧ w'.cell? ⟨w.heap.size + 1, 1, none⟩ = some (.int .i64 b.n) ∧ w'.cell? ⟨w.heap.size + 1, 2, none⟩ = some (.string b.s)) ∧
    (w'.cell? ⟨w.heap.size + 2, 0, none⟩ = some (.int .i64 c.kind) ∧ w'.cell? ⟨w.heap.size + 2, 1, none⟩ = some (.int .i64 c.n) ∧ w'.cell? ⟨w.heap.size + 2, 2, none⟩ = some (.string c.s)) ∧ w.heap.size + 2 < w'.heap.size ∧ Below w.heap.size w w' := by
  intro w' hb
  obtain ⟨W1, hW1⟩ : ∃ W1, W1 = w.alloc (.cells #[.int .i64 a.kind, .int .i64 a.n, .string a.s] 42) := ⟨_, rfl⟩
  rw [← hW1] at hb
  obtain ⟨W2, hW2⟩ : ∃ W2, W2 = W1.alloc (.cells #[.int .i64 b.kind, .int .i64 b.n, .string b.s] 42) := ⟨_, rfl⟩
  rw [← hW2] at hb
  obtain ⟨W3, hW3⟩ : ∃ W3, W3 = W2.alloc (.cells #[.int .i64 c.kind, .int .i64 c.n, .string c.s] 42) := ⟨_, rfl⟩
  rw [← hW3] at hb
  have z1 : W1.heap.size = w.heap.size + 1 := by rw [hW1, size_alloc]
  have z2 : W2.heap.size = w.heap.size + 2 := by rw [hW2, size_alloc, z1]
  have z3 : W3.heap.size = w.heap.size + 3 := by rw [hW3, size_alloc, z2]
  have e3 : W3.heap[w.heap.size + 2]? = some (.cells #[.int .i64 c.kind, .int .i64 c.n, .string c.s] 42) := by rw [hW3, ← z2]; exact heap_new W2 _
  have e2 : W3.heap[w.heap.size + 1]? = some (.cells #[.int .i64 b.kind, .int .i64 b.n, .string b.s] 42) := by rw [hW3, Below.heap_alloc _ _ _ (by rw [z2]; omega), hW2, ← z1]; exact heap_new W1 _
  have e1 : W3.heap[w.heap.size]? = some (.cells #[.int .i64 a.kind, .int .i64 a.n, .string a.s] 42) := by rw [hW3, Below.heap_alloc _ _ _ (by rw [z2]; omega), hW2, Below.heap_alloc _ _ _ (by rw [z1]; omega), hW1]; exact heap_new w _
  have d1 := (hb.block _ (by rw [z3]; omega)).trans e1
  have d2 := (hb.block _ (by rw [z3]; omega)).trans e2
  have d3 := (hb.block _ (by rw [z3]; omega)).trans e3
  have B3 : Below w.heap.size w W3 := by rw [hW3, hW2, hW1]; exact below_al (below_al (below_box w _) _) _
  refine ⟨⟨by rw [cell_of_blk d1]; rfl, by rw [cell_of_blk d1]; rfl, by rw [cell_of_blk d1]; rfl⟩, ⟨by rw [cell_of_blk d2]; rfl, by rw [cell_of_blk d2]; rfl, by rw [cell_of_blk d2]; rfl⟩, ⟨by rw [cell_of_blk d3]; rfl, by rw [cell_of_blk d3]; rfl, by rw [cell_of_blk d3]; rfl⟩, (Array.getElem?_eq_some_iff.1 d3).1, below_then B3 hb⟩

set_option maxRecDepth 100000 in
set_option maxHeartbeats 2000000 in
theorem spans_no (v lo hi : Vl) (w : World) (hl : lo.Ok) (hh : hi.Ok) (r : (lo.right && hi.right) = false) :
    Calls Try.prog 4 #[.agg #[.int .i64 v.kind, .int .i64 v.n, .string v.s], .agg #[.int .i64 lo.kind, .int .i64 lo.n, .string lo.s], .agg #[.int .i64 hi.kind, .int .i64 hi.n, .string hi.s]] w fun e w' => e = .returned (.bool true) ∧ Below w.heap.size w w' := by
  have HE := Lib.hid (boxes3 v lo hi w)
  have HL := Lib.hid hl
  have HH := Lib.hid hh
  have HR := Lib.hid r
  clear hl hh r
  go_enter Try.func4, Try.ntmps4
  go_wp2_with fail
  refine (awake21_any _).mono ?_
  rintro e w1 ⟨rfl, hb1⟩
  obtain ⟨_, ⟨l0, l1, l2⟩, ⟨h0, h1, h2⟩, hlw, _⟩ := HE.out w1 hb1
  go_wp2_with fail
  refine (span_no lo hi _ HL.out HH.out HR.out).mono ?_
  rintro e w2 ⟨rfl, hb2⟩
  replace hb2 := below_then hb1 hb2
  clear l0 l1 l2 h0 h1 h2 hlw hb1
  obtain ⟨_, ⟨l0, l1, l2⟩, ⟨h0, h1, h2⟩, hlw, _⟩ := HE.out w2 hb2
  go_wp2_with fail
  refine (r2right_any lo _ HL.out).mono ?_
  rintro e w3 ⟨rfl, hb3⟩
  replace hb3 := below_then hb2 hb3
  clear l0 l1 l2 h0 h1 h2 hlw hb2
  obtain ⟨_, _, ⟨h0, h1, h2⟩, hlw, hBw⟩ := HE.out w3 hb3
  cases rl : lo.right
  · go_wp2_with fail
    go_ret
    exact ⟨rfl, hBw⟩
  · have RH : Hid (hi.right = false) := Lib.hid (by have := HR.out; rw [rl] at this; simpa using this)
    clear rl
    go_wp2_with fail
    refine (r2right_any hi _ HH.out).mono ?_
    rintro e w4 ⟨rfl, hb4⟩
    rw [RH.out]
    replace hb4 := below_then hb3 hb4
    obtain ⟨_, _, _, _, hBw4⟩ := HE.out w4 hb4
    go_wp2_with fail
    go_ret
    exact ⟨rfl, hBw4⟩

theorem ids_at {W : World} {BI : Nat} (e : W.heap[BI]? = some (.cells #[.int .i64 0, .int .i64 1, .int .i64 255, .int .i64 4294967296, .int .i64 1099511627775] 3)) : ∀ j, j < 5 → ∃ m : Nat, m < 1099511627776 ∧ ∀ w', Below W.heap.size W w' → w'.cell? ⟨BI, j, none⟩ = some (.int .i64 (m : Int)) := by
  intro j hj
  have e' := fun w' (hb : Below W.heap.size W w') => (hb.block _ (Array.getElem?_eq_some_iff.1 e).1).trans e
  match j, hj with
  | 0, _ => exact ⟨0, by omega, fun w' hb => by rw [cell_of_blk (e' w' hb)]; rfl⟩
  | 1, _ => exact ⟨1, by omega, fun w' hb => by rw [cell_of_blk (e' w' hb)]; rfl⟩
  | 2, _ => exact ⟨255, by omega, fun w' hb => by rw [cell_of_blk (e' w' hb)]; rfl⟩
  | 3, _ => exact ⟨4294967296, by omega, fun w' hb => by rw [cell_of_blk (e' w' hb)]; rfl⟩
  | 4, _ => exact ⟨1099511627775, by omega, fun w' hb => by rw [cell_of_blk (e' w' hb)]; rfl⟩

theorem r2order_L (a b : List UInt8) (o : Int) (w : World) (h : Lib.compareBytes a b = o) (ha : a.length ≤ 2000) :
    Calls Try.prog 18 #[.string ⟨a.toArray⟩, .string ⟨b.toArray⟩] w fun e w' => e = .returned (.int .i64 o) ∧ ∃ n, w' = w.drewN n := by
  refine (r2order_any ⟨a.toArray⟩ ⟨b.toArray⟩ w (by unfold maxLen; show a.toArray.size ≤ _; simp; omega)).mono ?_
  rintro e w' ⟨rfl, n, rfl⟩
  exact ⟨by rw [← h], n, rfl⟩

set_option maxRecDepth 100000 in
set_option maxHeartbeats 4000000 in
theorem spans_yes (v lo hi : Vl) (w : World) (hv : v.Ok) (hl : lo.Ok) (hh : hi.Ok) (rl : lo.right = true) (rh : hi.right = true) :
    Calls Try.prog 4 #[.agg #[.int .i64 v.kind, .int .i64 v.n, .string v.s], .agg #[.int .i64 lo.kind, .int .i64 lo.n, .string lo.s], .agg #[.int .i64 hi.kind, .int .i64 hi.n, .string hi.s]] w fun e w' => e = .returned (.bool true) ∧ Below w.heap.size w w' := by
  have HE := Lib.hid (boxes3 v lo hi w)
  have hlh := bytes_len rh
  have hll := bytes_len rl
  have haddH : ∀ w, (Op.stringOp .add ⟨hi.bytes.toArray⟩ ⟨#[255, 255, 255, 255, 255, 0]⟩).run Try.prog w = .ok (.string ⟨(hi.bytes ++ [255, 255, 255, 255, 255, 0]).toArray⟩) w := fun w => run_string_add_lists w hi.bytes [255, 255, 255, 255, 255, 0] (by omega) (by simp)
  have HLL := Lib.hid hll
  have HV := Lib.hid hv
  have HL := Lib.hid hl
  have HH := Lib.hid hh
  have RL := Lib.hid rl
  have RH := Lib.hid rh
  clear hv hl hh rl rh hlh hll
  go_enter Try.func4, Try.ntmps4
  go_wp2_with fail
  refine (awake21_any _).mono ?_
  rintro e w1 ⟨rfl, hb1⟩
  obtain ⟨_, ⟨l0, l1, l2⟩, ⟨h0, h1, h2⟩, hlw, _⟩ := HE.out w1 hb1
  go_wp2_with fail
  refine (span_yes lo hi _ HL.out HH.out RL.out RH.out).mono ?_
  rintro e w2 ⟨rfl, hb2⟩
  replace hb2 := below_then hb1 hb2
  clear l0 l1 l2 h0 h1 h2 hlw hb1
  obtain ⟨_, ⟨l0, l1, l2⟩, ⟨h0, h1, h2⟩, hlw, _⟩ := HE.out w2 hb2
  go_wp2_with fail
  refine (r2right_any lo _ HL.out).mono ?_
  rintro e w3 ⟨rfl, hb3⟩
  rw [RL.out]
  replace hb3 := below_then hb2 hb3
  clear l0 l1 l2 h0 h1 h2 hlw hb2
  obtain ⟨_, ⟨l0, l1, l2⟩, ⟨h0, h1, h2⟩, hlw, hBw⟩ := HE.out w3 hb3
  go_wp2_with fail
  refine (r2right_any hi _ HH.out).mono ?_
  rintro e w4 ⟨rfl, hb4⟩
  rw [RH.out]
  replace hb4 := below_then hb3 hb4
  clear l0 l1 l2 h0 h1 h2 hlw hb3 hBw
  obtain ⟨_, ⟨l0, l1, l2⟩, ⟨h0, h1, h2⟩, hlw, hBw⟩ := HE.out w4 hb4
  go_wp2_with fail
  refine (r2bytes_any lo _ HL.out RL.out).mono ?_
  rintro e w5 ⟨r5, rfl, o5, hb5⟩
  obtain ⟨g5, k5, rfl, _, at5⟩ := o5.at' (bytes_ne lo)
  have cv5 := run_convert_bytes_back (P := Try.prog) w5 46 9 5 ⟨g5, 0, none⟩ k5 lo.bytes Try.underlying46 Try.underlying5 Try.underlying9 at5.conv
  replace hb5 := below_then hb4 hb5
  clear l0 l1 l2 h0 h1 h2 hlw hb4 hBw at5 o5
  obtain ⟨_, ⟨l0, l1, l2⟩, ⟨h0, h1, h2⟩, hlw, hBw⟩ := HE.out w5 hb5
  go_wp2_with fail
  refine (r2bytes_any hi _ HH.out RH.out).mono ?_
  rintro e w6 ⟨r6, rfl, o6, hb6⟩
  obtain ⟨g6, k6, rfl, _, at6⟩ := o6.at' (bytes_ne hi)
  have cv6 := run_convert_bytes_back (P := Try.prog) w6 46 9 5 ⟨g6, 0, none⟩ k6 hi.bytes Try.underlying46 Try.underlying5 Try.underlying9 at6.conv
  replace hb6 := below_then hb5 hb6
  clear l0 l1 l2 h0 h1 h2 hlw hb5 hBw at6 o6 cv5
  obtain ⟨⟨v0, v1, v2⟩, ⟨l0, l1, l2⟩, ⟨h0, h1, h2⟩, hlw, hBw⟩ := HE.out w6 hb6
  go_wp2_with fail
  refine (r2right_any v _ HV.out).mono ?_
  rintro e w7 ⟨rfl, hb7⟩
  replace hb7 := below_then hb6 hb7
  clear v0 v1 v2 l0 l1 l2 h0 h1 h2 hlw hb6 hBw cv6
  obtain ⟨⟨v0, v1, v2⟩, ⟨l0, l1, l2⟩, ⟨h0, h1, h2⟩, hlw, hBw⟩ := HE.out w7 hb7
  cases rv : v.right
  · go_wp2_with fail
    go_ret
    exact ⟨rfl, hBw⟩
  have RV := Lib.hid rv
  clear rv
  obtain ⟨c1, hc1⟩ : ∃ c, v.cmp lo = c := ⟨_, rfl⟩
  obtain ⟨c2, hc2⟩ : ∃ c, v.cmp hi = c := ⟨_, rfl⟩
  have law : ∀ m : Nat, m < 1099511627776 → (Lib.compareBytes lo.bytes (v.bytes ++ fiveL m) ≤ 0 ↔ 0 ≤ c1) ∧ (Lib.compareBytes (v.bytes ++ fiveL m) (hi.bytes ++ [255, 255, 255, 255, 255, 0]) < 0 ↔ c2 ≤ 0) := fun m hm => by
    rw [← hc1, ← hc2]; exact span_law v lo hi m HV.out HL.out HH.out RV.out RL.out RH.out hm
  have LAW := Lib.hid law
  have HC1 := Lib.hid hc1
  have HC2 := Lib.hid hc2
  have HLV := Lib.hid (bytes_len RV.out)
  clear hc1 hc2 law
  go_wp2_with fail
  refine (r2compare_any v lo _ HV.out).mono ?_
  rintro e w8 ⟨rfl, hb8⟩
  rw [HC1.out]
  replace hb8 := below_then hb7 hb8
  clear v0 v1 v2 l0 l1 l2 h0 h1 h2 hlw hb7 hBw
  obtain ⟨⟨v0, v1, v2⟩, ⟨l0, l1, l2⟩, ⟨h0, h1, h2⟩, hlw, hBw⟩ := HE.out w8 hb8
  by_cases p1 : 0 ≤ c1
  · have d1 : decide (0 ≤ c1) = true := decide_eq_true p1
    have P1 := Lib.hid p1
    clear p1
    go_wp2_with fail
    refine (r2compare_any v hi _ HV.out).mono ?_
    rintro e w9 ⟨rfl, hb9⟩
    rw [HC2.out]
    replace hb9 := below_then hb8 hb9
    clear v0 v1 v2 l0 l1 l2 h0 h1 h2 hlw hb8 hBw
    by_cases p2 : c2 ≤ 0
    · have d2 : decide (c2 ≤ 0) = true := decide_eq_true p2
      have P2 := Lib.hid p2
      clear p2
      go_wp2_with fail
      obtain ⟨W, hW⟩ : ∃ W, W = w9.alloc (.cells #[.int .i64 0, .int .i64 1, .int .i64 255, .int .i64 4294967296, .int .i64 1099511627775] 3) := ⟨_, rfl⟩
      rw [← hW]
      have eI : W.heap[w9.heap.size]? = some (.cells #[.int .i64 0, .int .i64 1, .int .i64 255, .int .i64 4294967296, .int .i64 1099511627775] 3) := by rw [hW]; exact heap_new w9 _
      have hlW := (Array.getElem?_eq_some_iff.1 eI).1
      have BX := Lib.hid (fun w' (hb : Below W.heap.size W w') => HE.out w' (below_then (by rw [hW]; exact below_al hb9 _) hb))
      have KI := Lib.hid (ids_at eI)
      clear eI hW hb9
      go_loopw [12, 13] (fun i _ wr => ∃ j : Nat, j ≤ 5 ∧ i = .int .i64 j ∧ Below W.heap.size W wr) (fun i _ _ => 5 - (intOf i).toNat)
      case atStart => exact ⟨0, by omega, rfl, Below.refl _ _⟩
      case round =>
        obtain ⟨j, hj, rfl, hbel⟩ := hrel
        by_cases hlt : j < 5
        · obtain ⟨m, hm, q0⟩ := KI.out j hlt
          have hzW := hbel.size
          have hlv := HLV.out
          have haddV : ∀ w, (Op.stringOp .add ⟨v.bytes.toArray⟩ ⟨(fiveL m).toArray⟩).run Try.prog w = .ok (.string ⟨(v.bytes ++ fiveL m).toArray⟩) w := fun w => run_string_add_lists w v.bytes (fiveL m) (by omega) (by simp [fiveL])
          have HZ := Lib.hid (show (v.bytes ++ fiveL m).length ≤ 2000 by rw [List.length_append]; show v.bytes.length + 5 ≤ 2000; omega)
          have HM := Lib.hid hm
          have ks : ∀ w', Below W.heap.size W w' → (fun w' => Below W.heap.size W w' ∧ w'.cell? ⟨w.heap.size, 0, none⟩ = some (.int .i64 v.kind) ∧ w'.cell? ⟨w.heap.size, 1, none⟩ = some (.int .i64 v.n) ∧ w'.cell? ⟨w.heap.size, 2, none⟩ = some (.string v.s) ∧ w'.cell? ⟨w9.heap.size, j, none⟩ = some (.int .i64 (m : Int))) w' := fun w' hb => ⟨hb, (BX.out w' hb).1.1, (BX.out w' hb).1.2.1, (BX.out w' hb).1.2.2, q0 w' hb⟩
          have KS := Lib.hid ks
          obtain ⟨o1, ho1⟩ : ∃ o, Lib.compareBytes lo.bytes (v.bytes ++ fiveL m) = o := ⟨_, rfl⟩
          obtain ⟨o2, ho2⟩ : ∃ o, Lib.compareBytes (v.bytes ++ fiveL m) (hi.bytes ++ [255, 255, 255, 255, 255, 0]) = o := ⟨_, rfl⟩
          have L := LAW.out m hm
          rw [ho1, ho2] at L
          have HO1 := Lib.hid ho1
          have HO2 := Lib.hid ho2
          clear ho1 ho2 q0 ks hm hlv
          have t1 : decide (o1 ≤ 0) = true := decide_eq_true (L.1.2 P1.out)
          have t2 : decide (o2 < 0) = true := decide_eq_true (L.2.2 P2.out)
          clear L d1 d2
          go_wp2_with fail
          refine wp_region_held_drew (S := (fun w' => Below W.heap.size W w' ∧ w'.cell? ⟨w.heap.size, 0, none⟩ = some (.int .i64 v.kind) ∧ w'.cell? ⟨w.heap.size, 1, none⟩ = some (.int .i64 v.n) ∧ w'.cell? ⟨w.heap.size, 2, none⟩ = some (.string v.s) ∧ w'.cell? ⟨w9.heap.size, j, none⟩ = some (.int .i64 (m : Int)))) (by kernel_rfl) (KS.out _ hbel.drew) (fun hHeld => ?_)
          refine wpAnyH_take (i := 0) (oi := ⟨some 78, _, _, _, _, _⟩) (v := ?vvq1) rfl (by kernel_rfl) (by kernel_rfl) (by kernel_rfl) (fun _ _ _ h => h) (Or.inl ⟨by rfl, ?yyq1⟩) hHeld ?rrq1
          case yyq1 => (intro wq hSw; (try dsimp only at hSw); go_simp; first | done | with_reducible rfl)
          simp only [Act.put, List.setIfInBounds_toArray, List.set_cons_zero, List.set_cons_succ]
          refine wpAnyH_take (i := 3) (oi := ⟨some 81, _, _, _, _, _⟩) (v := ?vvq2) rfl (by kernel_rfl) (by kernel_rfl) (by kernel_rfl) (fun _ _ _ h => h) (Or.inl ⟨by rfl, ?yyq2⟩) hHeld ?rrq2
          case yyq2 => (intro wq hSw; (try dsimp only at hSw); go_simp; first | done | with_reducible rfl)
          simp only [Act.put, List.setIfInBounds_toArray, List.set_cons_zero, List.set_cons_succ]
          refine wpAnyH_take (i := 4) (oi := ⟨some 82, _, _, _, _, _⟩) (v := ?vvq3) rfl (by kernel_rfl) (by kernel_rfl) (by kernel_rfl) (fun _ _ _ h => h) (Or.inl ⟨by rfl, ?yyq3⟩) hHeld ?rrq3
          case yyq3 => (intro wq hSw; (try dsimp only at hSw); go_simp; first | done | with_reducible rfl)
          simp only [Act.put, List.setIfInBounds_toArray, List.set_cons_zero, List.set_cons_succ]
          refine wpAnyH_take (i := 5) (oi := ⟨some 83, _, _, _, _, _⟩) (v := ?vvq4) rfl (by kernel_rfl) (by kernel_rfl) (by kernel_rfl) (fun _ _ _ h => h) (Or.inl ⟨by rfl, ?yyq4⟩) hHeld ?rrq4
          case yyq4 => (intro wq hSw; (try dsimp only at hSw); go_simp; first | done | with_reducible rfl)
          simp only [Act.put, List.setIfInBounds_toArray, List.set_cons_zero, List.set_cons_succ]
          refine wpAnyH_take (i := 6) (oi := ⟨some 84, _, _, _, _, _⟩) (v := ?vvq5) rfl (by kernel_rfl) (by kernel_rfl) (by kernel_rfl) (fun _ _ _ h => h) (Or.inl ⟨by rfl, ?yyq5⟩) hHeld ?rrq5
          case yyq5 => (intro wq hSw; (try dsimp only at hSw); go_simp; first | done | with_reducible rfl)
          simp only [Act.put, List.setIfInBounds_toArray, List.set_cons_zero, List.set_cons_succ]
          refine wpAnyH_ready (rs := [1]) (by kernel_rfl) (by simp) ?_
          refine (AllReadyH.cons (o := ⟨some 79, _, _, _, _, _⟩) rfl (fun K hK => ?_) AllReadyH.nil)
          go_simp
          refine (r2bytes_any v _ HV.out RV.out).mono ?_
          rintro e wb ⟨rb, rfl, ob, hbb⟩
          obtain ⟨gb, kb, rfl, _, atb⟩ := ob.at' (bytes_ne v)
          go_wp2_with fail
          refine hK.out _ _ ?ssq14 (fun hHeld => ?_)
          case ssq14 => (exact KS.out _ (below_then hHeld.1 hbb))
          clear hK K
          try simp only [Act.put, List.setIfInBounds_toArray, List.set_cons_zero, List.set_cons_succ]
          refine wpAnyH_ready (rs := [2, 7]) (by kernel_rfl) (by simp) ?_
          refine (AllReadyH.cons (o := ⟨some 80, _, _, _, _, _⟩) rfl (fun K hK => ?_) (AllReadyH.cons (o := ⟨some 85, _, _, _, _, _⟩) rfl (fun K hK => ?_) AllReadyH.nil))
          · have cv := run_convert_bytes_back (P := Try.prog) wb 46 9 5 ⟨gb, 0, none⟩ kb v.bytes Try.underlying46 Try.underlying5 Try.underlying9 (atb).conv
            go_simp
            refine hK.out _ _ ?ssq9 (fun hHeld => ?_)
            case ssq9 => (exact hHeld)
            clear hK K
            try simp only [Act.put, List.setIfInBounds_toArray, List.set_cons_zero, List.set_cons_succ]
            refine wpAnyH_ready (rs := [7]) (by kernel_rfl) (by simp) ?_
            refine (AllReadyH.cons (o := ⟨some 85, _, _, _, _, _⟩) rfl (fun K hK => ?_) AllReadyH.nil)
            go_simp
            refine (r21five_any m _ HM.out).mono ?_
            rintro e wf ⟨rfl, hbf⟩
            go_wp2_with fail
            refine hK.out _ _ ?ssq8 (fun hHeld => ?_)
            case ssq8 => (exact KS.out _ (below_then hHeld.1 hbf))
            clear hK K
            try simp only [Act.put, List.setIfInBounds_toArray, List.set_cons_zero, List.set_cons_succ]
            refine wpAnyH_take (i := 8) (oi := ⟨some 86, _, _, _, _, _⟩) (v := ?vvq6) rfl (by kernel_rfl) (by kernel_rfl) (by kernel_rfl) (fun _ _ _ h => h) (Or.inl ⟨by rfl, ?yyq6⟩) hHeld ?rrq6
            case yyq6 => (intro wq hSw; (try dsimp only at hSw); go_simp; first | done | with_reducible rfl)
            simp only [Act.put, List.setIfInBounds_toArray, List.set_cons_zero, List.set_cons_succ]
            refine wpAnyH_take (i := 9) (oi := ⟨some 13, _, _, _, _, _⟩) (v := ?vvq7) rfl (by kernel_rfl) (by kernel_rfl) (by kernel_rfl) (fun _ _ _ h => h) (Or.inl ⟨by rfl, ?yyq7⟩) hHeld ?rrq7
            case yyq7 => (intro wq hSw; (try dsimp only at hSw); go_simp; first | done | with_reducible rfl)
            simp only [Act.put, List.setIfInBounds_toArray, List.set_cons_zero, List.set_cons_succ]
            refine wpAnyH_done (by kernel_rfl) ?_ _
            have hBr := hHeld.1
            clear hHeld
            go_wp2_with fail
            refine (r2order_L lo.bytes (v.bytes ++ fiveL m) o1 _ HO1.out (by have := HLL.out; omega)).mono ?_
            rintro e wo ⟨rfl, no, rfl⟩
            go_wp2_with (refine (r2order_L (v.bytes ++ fiveL m) (hi.bytes ++ [255, 255, 255, 255, 255, 0]) o2 _ HO2.out HZ.out).mono ?_; rintro e wp ⟨rfl, np, rfl⟩)
            exact ⟨⟨j + 1, by omega, by go_num, by first | exact below_drewN' (below_drewN' hBr _) _ | exact below_drewN' hBr _⟩, by simp [intOf]; omega⟩
          · go_simp
            refine (r21five_any m _ HM.out).mono ?_
            rintro e wf ⟨rfl, hbf⟩
            go_wp2_with fail
            refine hK.out _ _ ?ssq13 (fun hHeld => ?_)
            case ssq13 => (exact KS.out _ (below_then hHeld.1 hbf))
            clear hK K
            try simp only [Act.put, List.setIfInBounds_toArray, List.set_cons_zero, List.set_cons_succ]
            have cv := run_convert_bytes_back (P := Try.prog) wf 46 9 5 ⟨gb, 0, none⟩ kb v.bytes Try.underlying46 Try.underlying5 Try.underlying9 (atb.of_block (hbf.block _ atb.lt)).conv
            refine wpAnyH_ready (rs := [2]) (by kernel_rfl) (by simp) ?_
            refine (AllReadyH.cons (o := ⟨some 80, _, _, _, _, _⟩) rfl (fun K hK => ?_) AllReadyH.nil)
            go_simp
            refine hK.out _ _ ?ssq12 (fun hHeld => ?_)
            case ssq12 => (exact hHeld)
            clear hK K
            try simp only [Act.put, List.setIfInBounds_toArray, List.set_cons_zero, List.set_cons_succ]
            refine wpAnyH_take (i := 8) (oi := ⟨some 86, _, _, _, _, _⟩) (v := ?vvq10) rfl (by kernel_rfl) (by kernel_rfl) (by kernel_rfl) (fun _ _ _ h => h) (Or.inl ⟨by rfl, ?yyq10⟩) hHeld ?rrq10
            case yyq10 => (intro wq hSw; (try dsimp only at hSw); go_simp; first | done | with_reducible rfl)
            simp only [Act.put, List.setIfInBounds_toArray, List.set_cons_zero, List.set_cons_succ]
            refine wpAnyH_take (i := 9) (oi := ⟨some 13, _, _, _, _, _⟩) (v := ?vvq11) rfl (by kernel_rfl) (by kernel_rfl) (by kernel_rfl) (fun _ _ _ h => h) (Or.inl ⟨by rfl, ?yyq11⟩) hHeld ?rrq11
            case yyq11 => (intro wq hSw; (try dsimp only at hSw); go_simp; first | done | with_reducible rfl)
            simp only [Act.put, List.setIfInBounds_toArray, List.set_cons_zero, List.set_cons_succ]
            refine wpAnyH_done (by kernel_rfl) ?_ _
            have hBr := hHeld.1
            clear hHeld
            go_wp2_with fail
            refine (r2order_L lo.bytes (v.bytes ++ fiveL m) o1 _ HO1.out (by have := HLL.out; omega)).mono ?_
            rintro e wo ⟨rfl, no, rfl⟩
            go_wp2_with (refine (r2order_L (v.bytes ++ fiveL m) (hi.bytes ++ [255, 255, 255, 255, 255, 0]) o2 _ HO2.out HZ.out).mono ?_; rintro e wp ⟨rfl, np, rfl⟩)
            exact ⟨⟨j + 1, by omega, by go_num, by first | exact below_drewN' (below_drewN' hBr _) _ | exact below_drewN' hBr _⟩, by simp [intOf]; omega⟩
        · go_wp2_with fail
          go_ret
          exact ⟨rfl, (BX.out _ hbel).2.2.2.2⟩
    · have d2 : decide (c2 ≤ 0) = false := decide_eq_false p2
      have P2 := Lib.hid p2
      clear p2
      go_wp2_with fail
      obtain ⟨W, hW⟩ : ∃ W, W = w9.alloc (.cells #[.int .i64 0, .int .i64 1, .int .i64 255, .int .i64 4294967296, .int .i64 1099511627775] 3) := ⟨_, rfl⟩
      rw [← hW]
      have eI : W.heap[w9.heap.size]? = some (.cells #[.int .i64 0, .int .i64 1, .int .i64 255, .int .i64 4294967296, .int .i64 1099511627775] 3) := by rw [hW]; exact heap_new w9 _
      have hlW := (Array.getElem?_eq_some_iff.1 eI).1
      have BX := Lib.hid (fun w' (hb : Below W.heap.size W w') => HE.out w' (below_then (by rw [hW]; exact below_al hb9 _) hb))
      have KI := Lib.hid (ids_at eI)
      clear eI hW hb9
      go_loopw [12, 13] (fun i _ wr => ∃ j : Nat, j ≤ 5 ∧ i = .int .i64 j ∧ Below W.heap.size W wr) (fun i _ _ => 5 - (intOf i).toNat)
      case atStart => exact ⟨0, by omega, rfl, Below.refl _ _⟩
      case round =>
        obtain ⟨j, hj, rfl, hbel⟩ := hrel
        by_cases hlt : j < 5
        · obtain ⟨m, hm, q0⟩ := KI.out j hlt
          have hzW := hbel.size
          have hlv := HLV.out
          have haddV : ∀ w, (Op.stringOp .add ⟨v.bytes.toArray⟩ ⟨(fiveL m).toArray⟩).run Try.prog w = .ok (.string ⟨(v.bytes ++ fiveL m).toArray⟩) w := fun w => run_string_add_lists w v.bytes (fiveL m) (by omega) (by simp [fiveL])
          have HZ := Lib.hid (show (v.bytes ++ fiveL m).length ≤ 2000 by rw [List.length_append]; show v.bytes.length + 5 ≤ 2000; omega)
          have HM := Lib.hid hm
          have ks : ∀ w', Below W.heap.size W w' → (fun w' => Below W.heap.size W w' ∧ w'.cell? ⟨w.heap.size, 0, none⟩ = some (.int .i64 v.kind) ∧ w'.cell? ⟨w.heap.size, 1, none⟩ = some (.int .i64 v.n) ∧ w'.cell? ⟨w.heap.size, 2, none⟩ = some (.string v.s) ∧ w'.cell? ⟨w9.heap.size, j, none⟩ = some (.int .i64 (m : Int))) w' := fun w' hb => ⟨hb, (BX.out w' hb).1.1, (BX.out w' hb).1.2.1, (BX.out w' hb).1.2.2, q0 w' hb⟩
          have KS := Lib.hid ks
          obtain ⟨o1, ho1⟩ : ∃ o, Lib.compareBytes lo.bytes (v.bytes ++ fiveL m) = o := ⟨_, rfl⟩
          obtain ⟨o2, ho2⟩ : ∃ o, Lib.compareBytes (v.bytes ++ fiveL m) (hi.bytes ++ [255, 255, 255, 255, 255, 0]) = o := ⟨_, rfl⟩
          have L := LAW.out m hm
          rw [ho1, ho2] at L
          have HO1 := Lib.hid ho1
          have HO2 := Lib.hid ho2
          clear ho1 ho2 q0 ks hm hlv
          have t1 : decide (o1 ≤ 0) = true := decide_eq_true (L.1.2 P1.out)
          have t2 : decide (o2 < 0) = false := decide_eq_false (fun h => by have := P2.out; have := L.2.1 h; omega)
          clear L d1 d2
          go_wp2_with fail
          refine wp_region_held_drew (S := (fun w' => Below W.heap.size W w' ∧ w'.cell? ⟨w.heap.size, 0, none⟩ = some (.int .i64 v.kind) ∧ w'.cell? ⟨w.heap.size, 1, none⟩ = some (.int .i64 v.n) ∧ w'.cell? ⟨w.heap.size, 2, none⟩ = some (.string v.s) ∧ w'.cell? ⟨w9.heap.size, j, none⟩ = some (.int .i64 (m : Int)))) (by kernel_rfl) (KS.out _ hbel.drew) (fun hHeld => ?_)
          refine wpAnyH_take (i := 0) (oi := ⟨some 78, _, _, _, _, _⟩) (v := ?vvq15) rfl (by kernel_rfl) (by kernel_rfl) (by kernel_rfl) (fun _ _ _ h => h) (Or.inl ⟨by rfl, ?yyq15⟩) hHeld ?rrq15
          case yyq15 => (intro wq hSw; (try dsimp only at hSw); go_simp; first | done | with_reducible rfl)
          simp only [Act.put, List.setIfInBounds_toArray, List.set_cons_zero, List.set_cons_succ]
          refine wpAnyH_take (i := 3) (oi := ⟨some 81, _, _, _, _, _⟩) (v := ?vvq16) rfl (by kernel_rfl) (by kernel_rfl) (by kernel_rfl) (fun _ _ _ h => h) (Or.inl ⟨by rfl, ?yyq16⟩) hHeld ?rrq16
          case yyq16 => (intro wq hSw; (try dsimp only at hSw); go_simp; first | done | with_reducible rfl)
          simp only [Act.put, List.setIfInBounds_toArray, List.set_cons_zero, List.set_cons_succ]
          refine wpAnyH_take (i := 4) (oi := ⟨some 82, _, _, _, _, _⟩) (v := ?vvq17) rfl (by kernel_rfl) (by kernel_rfl) (by kernel_rfl) (fun _ _ _ h => h) (Or.inl ⟨by rfl, ?yyq17⟩) hHeld ?rrq17
          case yyq17 => (intro wq hSw; (try dsimp only at hSw); go_simp; first | done | with_reducible rfl)
          simp only [Act.put, List.setIfInBounds_toArray, List.set_cons_zero, List.set_cons_succ]
          refine wpAnyH_take (i := 5) (oi := ⟨some 83, _, _, _, _, _⟩) (v := ?vvq18) rfl (by kernel_rfl) (by kernel_rfl) (by kernel_rfl) (fun _ _ _ h => h) (Or.inl ⟨by rfl, ?yyq18⟩) hHeld ?rrq18
          case yyq18 => (intro wq hSw; (try dsimp only at hSw); go_simp; first | done | with_reducible rfl)
          simp only [Act.put, List.setIfInBounds_toArray, List.set_cons_zero, List.set_cons_succ]
          refine wpAnyH_take (i := 6) (oi := ⟨some 84, _, _, _, _, _⟩) (v := ?vvq19) rfl (by kernel_rfl) (by kernel_rfl) (by kernel_rfl) (fun _ _ _ h => h) (Or.inl ⟨by rfl, ?yyq19⟩) hHeld ?rrq19
          case yyq19 => (intro wq hSw; (try dsimp only at hSw); go_simp; first | done | with_reducible rfl)
          simp only [Act.put, List.setIfInBounds_toArray, List.set_cons_zero, List.set_cons_succ]
          refine wpAnyH_ready (rs := [1]) (by kernel_rfl) (by simp) ?_
          refine (AllReadyH.cons (o := ⟨some 79, _, _, _, _, _⟩) rfl (fun K hK => ?_) AllReadyH.nil)
          go_simp
          refine (r2bytes_any v _ HV.out RV.out).mono ?_
          rintro e wb ⟨rb, rfl, ob, hbb⟩
          obtain ⟨gb, kb, rfl, _, atb⟩ := ob.at' (bytes_ne v)
          go_wp2_with fail
          refine hK.out _ _ ?ssq28 (fun hHeld => ?_)
          case ssq28 => (exact KS.out _ (below_then hHeld.1 hbb))
          clear hK K
          try simp only [Act.put, List.setIfInBounds_toArray, List.set_cons_zero, List.set_cons_succ]
          refine wpAnyH_ready (rs := [2, 7]) (by kernel_rfl) (by simp) ?_
          refine (AllReadyH.cons (o := ⟨some 80, _, _, _, _, _⟩) rfl (fun K hK => ?_) (AllReadyH.cons (o := ⟨some 85, _, _, _, _, _⟩) rfl (fun K hK => ?_) AllReadyH.nil))
          · have cv := run_convert_bytes_back (P := Try.prog) wb 46 9 5 ⟨gb, 0, none⟩ kb v.bytes Try.underlying46 Try.underlying5 Try.underlying9 (atb).conv
            go_simp
            refine hK.out _ _ ?ssq23 (fun hHeld => ?_)
            case ssq23 => (exact hHeld)
            clear hK K
            try simp only [Act.put, List.setIfInBounds_toArray, List.set_cons_zero, List.set_cons_succ]
            refine wpAnyH_ready (rs := [7]) (by kernel_rfl) (by simp) ?_
            refine (AllReadyH.cons (o := ⟨some 85, _, _, _, _, _⟩) rfl (fun K hK => ?_) AllReadyH.nil)
            go_simp
            refine (r21five_any m _ HM.out).mono ?_
            rintro e wf ⟨rfl, hbf⟩
            go_wp2_with fail
            refine hK.out _ _ ?ssq22 (fun hHeld => ?_)
            case ssq22 => (exact KS.out _ (below_then hHeld.1 hbf))
            clear hK K
            try simp only [Act.put, List.setIfInBounds_toArray, List.set_cons_zero, List.set_cons_succ]
            refine wpAnyH_take (i := 8) (oi := ⟨some 86, _, _, _, _, _⟩) (v := ?vvq20) rfl (by kernel_rfl) (by kernel_rfl) (by kernel_rfl) (fun _ _ _ h => h) (Or.inl ⟨by rfl, ?yyq20⟩) hHeld ?rrq20
            case yyq20 => (intro wq hSw; (try dsimp only at hSw); go_simp; first | done | with_reducible rfl)
            simp only [Act.put, List.setIfInBounds_toArray, List.set_cons_zero, List.set_cons_succ]
            refine wpAnyH_take (i := 9) (oi := ⟨some 13, _, _, _, _, _⟩) (v := ?vvq21) rfl (by kernel_rfl) (by kernel_rfl) (by kernel_rfl) (fun _ _ _ h => h) (Or.inl ⟨by rfl, ?yyq21⟩) hHeld ?rrq21
            case yyq21 => (intro wq hSw; (try dsimp only at hSw); go_simp; first | done | with_reducible rfl)
            simp only [Act.put, List.setIfInBounds_toArray, List.set_cons_zero, List.set_cons_succ]
            refine wpAnyH_done (by kernel_rfl) ?_ _
            have hBr := hHeld.1
            clear hHeld
            go_wp2_with fail
            refine (r2order_L lo.bytes (v.bytes ++ fiveL m) o1 _ HO1.out (by have := HLL.out; omega)).mono ?_
            rintro e wo ⟨rfl, no, rfl⟩
            go_wp2_with (refine (r2order_L (v.bytes ++ fiveL m) (hi.bytes ++ [255, 255, 255, 255, 255, 0]) o2 _ HO2.out HZ.out).mono ?_; rintro e wp ⟨rfl, np, rfl⟩)
            exact ⟨⟨j + 1, by omega, by go_num, by first | exact below_drewN' (below_drewN' hBr _) _ | exact below_drewN' hBr _⟩, by simp [intOf]; omega⟩
          · go_simp
            refine (r21five_any m _ HM.out).mono ?_
            rintro e wf ⟨rfl, hbf⟩
            go_wp2_with fail
            refine hK.out _ _ ?ssq27 (fun hHeld => ?_)
            case ssq27 => (exact KS.out _ (below_then hHeld.1 hbf))
            clear hK K
            try simp only [Act.put, List.setIfInBounds_toArray, List.set_cons_zero, List.set_cons_succ]
            have cv := run_convert_bytes_back (P := Try.prog) wf 46 9 5 ⟨gb, 0, none⟩ kb v.bytes Try.underlying46 Try.underlying5 Try.underlying9 (atb.of_block (hbf.block _ atb.lt)).conv
            refine wpAnyH_ready (rs := [2]) (by kernel_rfl) (by simp) ?_
            refine (AllReadyH.cons (o := ⟨some 80, _, _, _, _, _⟩) rfl (fun K hK => ?_) AllReadyH.nil)
            go_simp
            refine hK.out _ _ ?ssq26 (fun hHeld => ?_)
            case ssq26 => (exact hHeld)
            clear hK K
            try simp only [Act.put, List.setIfInBounds_toArray, List.set_cons_zero, List.set_cons_succ]
            refine wpAnyH_take (i := 8) (oi := ⟨some 86, _, _, _, _, _⟩) (v := ?vvq24) rfl (by kernel_rfl) (by kernel_rfl) (by kernel_rfl) (fun _ _ _ h => h) (Or.inl ⟨by rfl, ?yyq24⟩) hHeld ?rrq24
            case yyq24 => (intro wq hSw; (try dsimp only at hSw); go_simp; first | done | with_reducible rfl)
            simp only [Act.put, List.setIfInBounds_toArray, List.set_cons_zero, List.set_cons_succ]
            refine wpAnyH_take (i := 9) (oi := ⟨some 13, _, _, _, _, _⟩) (v := ?vvq25) rfl (by kernel_rfl) (by kernel_rfl) (by kernel_rfl) (fun _ _ _ h => h) (Or.inl ⟨by rfl, ?yyq25⟩) hHeld ?rrq25
            case yyq25 => (intro wq hSw; (try dsimp only at hSw); go_simp; first | done | with_reducible rfl)
            simp only [Act.put, List.setIfInBounds_toArray, List.set_cons_zero, List.set_cons_succ]
            refine wpAnyH_done (by kernel_rfl) ?_ _
            have hBr := hHeld.1
            clear hHeld
            go_wp2_with fail
            refine (r2order_L lo.bytes (v.bytes ++ fiveL m) o1 _ HO1.out (by have := HLL.out; omega)).mono ?_
            rintro e wo ⟨rfl, no, rfl⟩
            go_wp2_with (refine (r2order_L (v.bytes ++ fiveL m) (hi.bytes ++ [255, 255, 255, 255, 255, 0]) o2 _ HO2.out HZ.out).mono ?_; rintro e wp ⟨rfl, np, rfl⟩)
            exact ⟨⟨j + 1, by omega, by go_num, by first | exact below_drewN' (below_drewN' hBr _) _ | exact below_drewN' hBr _⟩, by simp [intOf]; omega⟩
        · go_wp2_with fail
          go_ret
          exact ⟨rfl, (BX.out _ hbel).2.2.2.2⟩
  · have d1 : decide (0 ≤ c1) = false := decide_eq_false p1
    have P1 := Lib.hid p1
    clear p1 v0 v1 v2 l0 l1 l2 h0 h1 h2 hlw hBw
    go_wp2_with fail
    obtain ⟨W, hW⟩ : ∃ W, W = w8.alloc (.cells #[.int .i64 0, .int .i64 1, .int .i64 255, .int .i64 4294967296, .int .i64 1099511627775] 3) := ⟨_, rfl⟩
    rw [← hW]
    have eI : W.heap[w8.heap.size]? = some (.cells #[.int .i64 0, .int .i64 1, .int .i64 255, .int .i64 4294967296, .int .i64 1099511627775] 3) := by rw [hW]; exact heap_new w8 _
    have hlW := (Array.getElem?_eq_some_iff.1 eI).1
    have BX := Lib.hid (fun w' (hb : Below W.heap.size W w') => HE.out w' (below_then (by rw [hW]; exact below_al hb8 _) hb))
    have KI := Lib.hid (ids_at eI)
    clear eI hW hb8
    go_loopw [12, 13] (fun i _ wr => ∃ j : Nat, j ≤ 5 ∧ i = .int .i64 j ∧ Below W.heap.size W wr) (fun i _ _ => 5 - (intOf i).toNat)
    case atStart => exact ⟨0, by omega, rfl, Below.refl _ _⟩
    case round =>
      obtain ⟨j, hj, rfl, hbel⟩ := hrel
      by_cases hlt : j < 5
      · obtain ⟨m, hm, q0⟩ := KI.out j hlt
        have hzW := hbel.size
        have hlv := HLV.out
        have haddV : ∀ w, (Op.stringOp .add ⟨v.bytes.toArray⟩ ⟨(fiveL m).toArray⟩).run Try.prog w = .ok (.string ⟨(v.bytes ++ fiveL m).toArray⟩) w := fun w => run_string_add_lists w v.bytes (fiveL m) (by omega) (by simp [fiveL])
        have HZ := Lib.hid (show (v.bytes ++ fiveL m).length ≤ 2000 by rw [List.length_append]; show v.bytes.length + 5 ≤ 2000; omega)
        have HM := Lib.hid hm
        have ks : ∀ w', Below W.heap.size W w' → (fun w' => Below W.heap.size W w' ∧ w'.cell? ⟨w.heap.size, 0, none⟩ = some (.int .i64 v.kind) ∧ w'.cell? ⟨w.heap.size, 1, none⟩ = some (.int .i64 v.n) ∧ w'.cell? ⟨w.heap.size, 2, none⟩ = some (.string v.s) ∧ w'.cell? ⟨w8.heap.size, j, none⟩ = some (.int .i64 (m : Int))) w' := fun w' hb => ⟨hb, (BX.out w' hb).1.1, (BX.out w' hb).1.2.1, (BX.out w' hb).1.2.2, q0 w' hb⟩
        have KS := Lib.hid ks
        obtain ⟨o1, ho1⟩ : ∃ o, Lib.compareBytes lo.bytes (v.bytes ++ fiveL m) = o := ⟨_, rfl⟩
        obtain ⟨o2, ho2⟩ : ∃ o, Lib.compareBytes (v.bytes ++ fiveL m) (hi.bytes ++ [255, 255, 255, 255, 255, 0]) = o := ⟨_, rfl⟩
        have L := LAW.out m hm
        rw [ho1, ho2] at L
        have HO1 := Lib.hid ho1
        have HO2 := Lib.hid ho2
        clear ho1 ho2 q0 ks hm hlv
        have t1 : decide (o1 ≤ 0) = false := decide_eq_false (fun h => by have := P1.out; have := L.1.1 h; omega)
        clear L d1
        go_wp2_with fail
        refine wp_region_held_drew (S := (fun w' => Below W.heap.size W w' ∧ w'.cell? ⟨w.heap.size, 0, none⟩ = some (.int .i64 v.kind) ∧ w'.cell? ⟨w.heap.size, 1, none⟩ = some (.int .i64 v.n) ∧ w'.cell? ⟨w.heap.size, 2, none⟩ = some (.string v.s) ∧ w'.cell? ⟨w8.heap.size, j, none⟩ = some (.int .i64 (m : Int)))) (by kernel_rfl) (KS.out _ hbel.drew) (fun hHeld => ?_)
        refine wpAnyH_take (i := 0) (oi := ⟨some 78, _, _, _, _, _⟩) (v := ?vvq29) rfl (by kernel_rfl) (by kernel_rfl) (by kernel_rfl) (fun _ _ _ h => h) (Or.inl ⟨by rfl, ?yyq29⟩) hHeld ?rrq29
        case yyq29 => (intro wq hSw; (try dsimp only at hSw); go_simp; first | done | with_reducible rfl)
        simp only [Act.put, List.setIfInBounds_toArray, List.set_cons_zero, List.set_cons_succ]
        refine wpAnyH_take (i := 3) (oi := ⟨some 81, _, _, _, _, _⟩) (v := ?vvq30) rfl (by kernel_rfl) (by kernel_rfl) (by kernel_rfl) (fun _ _ _ h => h) (Or.inl ⟨by rfl, ?yyq30⟩) hHeld ?rrq30
        case yyq30 => (intro wq hSw; (try dsimp only at hSw); go_simp; first | done | with_reducible rfl)
        simp only [Act.put, List.setIfInBounds_toArray, List.set_cons_zero, List.set_cons_succ]
        refine wpAnyH_take (i := 4) (oi := ⟨some 82, _, _, _, _, _⟩) (v := ?vvq31) rfl (by kernel_rfl) (by kernel_rfl) (by kernel_rfl) (fun _ _ _ h => h) (Or.inl ⟨by rfl, ?yyq31⟩) hHeld ?rrq31
        case yyq31 => (intro wq hSw; (try dsimp only at hSw); go_simp; first | done | with_reducible rfl)
        simp only [Act.put, List.setIfInBounds_toArray, List.set_cons_zero, List.set_cons_succ]
        refine wpAnyH_take (i := 5) (oi := ⟨some 83, _, _, _, _, _⟩) (v := ?vvq32) rfl (by kernel_rfl) (by kernel_rfl) (by kernel_rfl) (fun _ _ _ h => h) (Or.inl ⟨by rfl, ?yyq32⟩) hHeld ?rrq32
        case yyq32 => (intro wq hSw; (try dsimp only at hSw); go_simp; first | done | with_reducible rfl)
        simp only [Act.put, List.setIfInBounds_toArray, List.set_cons_zero, List.set_cons_succ]
        refine wpAnyH_take (i := 6) (oi := ⟨some 84, _, _, _, _, _⟩) (v := ?vvq33) rfl (by kernel_rfl) (by kernel_rfl) (by kernel_rfl) (fun _ _ _ h => h) (Or.inl ⟨by rfl, ?yyq33⟩) hHeld ?rrq33
        case yyq33 => (intro wq hSw; (try dsimp only at hSw); go_simp; first | done | with_reducible rfl)
        simp only [Act.put, List.setIfInBounds_toArray, List.set_cons_zero, List.set_cons_succ]
        refine wpAnyH_ready (rs := [1]) (by kernel_rfl) (by simp) ?_
        refine (AllReadyH.cons (o := ⟨some 79, _, _, _, _, _⟩) rfl (fun K hK => ?_) AllReadyH.nil)
        go_simp
        refine (r2bytes_any v _ HV.out RV.out).mono ?_
        rintro e wb ⟨rb, rfl, ob, hbb⟩
        obtain ⟨gb, kb, rfl, _, atb⟩ := ob.at' (bytes_ne v)
        go_wp2_with fail
        refine hK.out _ _ ?ssq42 (fun hHeld => ?_)
        case ssq42 => (exact KS.out _ (below_then hHeld.1 hbb))
        clear hK K
        try simp only [Act.put, List.setIfInBounds_toArray, List.set_cons_zero, List.set_cons_succ]
        refine wpAnyH_ready (rs := [2, 7]) (by kernel_rfl) (by simp) ?_
        refine (AllReadyH.cons (o := ⟨some 80, _, _, _, _, _⟩) rfl (fun K hK => ?_) (AllReadyH.cons (o := ⟨some 85, _, _, _, _, _⟩) rfl (fun K hK => ?_) AllReadyH.nil))
        · have cv := run_convert_bytes_back (P := Try.prog) wb 46 9 5 ⟨gb, 0, none⟩ kb v.bytes Try.underlying46 Try.underlying5 Try.underlying9 (atb).conv
          go_simp
          refine hK.out _ _ ?ssq37 (fun hHeld => ?_)
          case ssq37 => (exact hHeld)
          clear hK K
          try simp only [Act.put, List.setIfInBounds_toArray, List.set_cons_zero, List.set_cons_succ]
          refine wpAnyH_ready (rs := [7]) (by kernel_rfl) (by simp) ?_
          refine (AllReadyH.cons (o := ⟨some 85, _, _, _, _, _⟩) rfl (fun K hK => ?_) AllReadyH.nil)
          go_simp
          refine (r21five_any m _ HM.out).mono ?_
          rintro e wf ⟨rfl, hbf⟩
          go_wp2_with fail
          refine hK.out _ _ ?ssq36 (fun hHeld => ?_)
          case ssq36 => (exact KS.out _ (below_then hHeld.1 hbf))
          clear hK K
          try simp only [Act.put, List.setIfInBounds_toArray, List.set_cons_zero, List.set_cons_succ]
          refine wpAnyH_take (i := 8) (oi := ⟨some 86, _, _, _, _, _⟩) (v := ?vvq34) rfl (by kernel_rfl) (by kernel_rfl) (by kernel_rfl) (fun _ _ _ h => h) (Or.inl ⟨by rfl, ?yyq34⟩) hHeld ?rrq34
          case yyq34 => (intro wq hSw; (try dsimp only at hSw); go_simp; first | done | with_reducible rfl)
          simp only [Act.put, List.setIfInBounds_toArray, List.set_cons_zero, List.set_cons_succ]
          refine wpAnyH_take (i := 9) (oi := ⟨some 13, _, _, _, _, _⟩) (v := ?vvq35) rfl (by kernel_rfl) (by kernel_rfl) (by kernel_rfl) (fun _ _ _ h => h) (Or.inl ⟨by rfl, ?yyq35⟩) hHeld ?rrq35
          case yyq35 => (intro wq hSw; (try dsimp only at hSw); go_simp; first | done | with_reducible rfl)
          simp only [Act.put, List.setIfInBounds_toArray, List.set_cons_zero, List.set_cons_succ]
          refine wpAnyH_done (by kernel_rfl) ?_ _
          have hBr := hHeld.1
          clear hHeld
          go_wp2_with fail
          refine (r2order_L lo.bytes (v.bytes ++ fiveL m) o1 _ HO1.out (by have := HLL.out; omega)).mono ?_
          rintro e wo ⟨rfl, no, rfl⟩
          go_wp2_with (refine (r2order_L (v.bytes ++ fiveL m) (hi.bytes ++ [255, 255, 255, 255, 255, 0]) o2 _ HO2.out HZ.out).mono ?_; rintro e wp ⟨rfl, np, rfl⟩)
          exact ⟨⟨j + 1, by omega, by go_num, by first | exact below_drewN' (below_drewN' hBr _) _ | exact below_drewN' hBr _⟩, by simp [intOf]; omega⟩
        · go_simp
          refine (r21five_any m _ HM.out).mono ?_
          rintro e wf ⟨rfl, hbf⟩
          go_wp2_with fail
          refine hK.out _ _ ?ssq41 (fun hHeld => ?_)
          case ssq41 => (exact KS.out _ (below_then hHeld.1 hbf))
          clear hK K
          try simp only [Act.put, List.setIfInBounds_toArray, List.set_cons_zero, List.set_cons_succ]
          have cv := run_convert_bytes_back (P := Try.prog) wf 46 9 5 ⟨gb, 0, none⟩ kb v.bytes Try.underlying46 Try.underlying5 Try.underlying9 (atb.of_block (hbf.block _ atb.lt)).conv
          refine wpAnyH_ready (rs := [2]) (by kernel_rfl) (by simp) ?_
          refine (AllReadyH.cons (o := ⟨some 80, _, _, _, _, _⟩) rfl (fun K hK => ?_) AllReadyH.nil)
          go_simp
          refine hK.out _ _ ?ssq40 (fun hHeld => ?_)
          case ssq40 => (exact hHeld)
          clear hK K
          try simp only [Act.put, List.setIfInBounds_toArray, List.set_cons_zero, List.set_cons_succ]
          refine wpAnyH_take (i := 8) (oi := ⟨some 86, _, _, _, _, _⟩) (v := ?vvq38) rfl (by kernel_rfl) (by kernel_rfl) (by kernel_rfl) (fun _ _ _ h => h) (Or.inl ⟨by rfl, ?yyq38⟩) hHeld ?rrq38
          case yyq38 => (intro wq hSw; (try dsimp only at hSw); go_simp; first | done | with_reducible rfl)
          simp only [Act.put, List.setIfInBounds_toArray, List.set_cons_zero, List.set_cons_succ]
          refine wpAnyH_take (i := 9) (oi := ⟨some 13, _, _, _, _, _⟩) (v := ?vvq39) rfl (by kernel_rfl) (by kernel_rfl) (by kernel_rfl) (fun _ _ _ h => h) (Or.inl ⟨by rfl, ?yyq39⟩) hHeld ?rrq39
          case yyq39 => (intro wq hSw; (try dsimp only at hSw); go_simp; first | done | with_reducible rfl)
          simp only [Act.put, List.setIfInBounds_toArray, List.set_cons_zero, List.set_cons_succ]
          refine wpAnyH_done (by kernel_rfl) ?_ _
          have hBr := hHeld.1
          clear hHeld
          go_wp2_with fail
          refine (r2order_L lo.bytes (v.bytes ++ fiveL m) o1 _ HO1.out (by have := HLL.out; omega)).mono ?_
          rintro e wo ⟨rfl, no, rfl⟩
          go_wp2_with (refine (r2order_L (v.bytes ++ fiveL m) (hi.bytes ++ [255, 255, 255, 255, 255, 0]) o2 _ HO2.out HZ.out).mono ?_; rintro e wp ⟨rfl, np, rfl⟩)
          exact ⟨⟨j + 1, by omega, by go_num, by first | exact below_drewN' (below_drewN' hBr _) _ | exact below_drewN' hBr _⟩, by simp [intOf]; omega⟩
      · go_wp2_with fail
        go_ret
        exact ⟨rfl, (BX.out _ hbel).2.2.2.2⟩
set_option maxRecDepth 100000 in
theorem value_at {w : World} {cs : List Value} (h : Mem Try.prog w 42 cs) : ∃ v : Vl, v.Ok ∧ cs = [.int .i64 v.kind, .int .i64 v.n, .string v.s] := by
  obtain ⟨hl, hf⟩ := h.struct Try.underlying42
  have e3 : Try.prog.cellsOf 42 = 3 := by kernel_rfl
  rw [e3] at hl
  obtain ⟨x, hx, wx⟩ := (hf 0 _ rfl).int Try.underlying3
  obtain ⟨y, hy, wy⟩ := (hf 1 _ rfl).int Try.underlying3
  obtain ⟨s, hs, ws⟩ := (hf 2 _ rfl).string Try.underlying9
  obtain ⟨p, q, r, rfl⟩ : ∃ p q r, cs = [p, q, r] := by
    match cs, hl with
    | [p, q, r], _ => exact ⟨p, q, r, rfl⟩
  have e1 : Try.prog.cellsOf 3 = 1 := by kernel_rfl
  have e2 : Try.prog.cellsOf 9 = 1 := by kernel_rfl
  simp [e1, e2] at hx hy hs
  subst hx hy hs
  exact ⟨⟨x, y, s⟩, ⟨I64.of_wf wx, I64.of_wf wy, ws⟩, rfl⟩
theorem spans_any (v lo hi : Vl) (w : World) (hv : v.Ok) (hl : lo.Ok) (hh : hi.Ok) :
    Calls Try.prog 4 #[.agg #[.int .i64 v.kind, .int .i64 v.n, .string v.s], .agg #[.int .i64 lo.kind, .int .i64 lo.n, .string lo.s], .agg #[.int .i64 hi.kind, .int .i64 hi.n, .string hi.s]] w fun e w' => e = .returned (.bool true) ∧ Below w.heap.size w w' := by
  cases r : (lo.right && hi.right)
  · exact spans_no v lo hi w hl hh r
  · simp at r
    exact spans_yes v lo hi w hv hl hh r.1 r.2
end Go.Proofs.Ytcafedfldmcbiaa
