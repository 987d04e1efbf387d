/- Sets: Get. Conditions: each contract's own premises. -/
import Derived.Test.YtcghgnncmnoalaaSx3
import Derived.BigQuiet
namespace Go.Proofs.Ytcghgnncmnoalaa
open Go.RowKit Go.Maps

theorem tx_cases (o : Option Tx) : ∃ (x : Tx) (q : Bool), ((o.map Tx.v).getD Tx.zero = .agg #[.string x.val, .bool x.has]) ∧ o.isSome = q ∧ (o = none → x = ⟨⟨#[]⟩, false⟩) ∧ (∀ y, o = some y → x = y) := by
  cases o with
  | none => exact ⟨⟨⟨#[]⟩, false⟩, false, rfl, rfl, fun _ => rfl, fun _ h => (by cases h)⟩
  | some x => exact ⟨x, true, rfl, rfl, fun h => (by cases h), fun y h => by injection h⟩
/-- what a transaction has -/
def getX (gs : Ky → Option Sn) (gw : Ky → Option Tx) (k : Ky) : ByteArray × Bool × Bool := match gw k with
  | some t => (t.val, t.has, true)
  | none => match gs k with
    | some x => (x.val, x.has, true)
    | none => (⟨#[]⟩, false, false)
set_option maxRecDepth 100000 in
set_option maxHeartbeats 2000000 in
theorem sxGet_any {w : World} {sb bs bw bm ns nw nm : Nat} {gs : Ky → Option Sn} {gw gm : Ky → Option Tx} (h : StX w sb bs bw bm ns nw nm gs gw gm) {k : Ky} (hk : k.Ok) :
    Calls Try.prog 41 #[.pointer (some ⟨sb, 0, none⟩), .agg #[.int .i64 k.kind, .int .i64 k.a, .int .i64 k.b, .string k.s]] w fun e w' => e = .returned (.tuple #[.string (getX gs gw k).1, .bool (getX gs gw k).2.1, .bool (getX gs gw k).2.2]) ∧ Below w.heap.size w w' := by
  obtain ⟨W, hW⟩ : ∃ W, w.alloc (.cells #[.int .i64 k.kind, .int .i64 k.a, .int .i64 k.b, .string k.s] 62) = W := ⟨_, rfl⟩
  obtain ⟨kb, hkb⟩ : ∃ x, x = w.heap.size := ⟨_, rfl⟩
  have bW : Below w.heap.size w W := by rw [← hW]; exact below_box _ _
  have eW : W.heap[kb]? = some (.cells #[.int .i64 k.kind, .int .i64 k.a, .int .i64 k.b, .string k.s] 62) := by rw [← hW, hkb]; exact heap_new _ _
  obtain ⟨x, q, hv, hq, hx0, hx1⟩ := sn_cases (gs k)
  obtain ⟨t, p, tv, tq, ht0, ht1⟩ := tx_cases (gw k)
  obtain ⟨r1, r2, r3, hr, hrt, hrf⟩ : ∃ r1 r2 r3, getX gs gw k = (r1, r2, r3) ∧ (p = true → r1 = t.val ∧ r2 = t.has ∧ r3 = true) ∧ (p = false → r1 = x.val ∧ r2 = x.has ∧ r3 = q) := by
    refine ⟨_, _, _, rfl, fun hp => ?_, fun hp => ?_⟩
    · cases hg : gw k with
      | none => rw [hg] at tq; rw [← tq] at hp; cases hp
      | some y => rw [ht1 y hg]; exact ⟨rfl, rfl, rfl⟩
    · cases hg : gw k with
      | some y => rw [hg] at tq; rw [← tq] at hp; cases hp
      | none =>
        cases hg2 : gs k with
        | none => rw [hg2] at hq; rw [hx0 hg2, ← hq]; exact ⟨rfl, rfl, rfl⟩
        | some y => rw [hg2] at hq; rw [hx1 y hg2, ← hq]; exact ⟨rfl, rfl, rfl⟩
  rw [hr]
  have HST : Hid (∀ u : World, Below W.heap.size W u → u.cell? ⟨sb, 1, none⟩ = some (.map (some bw)) ∧ u.cell? ⟨kb, 0, none⟩ = some (.int .i64 k.kind) ∧ u.cell? ⟨kb, 1, none⟩ = some (.int .i64 k.a) ∧ u.cell? ⟨kb, 2, none⟩ = some (.int .i64 k.b) ∧ u.cell? ⟨kb, 3, none⟩ = some (.string k.s) ∧
      (Instr.lookup 154 (.map (some bw)) (.agg #[.int .i64 k.kind, .int .i64 k.a, .int .i64 k.b, .string k.s]) true).run Try.prog u = .ok (.tuple #[.agg #[.string t.val, .bool t.has], .bool p]) u) := Lib.hid (fun u hu => by
    have h2 := (h.below bW).below hu
    have e2 := (hu.block _ (Array.getElem?_eq_some_iff.1 eW).1).trans eW
    have hl := h2.wm.look Try.underlying154 (zeroTx u) hk
    rw [tv, tq] at hl
    exact ⟨by simpa using cell_of_blk h2.blk 1, by simpa using cell_of_blk e2 0, by simpa using cell_of_blk e2 1, by simpa using cell_of_blk e2 2, by simpa using cell_of_blk e2 3, hl⟩)
  have HS : Hid (∀ u : World, Below W.heap.size W u → u.cell? ⟨sb, 0, none⟩ = some (.map (some bs)) ∧ u.cell? ⟨kb, 0, none⟩ = some (.int .i64 k.kind) ∧ u.cell? ⟨kb, 1, none⟩ = some (.int .i64 k.a) ∧ u.cell? ⟨kb, 2, none⟩ = some (.int .i64 k.b) ∧ u.cell? ⟨kb, 3, none⟩ = some (.string k.s) ∧
      (Instr.lookup 153 (.map (some bs)) (.agg #[.int .i64 k.kind, .int .i64 k.a, .int .i64 k.b, .string k.s]) true).run Try.prog u = .ok (.tuple #[.agg #[.int .u64 x.word, .string x.val, .bool x.has], .bool q]) u) := Lib.hid (fun u hu => by
    have h2 := (h.below bW).below hu
    have e2 := (hu.block _ (Array.getElem?_eq_some_iff.1 eW).1).trans eW
    have hl := h2.sm.look Try.underlying153 (zeroSn u) hk
    rw [hv, hq] at hl
    exact ⟨by simpa using cell_of_blk h2.blk 0, by simpa using cell_of_blk e2 0, by simpa using cell_of_blk e2 1, by simpa using cell_of_blk e2 2, by simpa using cell_of_blk e2 3, hl⟩)
  have HB := Lib.hid bW
  have HW := Lib.hid hW
  have HKB := Lib.hid hkb
  have HRT := Lib.hid (And.intro hrt hrf)
  clear h hk bW eW hW hkb hv hq tv tq hx0 hx1 ht0 ht1 hr hrt hrf
  go_enter Try.func41, Try.ntmps41
  go_upto_region 1 with fail
  rw [HW.out, ← HKB.out]
  refine wp_region_held_drew (S := (fun w' : World => w'.cell? ⟨sb, 1, none⟩ = some (.map (some bw)) ∧ w'.cell? ⟨kb, 0, none⟩ = some (.int .i64 k.kind) ∧ w'.cell? ⟨kb, 1, none⟩ = some (.int .i64 k.a) ∧ w'.cell? ⟨kb, 2, none⟩ = some (.int .i64 k.b) ∧ w'.cell? ⟨kb, 3, none⟩ = some (.string k.s) ∧ (Instr.lookup 154 (.map (some bw)) (.agg #[.int .i64 k.kind, .int .i64 k.a, .int .i64 k.b, .string k.s]) true).run Try.prog w' = .ok (.tuple #[.agg #[.string t.val, .bool t.has], .bool p]) w')) (by kernel_rfl) (HST.out _ (below_drewN (Below.refl _ _) 1)) (fun hHeld => ?_)
  obtain ⟨X, hGen⟩ : ∃ u, u = World.drew W := ⟨_, rfl⟩
  rw [← hGen] at hHeld ⊢
  have HBX : Hid (Below W.heap.size W X) := Lib.hid (by rw [hGen]; exact below_drewN (Below.refl _ _) 1)
  clear hGen
  refine wpAnyH_take (i := 0) (oi := ⟨some 12, _, _, _, _, _⟩) (v := ?vvpc1) rfl (by kernel_rfl) (by kernel_rfl) (by kernel_rfl) (fun _ _ _ h => h) (Or.inl ⟨by rfl, ?yypc1⟩) hHeld ?rrpc1
  case yypc1 => (intro wq hSw; (try dsimp only at hSw); go_simp; first | done | with_reducible rfl)
  simp only [Act.put, List.setIfInBounds_toArray, List.set_cons_zero, List.set_cons_succ]
  refine wpAnyH_take (i := 1) (oi := ⟨some 13, _, _, _, _, _⟩) (v := ?vvpc2) rfl (by kernel_rfl) (by kernel_rfl) (by kernel_rfl) (fun _ _ _ h => h) (Or.inl ⟨by rfl, ?yypc2⟩) hHeld ?rrpc2
  case yypc2 => (intro wq hSw; (try dsimp only at hSw); go_simp; first | done | with_reducible rfl)
  simp only [Act.put, List.setIfInBounds_toArray, List.set_cons_zero, List.set_cons_succ]
  refine wpAnyH_take (i := 2) (oi := ⟨some 14, _, _, _, _, _⟩) (v := ?vvpc3) rfl (by kernel_rfl) (by kernel_rfl) (by kernel_rfl) (fun _ _ _ h => h) (Or.inl ⟨by rfl, ?yypc3⟩) hHeld ?rrpc3
  case yypc3 => (intro wq hSw; (try dsimp only at hSw); go_simp; first | done | with_reducible rfl)
  simp only [Act.put, List.setIfInBounds_toArray, List.set_cons_zero, List.set_cons_succ]
  refine wpAnyH_take (i := 3) (oi := ⟨some 15, _, _, _, _, _⟩) (v := ?vvpc4) rfl (by kernel_rfl) (by kernel_rfl) (by kernel_rfl) (fun _ _ _ h => h) (Or.inl ⟨by rfl, ?yypc4⟩) hHeld ?rrpc4
  case yypc4 => (intro wq hSw; (try dsimp only at hSw); go_simp; first | done | with_reducible rfl)
  simp only [Act.put, List.setIfInBounds_toArray, List.set_cons_zero, List.set_cons_succ]
  refine wpAnyH_take (i := 4) (oi := ⟨some 16, _, _, _, _, _⟩) (v := ?vvpc5) rfl (by kernel_rfl) (by kernel_rfl) (by kernel_rfl) (fun _ _ _ h => h) (Or.inl ⟨by rfl, ?yypc5⟩) hHeld ?rrpc5
  case yypc5 => (intro wq hSw; (try dsimp only at hSw); go_simp; first | done | with_reducible rfl)
  simp only [Act.put, List.setIfInBounds_toArray, List.set_cons_zero, List.set_cons_succ]
  refine wpAnyH_take (i := 5) (oi := ⟨some 17, _, _, _, _, _⟩) (v := ?vvpc6) rfl (by kernel_rfl) (by kernel_rfl) (by kernel_rfl) (fun _ _ _ h => h) (Or.inl ⟨by rfl, ?yypc6⟩) hHeld ?rrpc6
  case yypc6 => (intro wq hSw; (try dsimp only at hSw); go_simp; first | done | with_reducible rfl)
  simp only [Act.put, List.setIfInBounds_toArray, List.set_cons_zero, List.set_cons_succ]
  refine wpAnyH_take (i := 6) (oi := ⟨some 11, _, _, _, _, _⟩) (v := ?vvpc7) rfl (by kernel_rfl) (by kernel_rfl) (by kernel_rfl) (fun _ _ _ h => h) (Or.inl ⟨by rfl, ?yypc7⟩) hHeld ?rrpc7
  case yypc7 => (intro wq hSw; (try dsimp only at hSw); go_simp; first | done | with_reducible rfl)
  simp only [Act.put, List.setIfInBounds_toArray, List.set_cons_zero, List.set_cons_succ]
  refine wpAnyH_take (i := 7) (oi := ⟨some 18, _, _, _, _, _⟩) (v := ?vvpc8) rfl (by kernel_rfl) (by kernel_rfl) (by kernel_rfl) (fun _ _ _ h => h) (Or.inl ⟨by rfl, ?yypc8⟩) hHeld ?rrpc8
  case yypc8 => (intro wq hSw; (try dsimp only at hSw); go_simp; first | done | with_reducible rfl)
  simp only [Act.put, List.setIfInBounds_toArray, List.set_cons_zero, List.set_cons_succ]
  refine wpAnyH_take (i := 8) (oi := ⟨some 19, _, _, _, _, _⟩) (v := ?vvpc9) rfl (by kernel_rfl) (by kernel_rfl) (by kernel_rfl) (fun _ _ _ h => h) (Or.inl ⟨by rfl, ?yypc9⟩) hHeld ?rrpc9
  case yypc9 => (intro wq hSw; (try dsimp only at hSw); go_simp; first | done | with_reducible rfl)
  simp only [Act.put, List.setIfInBounds_toArray, List.set_cons_zero, List.set_cons_succ]
  refine wpAnyH_ready (rs := [9]) (by kernel_rfl) (by simp) ?_
  refine AllReadyH.cons (o := ⟨some 7, _, _, _, _, _⟩) rfl (fun K hK => ?_) AllReadyH.nil
  go_simp
  obtain ⟨n7, hn7⟩ : ∃ u, u = X.alloc (.cells #[.string ⟨#[]⟩, .bool false] 159) := ⟨_, rfl⟩
  obtain ⟨g7, hg7⟩ : ∃ g, g = X.heap.size := ⟨_, rfl⟩
  rw [← hn7, ← hg7]
  have HB7 : Hid (Below W.heap.size W n7) := Lib.hid (by rw [hn7]; exact below_then HBX.out (below_box _ _))
  have E7 : Hid (n7.heap[g7]? = some (.cells #[.string ⟨#[]⟩, .bool false] 159)) := Lib.hid (by rw [hn7, hg7]; exact heap_new _ _)
  have L7 : Hid (W.heap.size ≤ g7) := Lib.hid (by rw [hg7]; exact HBX.out.size)
  have z0 := cell_of_blk E7.out 0
  have z1 := cell_of_blk E7.out 1
  have y0 := frozen_of_blk E7.out 0
  have y1 := frozen_of_blk E7.out 1
  simp at z0 z1
  clear hn7 hg7
  refine hK.out _ _ ?sspc10 (fun hHeld => ?_)
  case sspc10 => (exact HST.out _ HB7.out)
  clear hK K
  try simp only [Act.put, List.setIfInBounds_toArray, List.set_cons_zero, List.set_cons_succ]
  refine wpAnyH_ready (rs := [10]) (by kernel_rfl) (by simp) ?_
  refine AllReadyH.cons (o := ⟨none, _, _, _, _, _⟩) rfl (fun K hK => ?_) AllReadyH.nil
  go_simp
  obtain ⟨V, hV⟩ : ∃ u, u = (n7.setCell ⟨g7, 0, none⟩ (.string t.val)).setCell ⟨g7, 1, none⟩ (.bool t.has) := ⟨_, rfl⟩
  rw [← hV]
  have HBV : Hid (Below W.heap.size W V) := Lib.hid (by rw [hV]; exact (HB7.out.setCell (p := ⟨g7, 0, none⟩) L7.out _).setCell (p := ⟨g7, 1, none⟩) L7.out _)
  have EV : Hid (V.heap[g7]? = some (.cells #[.string t.val, .bool t.has] 159)) := Lib.hid (by rw [hV, blk_setCell (blk_setCell E7.out _) _]; rfl)
  clear hV z0 z1 y0 y1
  refine hK.out _ _ ?sspc11 (fun hHeld => ?_)
  case sspc11 => (exact HST.out _ HBV.out)
  clear hK K
  try simp only [Act.put, List.setIfInBounds_toArray, List.set_cons_zero, List.set_cons_succ]
  refine wpAnyH_take (i := 11) (oi := ⟨some 8, _, _, _, _, _⟩) (v := ?vvpc12) rfl (by kernel_rfl) (by kernel_rfl) (by kernel_rfl) (fun _ _ _ h => h) (Or.inl ⟨by rfl, ?yypc12⟩) hHeld ?rrpc12
  case yypc12 => (intro wq hSw; (try dsimp only at hSw); go_simp; first | done | with_reducible rfl)
  simp only [Act.put, List.setIfInBounds_toArray, List.set_cons_zero, List.set_cons_succ]
  refine wpAnyH_done (by kernel_rfl) ?_ _
  clear hHeld
  cases p
  · go_upto_region 4 with fail
    refine wp_region_held_drew (S := (fun w' : World => w'.cell? ⟨sb, 0, none⟩ = some (.map (some bs)) ∧ w'.cell? ⟨kb, 0, none⟩ = some (.int .i64 k.kind) ∧ w'.cell? ⟨kb, 1, none⟩ = some (.int .i64 k.a) ∧ w'.cell? ⟨kb, 2, none⟩ = some (.int .i64 k.b) ∧ w'.cell? ⟨kb, 3, none⟩ = some (.string k.s) ∧ (Instr.lookup 153 (.map (some bs)) (.agg #[.int .i64 k.kind, .int .i64 k.a, .int .i64 k.b, .string k.s]) true).run Try.prog w' = .ok (.tuple #[.agg #[.int .u64 x.word, .string x.val, .bool x.has], .bool q]) w')) (by kernel_rfl) (HS.out _ (below_drewN HBV.out 1)) (fun hHeld => ?_)
    obtain ⟨X, hGen⟩ : ∃ u, u = World.drew V := ⟨_, rfl⟩
    rw [← hGen] at hHeld ⊢
    have HBX : Hid (Below W.heap.size W X) := Lib.hid (by rw [hGen]; exact below_drewN HBV.out 1)
    clear hGen
    refine wpAnyH_take (i := 0) (oi := ⟨some 26, _, _, _, _, _⟩) (v := ?vvpd1) rfl (by kernel_rfl) (by kernel_rfl) (by kernel_rfl) (fun _ _ _ h => h) (Or.inl ⟨by rfl, ?yypd1⟩) hHeld ?rrpd1
    case yypd1 => (intro wq hSw; (try dsimp only at hSw); go_simp; first | done | with_reducible rfl)
    simp only [Act.put, List.setIfInBounds_toArray, List.set_cons_zero, List.set_cons_succ]
    refine wpAnyH_take (i := 1) (oi := ⟨some 27, _, _, _, _, _⟩) (v := ?vvpd2) rfl (by kernel_rfl) (by kernel_rfl) (by kernel_rfl) (fun _ _ _ h => h) (Or.inl ⟨by rfl, ?yypd2⟩) hHeld ?rrpd2
    case yypd2 => (intro wq hSw; (try dsimp only at hSw); go_simp; first | done | with_reducible rfl)
    simp only [Act.put, List.setIfInBounds_toArray, List.set_cons_zero, List.set_cons_succ]
    refine wpAnyH_take (i := 2) (oi := ⟨some 28, _, _, _, _, _⟩) (v := ?vvpd3) rfl (by kernel_rfl) (by kernel_rfl) (by kernel_rfl) (fun _ _ _ h => h) (Or.inl ⟨by rfl, ?yypd3⟩) hHeld ?rrpd3
    case yypd3 => (intro wq hSw; (try dsimp only at hSw); go_simp; first | done | with_reducible rfl)
    simp only [Act.put, List.setIfInBounds_toArray, List.set_cons_zero, List.set_cons_succ]
    refine wpAnyH_take (i := 3) (oi := ⟨some 29, _, _, _, _, _⟩) (v := ?vvpd4) rfl (by kernel_rfl) (by kernel_rfl) (by kernel_rfl) (fun _ _ _ h => h) (Or.inl ⟨by rfl, ?yypd4⟩) hHeld ?rrpd4
    case yypd4 => (intro wq hSw; (try dsimp only at hSw); go_simp; first | done | with_reducible rfl)
    simp only [Act.put, List.setIfInBounds_toArray, List.set_cons_zero, List.set_cons_succ]
    refine wpAnyH_take (i := 4) (oi := ⟨some 30, _, _, _, _, _⟩) (v := ?vvpd5) rfl (by kernel_rfl) (by kernel_rfl) (by kernel_rfl) (fun _ _ _ h => h) (Or.inl ⟨by rfl, ?yypd5⟩) hHeld ?rrpd5
    case yypd5 => (intro wq hSw; (try dsimp only at hSw); go_simp; first | done | with_reducible rfl)
    simp only [Act.put, List.setIfInBounds_toArray, List.set_cons_zero, List.set_cons_succ]
    refine wpAnyH_take (i := 5) (oi := ⟨some 31, _, _, _, _, _⟩) (v := ?vvpd6) rfl (by kernel_rfl) (by kernel_rfl) (by kernel_rfl) (fun _ _ _ h => h) (Or.inl ⟨by rfl, ?yypd6⟩) hHeld ?rrpd6
    case yypd6 => (intro wq hSw; (try dsimp only at hSw); go_simp; first | done | with_reducible rfl)
    simp only [Act.put, List.setIfInBounds_toArray, List.set_cons_zero, List.set_cons_succ]
    refine wpAnyH_take (i := 6) (oi := ⟨some 25, _, _, _, _, _⟩) (v := ?vvpd7) rfl (by kernel_rfl) (by kernel_rfl) (by kernel_rfl) (fun _ _ _ h => h) (Or.inl ⟨by rfl, ?yypd7⟩) hHeld ?rrpd7
    case yypd7 => (intro wq hSw; (try dsimp only at hSw); go_simp; first | done | with_reducible rfl)
    simp only [Act.put, List.setIfInBounds_toArray, List.set_cons_zero, List.set_cons_succ]
    refine wpAnyH_take (i := 7) (oi := ⟨some 32, _, _, _, _, _⟩) (v := ?vvpd8) rfl (by kernel_rfl) (by kernel_rfl) (by kernel_rfl) (fun _ _ _ h => h) (Or.inl ⟨by rfl, ?yypd8⟩) hHeld ?rrpd8
    case yypd8 => (intro wq hSw; (try dsimp only at hSw); go_simp; first | done | with_reducible rfl)
    simp only [Act.put, List.setIfInBounds_toArray, List.set_cons_zero, List.set_cons_succ]
    refine wpAnyH_take (i := 8) (oi := ⟨some 33, _, _, _, _, _⟩) (v := ?vvpd9) rfl (by kernel_rfl) (by kernel_rfl) (by kernel_rfl) (fun _ _ _ h => h) (Or.inl ⟨by rfl, ?yypd9⟩) hHeld ?rrpd9
    case yypd9 => (intro wq hSw; (try dsimp only at hSw); go_simp; first | done | with_reducible rfl)
    simp only [Act.put, List.setIfInBounds_toArray, List.set_cons_zero, List.set_cons_succ]
    refine wpAnyH_ready (rs := [9]) (by kernel_rfl) (by simp) ?_
    refine AllReadyH.cons (o := ⟨some 9, _, _, _, _, _⟩) rfl (fun K hK => ?_) AllReadyH.nil
    go_simp
    obtain ⟨n5, hn5⟩ : ∃ u, u = X.alloc (.cells #[.int .u64 0, .string ⟨#[]⟩, .bool false] 64) := ⟨_, rfl⟩
    obtain ⟨g5, hg5⟩ : ∃ g, g = X.heap.size := ⟨_, rfl⟩
    rw [← hn5, ← hg5]
    have HB5 : Hid (Below W.heap.size W n5) := Lib.hid (by rw [hn5]; exact below_then HBX.out (below_box _ _))
    have E5 : Hid (n5.heap[g5]? = some (.cells #[.int .u64 0, .string ⟨#[]⟩, .bool false] 64)) := Lib.hid (by rw [hn5, hg5]; exact heap_new _ _)
    have L5 : Hid (W.heap.size ≤ g5) := Lib.hid (by rw [hg5]; exact HBX.out.size)
    have z0 := cell_of_blk E5.out 0
    have z1 := cell_of_blk E5.out 1
    have z2 := cell_of_blk E5.out 2
    have y0 := frozen_of_blk E5.out 0
    have y1 := frozen_of_blk E5.out 1
    have y2 := frozen_of_blk E5.out 2
    simp at z0 z1 z2
    clear hn5 hg5
    refine hK.out _ _ ?sspd10 (fun hHeld => ?_)
    case sspd10 => (exact HS.out _ HB5.out)
    clear hK K
    try simp only [Act.put, List.setIfInBounds_toArray, List.set_cons_zero, List.set_cons_succ]
    refine wpAnyH_ready (rs := [10]) (by kernel_rfl) (by simp) ?_
    refine AllReadyH.cons (o := ⟨none, _, _, _, _, _⟩) rfl (fun K hK => ?_) AllReadyH.nil
    go_simp
    obtain ⟨U, hU⟩ : ∃ u, u = ((n5.setCell ⟨g5, 0, none⟩ (.int .u64 x.word)).setCell ⟨g5, 1, none⟩ (.string x.val)).setCell ⟨g5, 2, none⟩ (.bool x.has) := ⟨_, rfl⟩
    rw [← hU]
    have HBU : Hid (Below W.heap.size W U) := Lib.hid (by rw [hU]; exact ((HB5.out.setCell (p := ⟨g5, 0, none⟩) L5.out _).setCell (p := ⟨g5, 1, none⟩) L5.out _).setCell (p := ⟨g5, 2, none⟩) L5.out _)
    have EU : Hid (U.heap[g5]? = some (.cells #[.int .u64 x.word, .string x.val, .bool x.has] 64)) := Lib.hid (by rw [hU, blk_setCell (blk_setCell (blk_setCell E5.out _) _) _]; rfl)
    clear hU z0 z1 z2 y0 y1 y2
    refine hK.out _ _ ?sspd11 (fun hHeld => ?_)
    case sspd11 => (exact HS.out _ HBU.out)
    clear hK K
    try simp only [Act.put, List.setIfInBounds_toArray, List.set_cons_zero, List.set_cons_succ]
    refine wpAnyH_take (i := 11) (oi := ⟨some 10, _, _, _, _, _⟩) (v := ?vvpd12) rfl (by kernel_rfl) (by kernel_rfl) (by kernel_rfl) (fun _ _ _ h => h) (Or.inl ⟨by rfl, ?yypd12⟩) hHeld ?rrpd12
    case yypd12 => (intro wq hSw; (try dsimp only at hSw); go_simp; first | done | with_reducible rfl)
    simp only [Act.put, List.setIfInBounds_toArray, List.set_cons_zero, List.set_cons_succ]
    refine wpAnyH_done (by kernel_rfl) ?_ _
    clear hHeld
    obtain ⟨e1, e2, e3⟩ := HRT.out.2 rfl
    subst e1 e2 e3
    have u0 := cell_of_blk EU.out 0
    have u1 := cell_of_blk EU.out 1
    have u2 := cell_of_blk EU.out 2
    simp at u0 u1 u2
    cases r3
    all_goals
      go_wp2_with fail
      go_quiet (fail)
      go_wp2_with fail
      go_ret3
      exact ⟨rfl, below_drewN (below_then HB.out HBU.out) _⟩
  · obtain ⟨e1, e2, e3⟩ := HRT.out.1 rfl
    subst e1 e2 e3
    have u0 := cell_of_blk EV.out 0
    have u1 := cell_of_blk EV.out 1
    simp at u0 u1
    go_wp2_with fail
    go_quiet (fail)
    go_wp2_with fail
    go_ret3
    exact ⟨rfl, below_drewN (below_then HB.out HBV.out) _⟩
end Go.Proofs.Ytcghgnncmnoalaa
