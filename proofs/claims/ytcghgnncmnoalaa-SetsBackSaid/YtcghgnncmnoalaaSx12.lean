/- Sets: Writes. Conditions: each contract's own premises. -/
import Derived.Test.YtcghgnncmnoalaaSx11
import Derived.Test.YtcghgnncmnoalaaRd10
namespace Go.Proofs.Ytcghgnncmnoalaa
open Go.RowKit Go.Maps

theorem neTx (a b : Tx) (w : World) : (binOp .neq 159 (.agg #[.string a.val, .bool a.has]) (.agg #[.string b.val, .bool b.has])).run Try.prog w = .ok (.bool (!txB a b)) w := by
  unfold txB
  cases h1 : (a.val.toList == b.val.toList) <;> cases h2 : (a.has == b.has) <;> go_simp
theorem tx_tx (o : Option Tx) : ∃ t : Tx, ((o.map Tx.v).getD Tx.zero = .agg #[.string t.val, .bool t.has]) ∧ txD o = t := by
  cases o with
  | none => exact ⟨⟨⟨#[]⟩, false⟩, rfl, rfl⟩
  | some t => exact ⟨t, rfl, rfl⟩
theorem sn_tx (o : Option Sn) : ∃ x : Sn, ((o.map Sn.v).getD Sn.zero = .agg #[.int .u64 x.word, .string x.val, .bool x.has]) ∧ snTx o = ⟨x.val, x.has⟩ := by
  cases o with
  | none => exact ⟨⟨0, ⟨#[]⟩, false⟩, rfl, rfl⟩
  | some x => exact ⟨x, rfl, rfl⟩
/-- in a round of Writes -/
structure WrI (w2 wr : World) (gs : Ky → Option Sn) (gw : Ky → Option Tx) (ks : List Ky) (k : Nat) (v : Value) : Prop where
  b : Below w2.heap.size w2 wr
  o : kW.Own wr w2.heap.size v (wrOut gs gw (ks.take k))
theorem wrAt_len (gs : Ky → Option Sn) (gw : Ky → Option Tx) (k : Ky) : (wrAt gs gw k).length ≤ 1 := by unfold wrAt; split <;> simp
theorem wrOut_len (gs : Ky → Option Sn) (gw : Ky → Option Tx) : ∀ ks : List Ky, (wrOut gs gw ks).length ≤ ks.length
  | [] => Nat.le_refl _
  | k :: ks => by
    show (wrAt gs gw k ++ wrOut gs gw ks).length ≤ _
    have := wrAt_len gs gw k
    have := wrOut_len gs gw ks
    simp only [List.length_append, List.length_cons]
    omega
theorem wrOut_snoc (gs : Ky → Option Sn) (gw : Ky → Option Tx) (ks : List Ky) (x : Ky) : wrOut gs gw (ks ++ [x]) = wrOut gs gw ks ++ wrAt gs gw x := by simp [wrOut]
theorem below_grownW {w w' : World} {B : Nat} {v : Value} {l : List Wr} (h : kW.Own w B v l) (hg : w.grownBy w' v.ownBlock) (hB : B ≤ w.heap.size) : Below B w w' :=
  ⟨hg.os, hg.tape, hg.output, hg.size, fun k hk => hg.block k (by omega) (fun e => by have := (h.lt k e.symm).1; omega)⟩
def WritesPost (w : World) (nw : Nat) (gs : Ky → Option Sn) (gw : Ky → Option Tx) (e : Ending) (w' : World) : Prop :=
  ∃ v ks, e = .returned v ∧ KsG gw nw ks ∧ kW.Own w' w.heap.size v (wrOut gs gw ks) ∧ Below w.heap.size w w'
set_option maxRecDepth 100000 in
set_option maxHeartbeats 4000000 in
theorem sxWrites_any {w : World} {sb bs bw bm ns nw nm : Nat} {gs : Ky → Option Sn} {gw gm : Ky → Option Tx} (h : StX w sb bs bw bm ns nw nm gs gw gm) (hnw : nw ≤ 1000000) :
    Calls Try.prog 48 #[.pointer (some ⟨sb, 0, none⟩)] w (WritesPost w nw gs gw) := by
  have c1 := cell_of_blk h.blk 1
  simp at c1
  obtain ⟨F, hm, hF⟩ := h.wm
  have HH := Lib.hid h
  have HM := Lib.hid hm
  have HF := Lib.hid hF
  have HNW := Lib.hid hnw
  clear h hm hF hnw
  go_enter Try.func48, Try.ntmps48
  go_wp2_with fail
  refine (keysT_any (some bw) w).mono ?_
  rintro e w1 ⟨rfl, hw1⟩
  have b1 : Below w.heap.size w w1 := by rw [hw1]; exact below_box _ _
  have HB1 := Lib.hid b1
  have HS : Hid (Calls Try.prog 103 #[.func (.func 141) #[] #[.pointer (some ⟨w.heap.size, 0, none⟩)], .func (.func 105) #[] #[]] w1 (SortedPost F nw w1)) := Lib.hid (sortedT_any w.heap.size bw nw F HNW.out w1 (by rw [hw1, size_alloc]; omega) (by rw [hw1]; exact cell_of_blk (heap_new w _) 0) (HM.out.of_block (b1.block _ HM.out.lt)))
  clear hw1 b1 c1
  go_wp2_with fail
  refine HS.out.mono ?_
  rintro e w2 ⟨v2, ks, rfl, s1, s2, o2, b2⟩
  have HG : Hid (KsG gw nw ks) := Lib.hid ⟨s1, s2.2.1, s2.2.2.1, fun k hk => by
    rw [s2.2.2.2 k hk, HF.out k hk]
    cases gw k <;> simp⟩
  have HB2 := Lib.hid (below_then HB1.out b2)
  have HH2 := Lib.hid (HH.out.below HB2.out)
  have HKO := Lib.hid o2
  obtain ⟨ka, kcap, hv2⟩ := o2.shape
  subst hv2
  have HKL : Hid (ks.length ≤ 1000000) := Lib.hid (Nat.le_trans HG.out.2.2.1 HNW.out)
  obtain ⟨n, hn⟩ : ∃ n, n = ks.length := ⟨_, rfl⟩
  rw [← hn]
  have hn6 : n ≤ 1000000 := by rw [hn]; exact HKL.out
  have HN := Lib.hid hn
  clear s1 s2 o2 b2 hn HS
  have HI0 : Hid (WrI w2 w2 gs gw ks 0 (.slice none 0 0)) := Lib.hid ⟨Below.refl _ _, RowK.Own.nil kW _ _⟩
  go_wp2_with fail
  go_loopw [3, 15] (fun s3 i wr => ∃ k : Nat, k ≤ n ∧ i = .int .i64 k ∧ Hid (WrI w2 wr gs gw ks k s3)) (fun _ i _ => n - (intOf i).toNat)
  case atStart => exact ⟨0, Nat.zero_le _, rfl, HI0⟩
  case round =>
    obtain ⟨k, hk, rfl, HI⟩ := hrel
    by_cases hlt : k < n
    · have hltz : (k : Int) < (n : Int) := by omega
      obtain ⟨x, hx⟩ : ∃ x, ks[k]? = some x := ⟨_, List.getElem?_eq_getElem (by have := HN.out; omega)⟩
      obtain ⟨b, cp, hbe, _, _, hat⟩ := HKO.out.at' (fun e => by rw [e] at hx; simp at hx)
      injection hbe with e1 e2 e3
      subst e1
      have hat2 := hat.below HI.out.b
      have c0 := hat2.cells k x hx 0 _ rfl
      have c1 := hat2.cells k x hx 1 _ rfl
      have c2 := hat2.cells k x hx 2 _ rfl
      have c3 := hat2.cells k x hx 3 _ rfl
      simp [kK] at c0 c1 c2 c3
      have HXO : Hid x.Ok := Lib.hid (HG.out.2.1 x (List.mem_of_getElem? hx))
      have HTK : Hid (ks.take (k + 1) = ks.take k ++ [x]) := Lib.hid (by
        obtain ⟨hk', e⟩ := List.getElem?_eq_some_iff.1 hx
        rw [List.take_succ_eq_append_getElem hk', e])
      obtain ⟨W, hW⟩ : ∃ W, wr.alloc (.cells #[.int .i64 x.kind, .int .i64 x.a, .int .i64 x.b, .string x.s] 62) = W := ⟨_, rfl⟩
      obtain ⟨kb, hkb⟩ : ∃ x, x = wr.heap.size := ⟨_, rfl⟩
      have bW : Below wr.heap.size wr W := by rw [← hW]; exact below_box _ _
      have eW : W.heap[kb]? = some (.cells #[.int .i64 x.kind, .int .i64 x.a, .int .i64 x.b, .string x.s] 62) := by rw [← hW, hkb]; exact heap_new _ _
      have HBW := Lib.hid (below_then HI.out.b bW)
      have HOW := Lib.hid (HI.out.o.below bW)
      have HHW := Lib.hid (HH2.out.below HBW.out)
      obtain ⟨t, hv, ht⟩ := tx_tx (gw x)
      obtain ⟨y, hy, hyt⟩ := sn_tx (gs x)
      have HS : Hid (∀ u : World, Below W.heap.size W u → u.cell? ⟨sb, 0, none⟩ = some (.map (some bs)) ∧ u.cell? ⟨sb, 1, none⟩ = some (.map (some bw)) ∧ u.cell? ⟨kb, 0, none⟩ = some (.int .i64 x.kind) ∧ u.cell? ⟨kb, 1, none⟩ = some (.int .i64 x.a) ∧ u.cell? ⟨kb, 2, none⟩ = some (.int .i64 x.b) ∧ u.cell? ⟨kb, 3, none⟩ = some (.string x.s) ∧
          (Instr.lookup 154 (.map (some bw)) (.agg #[.int .i64 x.kind, .int .i64 x.a, .int .i64 x.b, .string x.s]) false).run Try.prog u = .ok (.agg #[.string t.val, .bool t.has]) u ∧
          (Instr.lookup 153 (.map (some bs)) (.agg #[.int .i64 x.kind, .int .i64 x.a, .int .i64 x.b, .string x.s]) false).run Try.prog u = .ok (.agg #[.int .u64 y.word, .string y.val, .bool y.has]) u) := Lib.hid (fun u hu => by
        have h2 := HHW.out.below hu
        have e2 := (hu.block _ (Array.getElem?_eq_some_iff.1 eW).1).trans eW
        have hl := h2.wm.look1 Try.underlying154 (zeroTx u) HXO.out
        rw [hv] at hl
        have hl2 := h2.sm.look1 Try.underlying153 (zeroSn u) HXO.out
        rw [hy] at hl2
        exact ⟨by simpa using cell_of_blk h2.blk 0, by simpa using cell_of_blk h2.blk 1, by simpa using cell_of_blk e2 0, by simpa using cell_of_blk e2 1, by simpa using cell_of_blk e2 2, by simpa using cell_of_blk e2 3, hl, hl2⟩)
      obtain ⟨q, hq⟩ : ∃ q, txB ⟨y.val, y.has⟩ t = q := ⟨_, rfl⟩
      have HWA : Hid (wrAt gs gw x = if q = true then [] else [⟨x, t.val, t.has⟩]) := Lib.hid (by unfold wrAt; rw [ht, hyt, hq])
      have HE : Hid (∀ u, (binOp .neq 159 (.agg #[.string y.val, .bool y.has]) (.agg #[.string t.val, .bool t.has])).run Try.prog u = .ok (.bool (!q)) u) := Lib.hid (fun u => by rw [← hq]; exact neTx ⟨y.val, y.has⟩ t u)
      have HOL : Hid ((wrOut gs gw (ks.take k)).length ≤ 1000000) := Lib.hid (by
        have := wrOut_len gs gw (ks.take k)
        have := HKL.out
        rw [List.length_take] at *
        omega)
      obtain ⟨oa, oc, hos⟩ := HI.out.o.shape
      subst hos
      obtain ⟨on, hon⟩ : ∃ on, on = (wrOut gs gw (ks.take k)).length := ⟨_, rfl⟩
      rw [← hon]
      have HON := Lib.hid hon
      have HW := Lib.hid hW
      have HKB := Lib.hid hkb
      clear hx hat hat2 bW eW hW hkb hv ht hy hyt hq hon e2 e3
      go_upto_region 5 with fail
      rw [HW.out, ← HKB.out]
      clear c0 c1 c2 c3
      refine wp_region_held_drew (S := (fun w' : World => w'.cell? ⟨sb, 0, none⟩ = some (.map (some bs)) ∧ w'.cell? ⟨sb, 1, none⟩ = some (.map (some bw)) ∧ w'.cell? ⟨kb, 0, none⟩ = some (.int .i64 x.kind) ∧ w'.cell? ⟨kb, 1, none⟩ = some (.int .i64 x.a) ∧ w'.cell? ⟨kb, 2, none⟩ = some (.int .i64 x.b) ∧ w'.cell? ⟨kb, 3, none⟩ = some (.string x.s) ∧ (Instr.lookup 154 (.map (some bw)) (.agg #[.int .i64 x.kind, .int .i64 x.a, .int .i64 x.b, .string x.s]) false).run Try.prog w' = .ok (.agg #[.string t.val, .bool t.has]) w' ∧ (Instr.lookup 153 (.map (some bs)) (.agg #[.int .i64 x.kind, .int .i64 x.a, .int .i64 x.b, .string x.s]) false).run Try.prog w' = .ok (.agg #[.int .u64 y.word, .string y.val, .bool y.has]) w')) (by kernel_rfl) (HS.out _ (below_drewN (Below.refl _ _) 1)) (fun hHeld => ?_)
      obtain ⟨X, hGen⟩ : ∃ u, u = World.drew W := ⟨_, rfl⟩
      rw [← hGen] at hHeld ⊢
      have HBX : Hid (Below W.heap.size W X) := Lib.hid (by rw [hGen]; exact below_drewN (Below.refl _ _) 1)
      clear hGen
      refine wpAnyH_take (i := 0) (oi := ⟨some 19, _, _, _, _, _⟩) (v := ?vvpg1) rfl (by kernel_rfl) (by kernel_rfl) (by kernel_rfl) (fun _ _ _ h => h) (Or.inl ⟨by rfl, ?yypg1⟩) hHeld ?rrpg1
      case yypg1 => (intro wq hSw; (try dsimp only at hSw); go_simp; first | done | with_reducible rfl)
      simp only [Act.put, List.setIfInBounds_toArray, List.set_cons_zero, List.set_cons_succ]
      refine wpAnyH_take (i := 1) (oi := ⟨some 20, _, _, _, _, _⟩) (v := ?vvpg2) rfl (by kernel_rfl) (by kernel_rfl) (by kernel_rfl) (fun _ _ _ h => h) (Or.inl ⟨by rfl, ?yypg2⟩) hHeld ?rrpg2
      case yypg2 => (intro wq hSw; (try dsimp only at hSw); go_simp; first | done | with_reducible rfl)
      simp only [Act.put, List.setIfInBounds_toArray, List.set_cons_zero, List.set_cons_succ]
      refine wpAnyH_take (i := 2) (oi := ⟨some 21, _, _, _, _, _⟩) (v := ?vvpg3) rfl (by kernel_rfl) (by kernel_rfl) (by kernel_rfl) (fun _ _ _ h => h) (Or.inl ⟨by rfl, ?yypg3⟩) hHeld ?rrpg3
      case yypg3 => (intro wq hSw; (try dsimp only at hSw); go_simp; first | done | with_reducible rfl)
      simp only [Act.put, List.setIfInBounds_toArray, List.set_cons_zero, List.set_cons_succ]
      refine wpAnyH_take (i := 3) (oi := ⟨some 22, _, _, _, _, _⟩) (v := ?vvpg4) rfl (by kernel_rfl) (by kernel_rfl) (by kernel_rfl) (fun _ _ _ h => h) (Or.inl ⟨by rfl, ?yypg4⟩) hHeld ?rrpg4
      case yypg4 => (intro wq hSw; (try dsimp only at hSw); go_simp; first | done | with_reducible rfl)
      simp only [Act.put, List.setIfInBounds_toArray, List.set_cons_zero, List.set_cons_succ]
      refine wpAnyH_take (i := 4) (oi := ⟨some 23, _, _, _, _, _⟩) (v := ?vvpg5) rfl (by kernel_rfl) (by kernel_rfl) (by kernel_rfl) (fun _ _ _ h => h) (Or.inl ⟨by rfl, ?yypg5⟩) hHeld ?rrpg5
      case yypg5 => (intro wq hSw; (try dsimp only at hSw); go_simp; first | done | with_reducible rfl)
      simp only [Act.put, List.setIfInBounds_toArray, List.set_cons_zero, List.set_cons_succ]
      refine wpAnyH_take (i := 5) (oi := ⟨some 24, _, _, _, _, _⟩) (v := ?vvpg6) rfl (by kernel_rfl) (by kernel_rfl) (by kernel_rfl) (fun _ _ _ h => h) (Or.inl ⟨by rfl, ?yypg6⟩) hHeld ?rrpg6
      case yypg6 => (intro wq hSw; (try dsimp only at hSw); go_simp; first | done | with_reducible rfl)
      simp only [Act.put, List.setIfInBounds_toArray, List.set_cons_zero, List.set_cons_succ]
      refine wpAnyH_take (i := 6) (oi := ⟨some 25, _, _, _, _, _⟩) (v := ?vvpg7) rfl (by kernel_rfl) (by kernel_rfl) (by kernel_rfl) (fun _ _ _ h => h) (Or.inl ⟨by rfl, ?yypg7⟩) hHeld ?rrpg7
      case yypg7 => (intro wq hSw; (try dsimp only at hSw); go_simp; first | done | with_reducible rfl)
      simp only [Act.put, List.setIfInBounds_toArray, List.set_cons_zero, List.set_cons_succ]
      refine wpAnyH_take (i := 7) (oi := ⟨some 26, _, _, _, _, _⟩) (v := ?vvpg8) rfl (by kernel_rfl) (by kernel_rfl) (by kernel_rfl) (fun _ _ _ h => h) (Or.inl ⟨by rfl, ?yypg8⟩) hHeld ?rrpg8
      case yypg8 => (intro wq hSw; (try dsimp only at hSw); go_simp; first | done | with_reducible rfl)
      simp only [Act.put, List.setIfInBounds_toArray, List.set_cons_zero, List.set_cons_succ]
      refine wpAnyH_take (i := 8) (oi := ⟨some 27, _, _, _, _, _⟩) (v := ?vvpg9) rfl (by kernel_rfl) (by kernel_rfl) (by kernel_rfl) (fun _ _ _ h => h) (Or.inl ⟨by rfl, ?yypg9⟩) hHeld ?rrpg9
      case yypg9 => (intro wq hSw; (try dsimp only at hSw); go_simp; first | done | with_reducible rfl)
      simp only [Act.put, List.setIfInBounds_toArray, List.set_cons_zero, List.set_cons_succ]
      refine wpAnyH_take (i := 9) (oi := ⟨some 28, _, _, _, _, _⟩) (v := ?vvpg10) rfl (by kernel_rfl) (by kernel_rfl) (by kernel_rfl) (fun _ _ _ h => h) (Or.inl ⟨by rfl, ?yypg10⟩) hHeld ?rrpg10
      case yypg10 => (intro wq hSw; (try dsimp only at hSw); go_simp; first | done | with_reducible rfl)
      simp only [Act.put, List.setIfInBounds_toArray, List.set_cons_zero, List.set_cons_succ]
      refine wpAnyH_take (i := 10) (oi := ⟨some 29, _, _, _, _, _⟩) (v := ?vvpg11) rfl (by kernel_rfl) (by kernel_rfl) (by kernel_rfl) (fun _ _ _ h => h) (Or.inl ⟨by rfl, ?yypg11⟩) hHeld ?rrpg11
      case yypg11 => (intro wq hSw; (try dsimp only at hSw); go_simp; first | done | with_reducible rfl)
      simp only [Act.put, List.setIfInBounds_toArray, List.set_cons_zero, List.set_cons_succ]
      refine wpAnyH_take (i := 11) (oi := ⟨some 30, _, _, _, _, _⟩) (v := ?vvpg12) rfl (by kernel_rfl) (by kernel_rfl) (by kernel_rfl) (fun _ _ _ h => h) (Or.inl ⟨by rfl, ?yypg12⟩) hHeld ?rrpg12
      case yypg12 => (intro wq hSw; (try dsimp only at hSw); go_simp; first | done | with_reducible rfl)
      simp only [Act.put, List.setIfInBounds_toArray, List.set_cons_zero, List.set_cons_succ]
      refine wpAnyH_ready (rs := [12, 13]) (by kernel_rfl) (by simp) ?_
      refine AllReadyH.cons (o := ⟨some 6, _, _, _, _, _⟩) rfl (fun K hK => ?_) (AllReadyH.cons (o := ⟨some 7, _, _, _, _, _⟩) rfl (fun K hK => ?_) AllReadyH.nil)
      · go_simp
        obtain ⟨n6, hn⟩ : ∃ u, u = X.alloc (.cells #[.string ⟨#[]⟩, .bool false] 159) := ⟨_, rfl⟩
        obtain ⟨g6, hg⟩ : ∃ g, g = X.heap.size := ⟨_, rfl⟩
        rw [← hn, ← hg]
        have bn : Below X.heap.size X n6 := by rw [hn]; exact below_box _ _
        have HB6 : Hid (Below W.heap.size W n6) := Lib.hid (below_then HBX.out bn)
        have E6 : Hid (n6.heap[g6]? = some (.cells #[.string ⟨#[]⟩, .bool false] 159)) := Lib.hid (by rw [hn, hg]; exact heap_new _ _)
        have L6 : Hid (W.heap.size ≤ g6) := Lib.hid (by rw [hg]; exact HBX.out.size)
        have LT6 : Hid (g6 + 1 = n6.heap.size) := Lib.hid (by rw [hn, size_alloc, hg])
        clear hn hg bn
        refine hK.out _ _ ?sspg13 (fun hHeld => ?_)
        case sspg13 => (exact HS.out _ HB6.out)
        clear hK K
        try simp only [Act.put, List.setIfInBounds_toArray, List.set_cons_zero, List.set_cons_succ]
        refine wpAnyH_ready (rs := [13]) (by kernel_rfl) (by simp) ?_
        refine AllReadyH.cons (o := ⟨some 7, _, _, _, _, _⟩) rfl (fun K hK => ?_) AllReadyH.nil
        go_simp
        obtain ⟨n7, hn⟩ : ∃ u, u = n6.alloc (.cells #[.int .u64 0, .string ⟨#[]⟩, .bool false] 64) := ⟨_, rfl⟩
        obtain ⟨g7, hg⟩ : ∃ g, g = n6.heap.size := ⟨_, rfl⟩
        rw [← hn, ← hg]
        have bn : Below n6.heap.size n6 n7 := by rw [hn]; exact below_box _ _
        have HB7 : Hid (Below W.heap.size W n7) := Lib.hid (below_then HB6.out bn)
        have E7 : Hid (n7.heap[g7]? = some (.cells #[.int .u64 0, .string ⟨#[]⟩, .bool false] 64)) := Lib.hid (by rw [hn, hg]; exact heap_new _ _)
        have L7 : Hid (W.heap.size ≤ g7) := Lib.hid (by rw [hg]; exact HB6.out.size)
        replace E6 : Hid (n7.heap[g6]? = some (.cells #[.string ⟨#[]⟩, .bool false] 159)) := Lib.hid ((bn.block _ (Array.getElem?_eq_some_iff.1 E6.out).1).trans E6.out)
        have NE : Hid (g6 ≠ g7) := Lib.hid (by have := (Array.getElem?_eq_some_iff.1 E6.out).1; have h9 := hg; intro e; rw [hn, size_alloc] at this; have q := (LT6).out; omega)
        have LT7 : Hid (g7 + 1 = n7.heap.size) := Lib.hid (by rw [hn, size_alloc, hg])
        clear hn hg bn
        refine hK.out _ _ ?sspg14 (fun hHeld => ?_)
        case sspg14 => (exact HS.out _ HB7.out)
        clear hK K
        try simp only [Act.put, List.setIfInBounds_toArray, List.set_cons_zero, List.set_cons_succ]
        refine wpAnyH_ready (rs := [14]) (by kernel_rfl) (by simp) ?_
        refine AllReadyH.cons (o := ⟨none, _, _, _, _, _⟩) rfl (fun K hK => ?_) AllReadyH.nil
        have z0 := cell_of_blk E6.out 0
        have z1 := cell_of_blk E6.out 1
        have y0 := frozen_of_blk E6.out 0
        have y1 := frozen_of_blk E6.out 1
        simp at z0 z1
        go_simp
        obtain ⟨u6, hU⟩ : ∃ u, u = ((n7.setCell ⟨g6, 0, none⟩ (.string t.val)).setCell ⟨g6, 1, none⟩ (.bool t.has)) := ⟨_, rfl⟩
        rw [← hU]
        have HC6 : Hid (Below W.heap.size W u6) := Lib.hid (by rw [hU]; exact ((HB7.out.setCell (p := ⟨g6, 0, none⟩) L6.out _).setCell (p := ⟨g6, 1, none⟩) L6.out _))
        replace E6 : Hid (u6.heap[g6]? = some (.cells #[.string t.val, .bool t.has] 159)) := Lib.hid (by rw [hU, blk_setCell (blk_setCell E6.out _) _]; rfl)
        replace E7 : Hid (u6.heap[g7]? = some (.cells #[.int .u64 0, .string ⟨#[]⟩, .bool false] 64)) := Lib.hid (by rw [hU, Below.heap_setCell _ _ _ _ (NE.out.symm), Below.heap_setCell _ _ _ _ (NE.out.symm)]; exact E7.out)
        clear hU z0 y0 z1 y1
        refine hK.out _ _ ?sspg15 (fun hHeld => ?_)
        case sspg15 => (exact HS.out _ HC6.out)
        clear hK K
        try simp only [Act.put, List.setIfInBounds_toArray, List.set_cons_zero, List.set_cons_succ]
        refine wpAnyH_ready (rs := [15]) (by kernel_rfl) (by simp) ?_
        refine AllReadyH.cons (o := ⟨none, _, _, _, _, _⟩) rfl (fun K hK => ?_) AllReadyH.nil
        have z0 := cell_of_blk E7.out 0
        have z1 := cell_of_blk E7.out 1
        have z2 := cell_of_blk E7.out 2
        have y0 := frozen_of_blk E7.out 0
        have y1 := frozen_of_blk E7.out 1
        have y2 := frozen_of_blk E7.out 2
        simp at z0 z1 z2
        go_simp
        obtain ⟨u7, hU⟩ : ∃ u, u = (((u6.setCell ⟨g7, 0, none⟩ (.int .u64 y.word)).setCell ⟨g7, 1, none⟩ (.string y.val)).setCell ⟨g7, 2, none⟩ (.bool y.has)) := ⟨_, rfl⟩
        rw [← hU]
        have HC7 : Hid (Below W.heap.size W u7) := Lib.hid (by rw [hU]; exact (((HC6.out.setCell (p := ⟨g7, 0, none⟩) L7.out _).setCell (p := ⟨g7, 1, none⟩) L7.out _).setCell (p := ⟨g7, 2, none⟩) L7.out _))
        replace E7 : Hid (u7.heap[g7]? = some (.cells #[.int .u64 y.word, .string y.val, .bool y.has] 64)) := Lib.hid (by rw [hU, blk_setCell (blk_setCell (blk_setCell E7.out _) _) _]; rfl)
        replace E6 : Hid (u7.heap[g6]? = some (.cells #[.string t.val, .bool t.has] 159)) := Lib.hid (by rw [hU, Below.heap_setCell _ _ _ _ (NE.out), Below.heap_setCell _ _ _ _ (NE.out), Below.heap_setCell _ _ _ _ (NE.out)]; exact E6.out)
        clear hU z0 y0 z1 y1 z2 y2
        refine hK.out _ _ ?sspg16 (fun hHeld => ?_)
        case sspg16 => (exact HS.out _ HC7.out)
        clear hK K
        try simp only [Act.put, List.setIfInBounds_toArray, List.set_cons_zero, List.set_cons_succ]
        refine wpAnyH_done (by kernel_rfl) ?_ _
        clear hHeld
        have x0 := cell_of_blk E6.out 0
        have x1 := cell_of_blk E6.out 1
        have y1 := cell_of_blk E7.out 1
        have y2 := cell_of_blk E7.out 2
        obtain ⟨_, _, k0, k1, k2, k3, _, _⟩ := HS.out _ HC7.out
        simp at x0 x1 y1 y2
        cases q
        · go_upto_region 7 with (refine wpList_agg_run (o := ⟨some 37, _, _, _, _, _⟩) rfl .neq 159 159 (.tmp 35) (.tmp 36) rfl _ _ rfl rfl (by kernel_rfl) (.bool true) (HE.out _) ?_)
          obtain ⟨Z, hZ⟩ : ∃ Z, u7.alloc (.cells #[.int .i64 x.kind, .int .i64 x.a, .int .i64 x.b, .string x.s, .string t.val, .bool t.has] 80) = Z := ⟨_, rfl⟩
          obtain ⟨zb, hzb⟩ : ∃ z, z = u7.heap.size := ⟨_, rfl⟩
          have bZ : Below u7.heap.size u7 Z := by rw [← hZ]; exact below_box _ _
          have eZ : Z.heap[zb]? = some (.cells #[.int .i64 x.kind, .int .i64 x.a, .int .i64 x.b, .string x.s, .string t.val, .bool t.has] 80) := by rw [← hZ, hzb]; exact heap_new _ _
          have HOZ := Lib.hid ((HOW.out.below HC7.out).below bZ)
          have HBZ := Lib.hid (HBW.out.trans ((below_then HC7.out bZ).mono HBW.out.size))
          have HVZ : Hid (kW.V Z (some ⟨zb, 0, none⟩) [⟨x, t.val, t.has⟩]) := Lib.hid (fun _ => ⟨_, 0, rfl, RowK.new_at (k := kW) eZ rfl⟩)
          have HZ := Lib.hid hZ
          have HZB := Lib.hid hzb
          clear bZ eZ hZ hzb
          go_wp2_with (at_builtin; rw [HZ.out, ← HZB.out]; refine RowK.wpList_app (k := kW) (B := w2.heap.size) (v := .slice oa on oc) (l := wrOut gs gw (ks.take k)) rfl (.tmp 38) (.tmp 45) rfl rfl (by rw [HON.out]; exact HOZ.out) (some ⟨zb, 0, none⟩) 1 [⟨x, t.val, t.has⟩] 1 rfl rfl HVZ.out (fun e => by cases e) (by have := HOL.out; simp; omega) HBZ.out.size ?_; rintro v9 w9 h9; have H9 := Lib.hid h9; clear h9)
          refine ⟨⟨k + 1, by omega, by go_num, Lib.hid ⟨HBZ.out.trans (below_grownW HOZ.out (by have := H9.out.2.1; rw [HON.out] at this; exact this) HBZ.out.size), ?_⟩⟩, by simp [intOf]; omega⟩
          rw [HTK.out, wrOut_snoc, HWA.out, if_neg (by decide)]
          exact H9.out.1
        · go_wp2_with (refine wpList_agg_run (o := ⟨some 37, _, _, _, _, _⟩) rfl .neq 159 159 (.tmp 35) (.tmp 36) rfl _ _ rfl rfl (by kernel_rfl) (.bool false) (HE.out _) ?_)
          refine ⟨⟨k + 1, by omega, by go_num, Lib.hid ⟨HBW.out.trans (HC7.out.mono HBW.out.size), ?_⟩⟩, by simp [intOf]; omega⟩
          rw [HTK.out, wrOut_snoc, HWA.out, if_pos rfl, List.append_nil, HON.out]
          exact HOW.out.below HC7.out
      · go_simp
        obtain ⟨n7, hn⟩ : ∃ u, u = X.alloc (.cells #[.int .u64 0, .string ⟨#[]⟩, .bool false] 64) := ⟨_, rfl⟩
        obtain ⟨g7, hg⟩ : ∃ g, g = X.heap.size := ⟨_, rfl⟩
        rw [← hn, ← hg]
        have bn : Below X.heap.size X n7 := by rw [hn]; exact below_box _ _
        have HB7 : Hid (Below W.heap.size W n7) := Lib.hid (below_then HBX.out bn)
        have E7 : Hid (n7.heap[g7]? = some (.cells #[.int .u64 0, .string ⟨#[]⟩, .bool false] 64)) := Lib.hid (by rw [hn, hg]; exact heap_new _ _)
        have L7 : Hid (W.heap.size ≤ g7) := Lib.hid (by rw [hg]; exact HBX.out.size)
        have LT7 : Hid (g7 + 1 = n7.heap.size) := Lib.hid (by rw [hn, size_alloc, hg])
        clear hn hg bn
        refine hK.out _ _ ?sspg17 (fun hHeld => ?_)
        case sspg17 => (exact HS.out _ HB7.out)
        clear hK K
        try simp only [Act.put, List.setIfInBounds_toArray, List.set_cons_zero, List.set_cons_succ]
        refine wpAnyH_ready (rs := [12]) (by kernel_rfl) (by simp) ?_
        refine AllReadyH.cons (o := ⟨some 6, _, _, _, _, _⟩) rfl (fun K hK => ?_) AllReadyH.nil
        go_simp
        obtain ⟨n6, hn⟩ : ∃ u, u = n7.alloc (.cells #[.string ⟨#[]⟩, .bool false] 159) := ⟨_, rfl⟩
        obtain ⟨g6, hg⟩ : ∃ g, g = n7.heap.size := ⟨_, rfl⟩
        rw [← hn, ← hg]
        have bn : Below n7.heap.size n7 n6 := by rw [hn]; exact below_box _ _
        have HB6 : Hid (Below W.heap.size W n6) := Lib.hid (below_then HB7.out bn)
        have E6 : Hid (n6.heap[g6]? = some (.cells #[.string ⟨#[]⟩, .bool false] 159)) := Lib.hid (by rw [hn, hg]; exact heap_new _ _)
        have L6 : Hid (W.heap.size ≤ g6) := Lib.hid (by rw [hg]; exact HB7.out.size)
        replace E7 : Hid (n6.heap[g7]? = some (.cells #[.int .u64 0, .string ⟨#[]⟩, .bool false] 64)) := Lib.hid ((bn.block _ (Array.getElem?_eq_some_iff.1 E7.out).1).trans E7.out)
        have NE : Hid (g6 ≠ g7) := Lib.hid (by have := (Array.getElem?_eq_some_iff.1 E7.out).1; have h9 := hg; intro e; rw [hn, size_alloc] at this; have q := (LT7).out; omega)
        have LT6 : Hid (g6 + 1 = n6.heap.size) := Lib.hid (by rw [hn, size_alloc, hg])
        clear hn hg bn
        refine hK.out _ _ ?sspg18 (fun hHeld => ?_)
        case sspg18 => (exact HS.out _ HB6.out)
        clear hK K
        try simp only [Act.put, List.setIfInBounds_toArray, List.set_cons_zero, List.set_cons_succ]
        refine wpAnyH_ready (rs := [14]) (by kernel_rfl) (by simp) ?_
        refine AllReadyH.cons (o := ⟨none, _, _, _, _, _⟩) rfl (fun K hK => ?_) AllReadyH.nil
        have z0 := cell_of_blk E6.out 0
        have z1 := cell_of_blk E6.out 1
        have y0 := frozen_of_blk E6.out 0
        have y1 := frozen_of_blk E6.out 1
        simp at z0 z1
        go_simp
        obtain ⟨u6, hU⟩ : ∃ u, u = ((n6.setCell ⟨g6, 0, none⟩ (.string t.val)).setCell ⟨g6, 1, none⟩ (.bool t.has)) := ⟨_, rfl⟩
        rw [← hU]
        have HC6 : Hid (Below W.heap.size W u6) := Lib.hid (by rw [hU]; exact ((HB6.out.setCell (p := ⟨g6, 0, none⟩) L6.out _).setCell (p := ⟨g6, 1, none⟩) L6.out _))
        replace E6 : Hid (u6.heap[g6]? = some (.cells #[.string t.val, .bool t.has] 159)) := Lib.hid (by rw [hU, blk_setCell (blk_setCell E6.out _) _]; rfl)
        replace E7 : Hid (u6.heap[g7]? = some (.cells #[.int .u64 0, .string ⟨#[]⟩, .bool false] 64)) := Lib.hid (by rw [hU, Below.heap_setCell _ _ _ _ (NE.out.symm), Below.heap_setCell _ _ _ _ (NE.out.symm)]; exact E7.out)
        clear hU z0 y0 z1 y1
        refine hK.out _ _ ?sspg19 (fun hHeld => ?_)
        case sspg19 => (exact HS.out _ HC6.out)
        clear hK K
        try simp only [Act.put, List.setIfInBounds_toArray, List.set_cons_zero, List.set_cons_succ]
        refine wpAnyH_ready (rs := [15]) (by kernel_rfl) (by simp) ?_
        refine AllReadyH.cons (o := ⟨none, _, _, _, _, _⟩) rfl (fun K hK => ?_) AllReadyH.nil
        have z0 := cell_of_blk E7.out 0
        have z1 := cell_of_blk E7.out 1
        have z2 := cell_of_blk E7.out 2
        have y0 := frozen_of_blk E7.out 0
        have y1 := frozen_of_blk E7.out 1
        have y2 := frozen_of_blk E7.out 2
        simp at z0 z1 z2
        go_simp
        obtain ⟨u7, hU⟩ : ∃ u, u = (((u6.setCell ⟨g7, 0, none⟩ (.int .u64 y.word)).setCell ⟨g7, 1, none⟩ (.string y.val)).setCell ⟨g7, 2, none⟩ (.bool y.has)) := ⟨_, rfl⟩
        rw [← hU]
        have HC7 : Hid (Below W.heap.size W u7) := Lib.hid (by rw [hU]; exact (((HC6.out.setCell (p := ⟨g7, 0, none⟩) L7.out _).setCell (p := ⟨g7, 1, none⟩) L7.out _).setCell (p := ⟨g7, 2, none⟩) L7.out _))
        replace E7 : Hid (u7.heap[g7]? = some (.cells #[.int .u64 y.word, .string y.val, .bool y.has] 64)) := Lib.hid (by rw [hU, blk_setCell (blk_setCell (blk_setCell E7.out _) _) _]; rfl)
        replace E6 : Hid (u7.heap[g6]? = some (.cells #[.string t.val, .bool t.has] 159)) := Lib.hid (by rw [hU, Below.heap_setCell _ _ _ _ (NE.out), Below.heap_setCell _ _ _ _ (NE.out), Below.heap_setCell _ _ _ _ (NE.out)]; exact E6.out)
        clear hU z0 y0 z1 y1 z2 y2
        refine hK.out _ _ ?sspg20 (fun hHeld => ?_)
        case sspg20 => (exact HS.out _ HC7.out)
        clear hK K
        try simp only [Act.put, List.setIfInBounds_toArray, List.set_cons_zero, List.set_cons_succ]
        refine wpAnyH_done (by kernel_rfl) ?_ _
        clear hHeld
        have x0 := cell_of_blk E6.out 0
        have x1 := cell_of_blk E6.out 1
        have y1 := cell_of_blk E7.out 1
        have y2 := cell_of_blk E7.out 2
        obtain ⟨_, _, k0, k1, k2, k3, _, _⟩ := HS.out _ HC7.out
        simp at x0 x1 y1 y2
        cases q
        · go_upto_region 7 with (refine wpList_agg_run (o := ⟨some 37, _, _, _, _, _⟩) rfl .neq 159 159 (.tmp 35) (.tmp 36) rfl _ _ rfl rfl (by kernel_rfl) (.bool true) (HE.out _) ?_)
          obtain ⟨Z, hZ⟩ : ∃ Z, u7.alloc (.cells #[.int .i64 x.kind, .int .i64 x.a, .int .i64 x.b, .string x.s, .string t.val, .bool t.has] 80) = Z := ⟨_, rfl⟩
          obtain ⟨zb, hzb⟩ : ∃ z, z = u7.heap.size := ⟨_, rfl⟩
          have bZ : Below u7.heap.size u7 Z := by rw [← hZ]; exact below_box _ _
          have eZ : Z.heap[zb]? = some (.cells #[.int .i64 x.kind, .int .i64 x.a, .int .i64 x.b, .string x.s, .string t.val, .bool t.has] 80) := by rw [← hZ, hzb]; exact heap_new _ _
          have HOZ := Lib.hid ((HOW.out.below HC7.out).below bZ)
          have HBZ := Lib.hid (HBW.out.trans ((below_then HC7.out bZ).mono HBW.out.size))
          have HVZ : Hid (kW.V Z (some ⟨zb, 0, none⟩) [⟨x, t.val, t.has⟩]) := Lib.hid (fun _ => ⟨_, 0, rfl, RowK.new_at (k := kW) eZ rfl⟩)
          have HZ := Lib.hid hZ
          have HZB := Lib.hid hzb
          clear bZ eZ hZ hzb
          go_wp2_with (at_builtin; rw [HZ.out, ← HZB.out]; refine RowK.wpList_app (k := kW) (B := w2.heap.size) (v := .slice oa on oc) (l := wrOut gs gw (ks.take k)) rfl (.tmp 38) (.tmp 45) rfl rfl (by rw [HON.out]; exact HOZ.out) (some ⟨zb, 0, none⟩) 1 [⟨x, t.val, t.has⟩] 1 rfl rfl HVZ.out (fun e => by cases e) (by have := HOL.out; simp; omega) HBZ.out.size ?_; rintro v9 w9 h9; have H9 := Lib.hid h9; clear h9)
          refine ⟨⟨k + 1, by omega, by go_num, Lib.hid ⟨HBZ.out.trans (below_grownW HOZ.out (by have := H9.out.2.1; rw [HON.out] at this; exact this) HBZ.out.size), ?_⟩⟩, by simp [intOf]; omega⟩
          rw [HTK.out, wrOut_snoc, HWA.out, if_neg (by decide)]
          exact H9.out.1
        · go_wp2_with (refine wpList_agg_run (o := ⟨some 37, _, _, _, _, _⟩) rfl .neq 159 159 (.tmp 35) (.tmp 36) rfl _ _ rfl rfl (by kernel_rfl) (.bool false) (HE.out _) ?_)
          refine ⟨⟨k + 1, by omega, by go_num, Lib.hid ⟨HBW.out.trans (HC7.out.mono HBW.out.size), ?_⟩⟩, by simp [intOf]; omega⟩
          rw [HTK.out, wrOut_snoc, HWA.out, if_pos rfl, List.append_nil, HON.out]
          exact HOW.out.below HC7.out
    · obtain rfl : k = n := by omega
      go_wp2_with fail
      go_ret
      refine ⟨_, ks, rfl, HG.out, ?_, HB2.out.trans (HI.out.b.mono HB2.out.size)⟩
      have := HI.out.o
      rw [HN.out, List.take_length] at this
      exact this.mono HB2.out.size
end Go.Proofs.Ytcghgnncmnoalaa
