/- web.text, VertexText, EdgeText. Conditions: each contract's own premises. -/
import Derived.Test.YtcafedfldmcbiaaWb12
namespace Go.Proofs.Ytcafedfldmcbiaa
open Go.RowKit Go.Maps

/-- the text of a label and properties -/
def textL (label : ByteArray) (ps : List Pr) : List UInt8 := UInt8.ofNat label.size :: (label.data.toList ++ Pr.all ps)
theorem all_len {ps : List Pr} (hr : rightPs ps = true) (hk : ∀ p ∈ ps, p.key.size ≤ 200) : (Pr.all ps).length ≤ 40000 := by
  have h1 := psB_len ps (fun p hp => ⟨by have := hk p hp; omega, (right_mem hr hp).1⟩)
  have h2 := (rightPs_yes hr).2
  unfold Pr.all
  simp
  omega
theorem all_ne (ps : List Pr) : Pr.all ps ≠ [] := by unfold Pr.all; simp
set_option maxHeartbeats 1000000 in
theorem text_any (label : ByteArray) (pa : Option Addr) (pc : Nat) (ps : List Pr) (w : World) (hl : label.size ≤ 200) (hp : PsV w pa ps) (hr : rightPs ps = true) (hk : ∀ p ∈ ps, p.key.size ≤ 200) :
    Calls Try.prog 37 #[.string label, .slice pa ps.length pc] w fun e w' => e = .returned (.string ⟨(textL label ps).toArray⟩) ∧ Below w.heap.size w w' := by
  have hal := all_len hr hk
  have h1 : ∀ w, (Op.stringOp .add ⟨#[UInt8.ofNat label.size]⟩ label).run Try.prog w = .ok (.string ⟨(UInt8.ofNat label.size :: label.data.toList).toArray⟩) w := fun w => run_string_add_lists w [UInt8.ofNat label.size] label.data.toList (by simp) (by simp; omega)
  have h2 : ∀ w, (Op.stringOp .add ⟨(UInt8.ofNat label.size :: label.data.toList).toArray⟩ ⟨(Pr.all ps).toArray⟩).run Try.prog w = .ok (.string ⟨(textL label ps).toArray⟩) w := fun w => run_string_add_lists w (UInt8.ofNat label.size :: label.data.toList) (Pr.all ps) (by simp; omega) (by omega)
  have HP := Lib.hid hp
  have HR := Lib.hid hr
  have HK := Lib.hid hk
  clear hp hr hk hal
  go_enter Try.func37, Try.ntmps37
  go_wp2_with fail
  refine (pbytes_any pa pc ps _ HP.out HR.out HK.out).mono ?_
  rintro e w1 ⟨r, rfl, o1, hb1⟩
  obtain ⟨g, c, rfl, _, at1⟩ := o1.at' (all_ne ps)
  have AT := Lib.hid (at1.of_block (Below.heap_alloc w1 (.cells #[.int .u8 (label.size : Int)] 5) g at1.lt))
  have NEW : Hid (∀ j (hj : j < [UInt8.ofNat label.size].length), (w1.alloc (.cells #[.int .u8 (label.size : Int)] 5)).cell? ((⟨w1.heap.size, 0, none⟩ : Addr).add j) = some (.int .u8 (([UInt8.ofNat label.size][j]).toNat : Int))) := Lib.hid (new_one (by unfold bv; congr 1; simp; omega))
  clear at1 o1
  go_wp2_with (first | (refine wpList_toStr _ rfl (.tmp 15) rfl ⟨w1.heap.size, 0, none⟩ 1 1 [UInt8.ofNat label.size] rfl rfl NEW.out ?_) | (refine wpList_toStr _ rfl (.tmp 19) rfl ⟨g, 0, none⟩ _ _ (Pr.all ps) rfl rfl AT.out.conv ?_))
  go_ret
  exact ⟨rfl, below_al hb1 _⟩
/-- ids laid in a new block -/
theorem ids_new {w : World} {B : Nat} {l : List Int} (hb : w.heap[B]? = some (.cells (l.map (Value.int .i64)).toArray 3 (0, 0))) (hi : ∀ x ∈ l, I64 x) : IsV w (some ⟨B, 0, none⟩) l :=
  fun _ => ⟨B, 0, rfl, ⟨hi, fun i x hx => by
    rw [cell_of_blk hb]
    simp [hx], (Array.getElem?_eq_some_iff.1 hb).1⟩⟩
noncomputable def vtext (label : ByteArray) (ps : List Pr) (ids : List Int) (pre : List UInt8) : ByteArray := if checkR label ps ids = 0 then ⟨(pre ++ textL label ps).toArray⟩ else ⟨#[]⟩
theorem checkR_ok {label : ByteArray} {ps : List Pr} {ids : List Int} (h : checkR label ps ids = 0) : ids.any idB = false ∧ badS label = false ∧ rightPs ps = true := by
  unfold checkR at h
  split at h
  · cases h
  · next h1 =>
    split at h
    · cases h
    · next h2 =>
      split at h
      · next h3 => exact ⟨by simpa using h1, by simpa using h2, h3⟩
      · cases h
set_option maxHeartbeats 1000000 in
theorem vertexText_any (id : Int) (label : ByteArray) (pa : Option Addr) (pc : Nat) (ps : List Pr) (w : World) (hi : I64 id) (hl : label.size ≤ 200) (hp : PsV w pa ps) (hn : ps.length ≤ 100000) (hk : ∀ p ∈ ps, p.key.size ≤ 200) :
    Calls Try.prog 9 #[.agg #[.int .i64 id, .string label, .slice pa ps.length pc]] w fun e w' => e = .returned (.tuple #[.string (vtext label ps [id] []), .int .i64 (checkR label ps [id])]) ∧ Below w.heap.size w w' := by
  have HP := Lib.hid hp
  have HK := Lib.hid hk
  have HI := Lib.hid hi
  clear hp hk hi
  go_enter Try.func9, Try.ntmps9
  go_wp2_with fail
  obtain ⟨W1, hW1⟩ : ∃ W1, W1 = w.alloc (.cells #[.int .i64 id, .string label, .slice pa ps.length pc] 24) := ⟨_, rfl⟩
  have z1 : W1.heap.size = w.heap.size + 1 := by rw [hW1, size_alloc]
  have e1 : W1.heap[w.heap.size]? = some (.cells #[.int .i64 id, .string label, .slice pa ps.length pc] 24) := by rw [hW1]; exact heap_new w _
  have hB1 : Below w.heap.size w W1 := by rw [hW1]; exact below_box w _
  rw [← hW1]
  rw [← z1]
  clear hW1
  have IV : IsV (W1.alloc (.cells #[.int .i64 id] 3)) (some ⟨W1.heap.size, 0, none⟩) [id] := ids_new (heap_new W1 _) (fun x hx => by rw [List.mem_singleton.1 hx]; exact HI.out)
  refine (check_any label pa _ pc 1 ps [id] _ (by unfold maxLen; omega) (HP.out.below (below_al hB1 _)) IV hn (by simp)).mono ?_
  rintro e w2 ⟨rfl, hb2⟩
  have hB2 := below_then (below_al (Below.refl W1.heap.size W1) _) hb2
  have e2 := (hB2.block w.heap.size (by omega)).trans e1
  have c1 := cell_of_blk e2 1
  have c2 := cell_of_blk e2 2
  simp at c1 c2
  have hlw := (Array.getElem?_eq_some_iff.1 e2).1
  have HB := Lib.hid (below_then hB1 hB2)
  clear e1 e2 hb2 IV hB2 hB1
  by_cases hc : checkR label ps [id] = 0
  · have HR := Lib.hid (checkR_ok hc).2.2
    have HT : Hid (vtext label ps [id] [] = ⟨(textL label ps).toArray⟩) := Lib.hid (by unfold vtext; rw [if_pos hc]; rfl)
    rw [hc]
    have HC := Lib.hid hc
    clear hc
    go_wp2_with fail
    refine (text_any label pa pc ps _ hl (HP.out.below HB.out) HR.out HK.out).mono ?_
    rintro e w3 ⟨rfl, hb3⟩
    go_wp2_with fail
    go_ret2
    exact ⟨by rw [HT.out, HC.out]; rfl, below_then HB.out hb3⟩
  · have HT : Hid (vtext label ps [id] [] = ⟨#[]⟩) := Lib.hid (by unfold vtext; rw [if_neg hc])
    obtain ⟨k, hk⟩ : ∃ k, checkR label ps [id] = k := ⟨_, rfl⟩
    rw [hk] at hc ⊢
    have HC := Lib.hid hk
    clear hk
    have hc' : (k == 0) = false := by simpa using hc
    clear hc
    go_wp2_with fail
    go_ret2
    exact ⟨by rw [HT.out, HC.out]; rfl, HB.out⟩
theorem idB_ok {n : Int} (h : idB n = false) : ∃ m : Nat, n = m ∧ m < 1099511627776 := by
  have := of_decide_eq_false h
  exact ⟨n.toNat, by omega, by omega⟩
theorem textL_len {label : ByteArray} {ps : List Pr} (hl : label.size ≤ 200) (hr : rightPs ps = true) (hk : ∀ p ∈ ps, p.key.size ≤ 200) : (textL label ps).length ≤ 41000 := by
  have := all_len hr hk
  unfold textL
  simp
  omega
set_option maxRecDepth 100000 in
set_option maxHeartbeats 1000000 in
theorem edgeText_any (id fi ti : Int) (label : ByteArray) (pa : Option Addr) (pc : Nat) (ps : List Pr) (w : World) (hi : I64 id) (hf : I64 fi) (ht : I64 ti) (hl : label.size ≤ 200) (hp : PsV w pa ps) (hn : ps.length ≤ 100000) (hk : ∀ p ∈ ps, p.key.size ≤ 200) :
    Calls Try.prog 11 #[.agg #[.int .i64 id, .string label, .int .i64 fi, .int .i64 ti, .slice pa ps.length pc]] w fun e w' => e = .returned (.tuple #[.string (vtext label ps [id, fi, ti] (fiveL fi.toNat ++ fiveL ti.toNat)), .int .i64 (checkR label ps [id, fi, ti])]) ∧ Below w.heap.size w w' := by
  have HP0 := Lib.hid hp
  have HK := Lib.hid hk
  have HL := Lib.hid hl
  have HI : Hid (∀ x ∈ [id, fi, ti], I64 x) := Lib.hid (by simp; exact ⟨hi, hf, ht⟩)
  clear hp hk hi hf ht
  go_enter Try.func11, Try.ntmps11
  go_wp2_with fail
  obtain ⟨W1, hW1⟩ : ∃ W1, W1 = w.alloc (.cells #[.int .i64 id, .string label, .int .i64 fi, .int .i64 ti, .slice pa ps.length pc] 35) := ⟨_, rfl⟩
  have z1 : W1.heap.size = w.heap.size + 1 := by rw [hW1, size_alloc]
  have e1 : W1.heap[w.heap.size]? = some (.cells #[.int .i64 id, .string label, .int .i64 fi, .int .i64 ti, .slice pa ps.length pc] 35) := by rw [hW1]; exact heap_new w _
  have hB1 : Below w.heap.size w W1 := by rw [hW1]; exact below_box w _
  rw [← hW1]
  rw [← z1]
  clear hW1
  have IV : IsV (W1.alloc (.cells #[.int .i64 id, .int .i64 fi, .int .i64 ti] 3)) (some ⟨W1.heap.size, 0, none⟩) [id, fi, ti] := ids_new (heap_new W1 _) HI.out
  refine (check_any label pa _ pc 3 ps [id, fi, ti] _ (by unfold maxLen; omega) (HP0.out.below (below_al hB1 _)) IV hn (by simp)).mono ?_
  rintro e W ⟨rfl, hb2⟩
  have hB2 := below_then (below_al (Below.refl W1.heap.size W1) _) hb2
  have e2 := (hB2.block w.heap.size (by omega)).trans e1
  have HB := Lib.hid (below_then hB1 hB2)
  clear e1 hb2 IV hB2 hB1
  by_cases hc : checkR label ps [id, fi, ti] = 0
  · have hck := checkR_ok hc
    have HR := Lib.hid hck.2.2
    obtain ⟨f, rfl, hf⟩ : ∃ m : Nat, fi = m ∧ m < 1099511627776 := idB_ok (by have := hck.1; simp at this; exact this.2.1)
    obtain ⟨t, rfl, ht⟩ : ∃ m : Nat, ti = m ∧ m < 1099511627776 := idB_ok (by have := hck.1; simp at this; exact this.2.2)
    have HF := Lib.hid hf
    have HT := Lib.hid ht
    have HV : Hid (vtext label ps [id, (f : Int), (t : Int)] (fiveL (f : Int).toNat ++ fiveL (t : Int).toNat) = ⟨(fiveL f ++ fiveL t ++ textL label ps).toArray⟩) := Lib.hid (by unfold vtext; rw [if_pos hc]; rfl)
    have ks : ∀ w', Below W.heap.size W w' → (fun w' => Below W.heap.size W w' ∧ w'.cell? ⟨w.heap.size, 1, none⟩ = some (.string label) ∧ w'.cell? ⟨w.heap.size, 2, none⟩ = some (.int .i64 (f : Int)) ∧ w'.cell? ⟨w.heap.size, 3, none⟩ = some (.int .i64 (t : Int)) ∧ w'.cell? ⟨w.heap.size, 4, none⟩ = some (.slice pa ps.length pc)) w' := fun w' hb => by
      have e := (hb.block _ (Array.getElem?_eq_some_iff.1 e2).1).trans e2
      exact ⟨hb, by rw [cell_of_blk e]; rfl, by rw [cell_of_blk e]; rfl, by rw [cell_of_blk e]; rfl, by rw [cell_of_blk e]; rfl⟩
    have KS := Lib.hid ks
    have HP := Lib.hid (HP0.out.below HB.out)
    have htl := textL_len hl HR.out HK.out
    have h1 : ∀ w, (Op.stringOp .add ⟨(fiveL f).toArray⟩ ⟨(fiveL t).toArray⟩).run Try.prog w = .ok (.string ⟨(fiveL f ++ fiveL t).toArray⟩) w := fun w => run_string_add_lists w (fiveL f) (fiveL t) (by simp [fiveL]) (by simp [fiveL])
    have h2 : ∀ w, (Op.stringOp .add ⟨(fiveL f ++ fiveL t).toArray⟩ ⟨(textL label ps).toArray⟩).run Try.prog w = .ok (.string ⟨(fiveL f ++ fiveL t ++ textL label ps).toArray⟩) w := fun w => run_string_add_lists w (fiveL f ++ fiveL t) (textL label ps) (by simp [fiveL]) (by omega)
    rw [hc]
    have HC := Lib.hid hc
    clear hc hck hf ht ks e2 htl
    go_wp2_with fail
    refine wp_region_held_drew (S := (fun w' => Below W.heap.size W w' ∧ w'.cell? ⟨w.heap.size, 1, none⟩ = some (.string label) ∧ w'.cell? ⟨w.heap.size, 2, none⟩ = some (.int .i64 (f : Int)) ∧ w'.cell? ⟨w.heap.size, 3, none⟩ = some (.int .i64 (t : Int)) ∧ w'.cell? ⟨w.heap.size, 4, none⟩ = some (.slice pa ps.length pc))) (by kernel_rfl) (KS.out _ (Below.refl _ _).drew) (fun hHeld => ?_)
    refine wpAnyH_take (i := 0) (oi := ⟨some 20, _, _, _, _, _⟩) (v := ?vvq1) rfl (by kernel_rfl) (by kernel_rfl) (by kernel_rfl) (fun _ _ _ h => h) (Or.inl ⟨by rfl, ?yyq1⟩) hHeld ?rrq1
    case yyq1 => (intro wq hSw; (try dsimp only at hSw); go_simp; first | done | with_reducible rfl)
    simp only [Act.put, List.setIfInBounds_toArray, List.set_cons_zero, List.set_cons_succ]
    refine wpAnyH_take (i := 1) (oi := ⟨some 21, _, _, _, _, _⟩) (v := ?vvq2) rfl (by kernel_rfl) (by kernel_rfl) (by kernel_rfl) (fun _ _ _ h => h) (Or.inl ⟨by rfl, ?yyq2⟩) hHeld ?rrq2
    case yyq2 => (intro wq hSw; (try dsimp only at hSw); go_simp; first | done | with_reducible rfl)
    simp only [Act.put, List.setIfInBounds_toArray, List.set_cons_zero, List.set_cons_succ]
    refine wpAnyH_take (i := 3) (oi := ⟨some 23, _, _, _, _, _⟩) (v := ?vvq3) rfl (by kernel_rfl) (by kernel_rfl) (by kernel_rfl) (fun _ _ _ h => h) (Or.inl ⟨by rfl, ?yyq3⟩) hHeld ?rrq3
    case yyq3 => (intro wq hSw; (try dsimp only at hSw); go_simp; first | done | with_reducible rfl)
    simp only [Act.put, List.setIfInBounds_toArray, List.set_cons_zero, List.set_cons_succ]
    refine wpAnyH_take (i := 4) (oi := ⟨some 24, _, _, _, _, _⟩) (v := ?vvq4) rfl (by kernel_rfl) (by kernel_rfl) (by kernel_rfl) (fun _ _ _ h => h) (Or.inl ⟨by rfl, ?yyq4⟩) hHeld ?rrq4
    case yyq4 => (intro wq hSw; (try dsimp only at hSw); go_simp; first | done | with_reducible rfl)
    simp only [Act.put, List.setIfInBounds_toArray, List.set_cons_zero, List.set_cons_succ]
    refine wpAnyH_take (i := 7) (oi := ⟨some 27, _, _, _, _, _⟩) (v := ?vvq5) rfl (by kernel_rfl) (by kernel_rfl) (by kernel_rfl) (fun _ _ _ h => h) (Or.inl ⟨by rfl, ?yyq5⟩) hHeld ?rrq5
    case yyq5 => (intro wq hSw; (try dsimp only at hSw); go_simp; first | done | with_reducible rfl)
    simp only [Act.put, List.setIfInBounds_toArray, List.set_cons_zero, List.set_cons_succ]
    refine wpAnyH_take (i := 8) (oi := ⟨some 28, _, _, _, _, _⟩) (v := ?vvq6) rfl (by kernel_rfl) (by kernel_rfl) (by kernel_rfl) (fun _ _ _ h => h) (Or.inl ⟨by rfl, ?yyq6⟩) hHeld ?rrq6
    case yyq6 => (intro wq hSw; (try dsimp only at hSw); go_simp; first | done | with_reducible rfl)
    simp only [Act.put, List.setIfInBounds_toArray, List.set_cons_zero, List.set_cons_succ]
    refine wpAnyH_take (i := 9) (oi := ⟨some 29, _, _, _, _, _⟩) (v := ?vvq7) rfl (by kernel_rfl) (by kernel_rfl) (by kernel_rfl) (fun _ _ _ h => h) (Or.inl ⟨by rfl, ?yyq7⟩) hHeld ?rrq7
    case yyq7 => (intro wq hSw; (try dsimp only at hSw); go_simp; first | done | with_reducible rfl)
    simp only [Act.put, List.setIfInBounds_toArray, List.set_cons_zero, List.set_cons_succ]
    refine wpAnyH_take (i := 10) (oi := ⟨some 30, _, _, _, _, _⟩) (v := ?vvq8) rfl (by kernel_rfl) (by kernel_rfl) (by kernel_rfl) (fun _ _ _ h => h) (Or.inl ⟨by rfl, ?yyq8⟩) hHeld ?rrq8
    case yyq8 => (intro wq hSw; (try dsimp only at hSw); go_simp; first | done | with_reducible rfl)
    simp only [Act.put, List.setIfInBounds_toArray, List.set_cons_zero, List.set_cons_succ]
    refine wpAnyH_ready (rs := [2]) (by kernel_rfl) (by simp) ?_
    refine AllReadyH.cons (o := ⟨some 22, _, _, _, _, _⟩) rfl (fun K hK => ?_) AllReadyH.nil
    go_simp
    refine (five_any f _ HF.out).mono ?_
    rintro e wa ⟨rfl, hba⟩
    go_wp2_with fail
    refine hK.out _ _ ?ssq9 (fun hHeld => ?_)
    case ssq9 => (exact KS.out _ (below_then hHeld.1 hba))
    clear hK K
    try simp only [Act.put, List.setIfInBounds_toArray, List.set_cons_zero, List.set_cons_succ]
    refine wpAnyH_ready (rs := [5]) (by kernel_rfl) (by simp) ?_
    refine AllReadyH.cons (o := ⟨some 25, _, _, _, _, _⟩) rfl (fun K hK => ?_) AllReadyH.nil
    go_simp
    refine (five_any t _ HT.out).mono ?_
    rintro e wb ⟨rfl, hbb⟩
    go_wp2_with fail
    refine hK.out _ _ ?ssq10 (fun hHeld => ?_)
    case ssq10 => (exact KS.out _ (below_then hHeld.1 hbb))
    clear hK K
    try simp only [Act.put, List.setIfInBounds_toArray, List.set_cons_zero, List.set_cons_succ]
    refine wpAnyH_take (i := 6) (oi := ⟨some 26, _, _, _, _, _⟩) (v := ?vvq11) rfl (by kernel_rfl) (by kernel_rfl) (by kernel_rfl) (fun _ _ _ h => h) (Or.inl ⟨by rfl, ?yyq11⟩) hHeld ?rrq11
    case yyq11 => (intro wq hSw; (try dsimp only at hSw); go_simp; first | done | with_reducible rfl)
    simp only [Act.put, List.setIfInBounds_toArray, List.set_cons_zero, List.set_cons_succ]
    refine wpAnyH_ready (rs := [11]) (by kernel_rfl) (by simp) ?_
    refine AllReadyH.cons (o := ⟨some 31, _, _, _, _, _⟩) rfl (fun K hK => ?_) AllReadyH.nil
    go_simp
    refine (text_any label pa pc ps _ HL.out (HP.out.below hHeld.1) HR.out HK.out).mono ?_
    rintro e wc ⟨rfl, hbc⟩
    go_wp2_with fail
    refine hK.out _ _ ?ssq12 (fun hHeld => ?_)
    case ssq12 => (exact KS.out _ (below_then hHeld.1 hbc))
    clear hK K
    try simp only [Act.put, List.setIfInBounds_toArray, List.set_cons_zero, List.set_cons_succ]
    refine wpAnyH_take (i := 12) (oi := ⟨some 32, _, _, _, _, _⟩) (v := ?vvq13) rfl (by kernel_rfl) (by kernel_rfl) (by kernel_rfl) (fun _ _ _ h => h) (Or.inl ⟨by rfl, ?yyq13⟩) hHeld ?rrq13
    case yyq13 => (intro wq hSw; (try dsimp only at hSw); go_simp; first | done | with_reducible rfl)
    simp only [Act.put, List.setIfInBounds_toArray, List.set_cons_zero, List.set_cons_succ]
    refine wpAnyH_take (i := 13) (oi := ⟨some 2, _, _, _, _, _⟩) (v := ?vvq14) rfl (by kernel_rfl) (by kernel_rfl) (by kernel_rfl) (fun _ _ _ h => h) (Or.inl ⟨by rfl, ?yyq14⟩) hHeld ?rrq14
    case yyq14 => (intro wq hSw; (try dsimp only at hSw); go_simp; first | done | with_reducible rfl)
    simp only [Act.put, List.setIfInBounds_toArray, List.set_cons_zero, List.set_cons_succ]
    refine wpAnyH_take (i := 14) (oi := ⟨some 3, _, _, _, _, _⟩) (v := ?vvq15) rfl (by kernel_rfl) (by kernel_rfl) (by kernel_rfl) (fun _ _ _ h => h) (Or.inl ⟨by rfl, ?yyq15⟩) hHeld ?rrq15
    case yyq15 => (intro wq hSw; (try dsimp only at hSw); go_simp; first | done | with_reducible rfl)
    simp only [Act.put, List.setIfInBounds_toArray, List.set_cons_zero, List.set_cons_succ]
    refine wpAnyH_done (by kernel_rfl) ?_ _
    go_wp2_with fail
    go_ret2
    exact ⟨by rw [HV.out, HC.out]; rfl, below_then HB.out hHeld.1⟩
  · have HT : Hid (vtext label ps [id, fi, ti] (fiveL fi.toNat ++ fiveL ti.toNat) = ⟨#[]⟩) := Lib.hid (by unfold vtext; rw [if_neg hc])
    obtain ⟨k, hk⟩ : ∃ k, checkR label ps [id, fi, ti] = k := ⟨_, rfl⟩
    rw [hk] at hc ⊢
    have HC := Lib.hid hk
    clear hk
    have hc' : (k == 0) = false := by simpa using hc
    clear hc
    go_wp2_with fail
    go_ret2
    exact ⟨by rw [HT.out, HC.out]; rfl, HB.out⟩
end Go.Proofs.Ytcafedfldmcbiaa
