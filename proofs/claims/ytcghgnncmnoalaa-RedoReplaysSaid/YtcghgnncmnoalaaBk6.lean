/- block.Take. Conditions: each contract's own premises. -/
import Derived.Test.YtcghgnncmnoalaaBkA
import Derived.Deep.DeepCutAuto
import Derived.Deep.CutBlock
namespace Go.Proofs.Ytcghgnncmnoalaa
open Go.RowKit Go.Maps

theorem heap_setCell_same' (w : World) (b i : Nat) (c : Array Value) (t : TypeId) (x : Value) (h : w.heap[b]? = some (.cells c t)) : (w.setCell ⟨b, i, none⟩ x).heap[b]? = some (.cells (c.setIfInBounds i x) t) := blk_setCell h x
theorem set2 {w wr : World} {a0 a1 : Value} {t : TypeId} (e : wr.heap[w.heap.size]? = some (.cells #[a0, a1] t)) (x y : Value) (w3 : World)
    (h : w3 = (wr.setCell ⟨w.heap.size, 0, none⟩ x).setCell ⟨w.heap.size, 1, none⟩ y) :
    Below w.heap.size wr w3 ∧ (∀ k, k ≠ w.heap.size → w3.heap[k]? = wr.heap[k]?) ∧ w3.cell? ⟨w.heap.size, 0, none⟩ = some x ∧ w3.cell? ⟨w.heap.size, 1, none⟩ = some y := by
  have h1 := heap_setCell_same' wr w.heap.size 0 _ t x e
  have h2 := heap_setCell_same' _ w.heap.size 1 _ t y h1
  rw [← h] at h2
  refine ⟨?_, ?_, ?_, ?_⟩
  · rw [h]
    exact ((Below.refl _ _).setCell (p := ⟨w.heap.size, 0, none⟩) (Nat.le_refl _) x).setCell (p := ⟨w.heap.size, 1, none⟩) (Nat.le_refl _) y
  · intro k hk
    rw [h, Below.heap_setCell _ _ _ _ (fun e => hk e), Below.heap_setCell _ _ _ _ (fun e => hk e)]
  · rw [cell_of_blk h2]; simp
  · rw [cell_of_blk h2]; simp
/-- a struct of two cells, a number and an error are handed back: their laying -/
theorem tkb_ret {w wr : World} {t : TypeId} {a0 a1 : Value} (e : wr.heap[w.heap.size]? = some (.cells #[a0, a1] t)) (F : Func) (a : Act) (Q : Ending → World → Prop) (x y : Value) (n k : Int)
    (hF : F.results = #[.cell 2 43, .tmp 3, .tmp 4]) (h2 : a.tmps[2]?.getD undef = .pointer (some ⟨w.heap.size, 0, none⟩)) (h3 : a.tmps[3]?.getD undef = .int .i64 n) (h4 : a.tmps[4]?.getD undef = .int .i64 k) (hd : a.defers = [])
    (h : ∀ w3, Below w.heap.size wr w3 → (∀ k, k ≠ w.heap.size → w3.heap[k]? = wr.heap[k]?) → Q (.returned (.tuple #[.agg #[x, y], .int .i64 n, .int .i64 k])) w3) :
    bodyPost Try.prog F Q .ret a ((wr.setCell ⟨w.heap.size, 0, none⟩ x).setCell ⟨w.heap.size, 1, none⟩ y) := by
  obtain ⟨w3, hw3⟩ : ∃ w3, w3 = (wr.setCell ⟨w.heap.size, 0, none⟩ x).setCell ⟨w.heap.size, 1, none⟩ y := ⟨_, rfl⟩
  obtain ⟨b3, o3, d0, d1⟩ := set2 e _ _ w3 hw3
  rw [← hw3]
  clear hw3
  refine bodyPost_ret (v := .tuple #[.agg #[x, y], .int .i64 n, .int .i64 k]) ?_ hd (h w3 b3 o3)
  simp [results, hF, go_sem, h2, h3, h4, d0, d1]
/-- what taking leaves: a block, or an error -/
def TkbPost (w : World) (l : List UInt8) (e : Ending) (w' : World) : Prop :=
  Below w.heap.size w w' ∧ ((tkE l = 0 ∧ ∃ v, e = .returned (.tuple #[.agg #[bv (l.getD 1 0), v], .int .i64 ((tkN l + 10 : Nat) : Int), .int .i64 0]) ∧ BsO w' w.heap.size v (tkB l)) ∨
    (tkE l ≠ 0 ∧ e = .returned (.tuple #[.agg #[.int .u8 0, .slice none 0 0], .int .i64 0, .int .i64 (tkE l)])))
set_option maxRecDepth 100000 in
set_option maxHeartbeats 4000000 in
theorem btake_any (a : Option Addr) (cap : Nat) (l : List UInt8) (w : World) (h : BsV w a l) (hl : l.length ≤ 3000000) (hcap : l.length ≤ cap) : Calls Try.prog 75 #[.slice a l.length cap] w (TkbPost w l) := by
  have HH := Lib.hid h
  have HCAP := Lib.hid hcap
  have HTE : Hid (tkE l = if l = [] then 20 else if l.getD 0 0 ≠ 203 then 80 else if l.length < 6 then 20 else if 1048576 < tkN l then 82 else if l.length < tkN l + 10 then 20 else
    if numL ((l.drop (tkN l + 6)).take 4) ≠ crc (l.take (tkN l + 6)) then 81 else 0) := Lib.hid rfl
  obtain ⟨W, hW⟩ : ∃ W, W = w.alloc (.cells #[.int .u8 0, .slice none 0 0] 43) := ⟨_, rfl⟩
  have hzW : W.heap.size = w.heap.size + 1 := by rw [hW]; simp
  have hBW : Below w.heap.size w W := by rw [hW]; exact below_box w _
  have eW : W.heap[w.heap.size]? = some (.cells #[.int .u8 0, .slice none 0 0] 43) := by rw [hW]; exact heap_new w _
  have HEW := Lib.hid eW
  have HBW := Lib.hid hBW
  have HW := Lib.hid hW
  have HZ := Lib.hid hzW
  clear h hW hBW eW hzW hcap
  go_enter Try.func75, Try.ntmps75
  go_upto_region 1 with fail
  rw [← HW.out]
  clear HW
  have f0 := frozen_of_blk HEW.out 0
  have f1 := frozen_of_blk HEW.out 1
  have c0 := cell_of_blk HEW.out 0
  have c1 := cell_of_blk HEW.out 1
  simp at c0 c1
  by_cases hn : l = []
  · have HE2 : Hid (tkE l = 20) := Lib.hid (by rw [HTE.out, if_pos hn])
    have hlen : ((l.length : Int) == 0) = true := by rw [hn]; rfl
    clear hn
    go_wp2_with fail
    refine tkb_ret HEW.out _ _ _ _ _ 0 20 Try.results75 rfl rfl rfl rfl (fun w3 b3 _ => ⟨HBW.out.trans b3, .inr ⟨by rw [HE2.out]; decide, by rw [HE2.out]⟩⟩)
  · obtain ⟨b, off, rfl, hat⟩ := HH.out hn
    have HA0 := Lib.hid hat
    have hat := hat.below HBW.out
    have HAT := Lib.hid hat
    have hlen : ((l.length : Int) == 0) = false := by
      have := List.length_pos_iff.2 hn
      simp; omega
    have hpos := List.length_pos_iff.2 hn
    obtain ⟨x0, hx0⟩ : ∃ x, l[0]? = some x := ⟨_, List.getElem?_eq_getElem hpos⟩
    have q0 := hat.cells 0 x0 hx0
    rw [Nat.add_zero] at q0
    unfold bv at q0
    have hg0 : l.getD 0 0 = x0 := by rw [List.getD_eq_getElem?_getD, hx0]; rfl
    clear hx0
    have hbw : b < W.heap.size := hat.lt
    clear hat
    by_cases h0 : x0 = 203
    · have q0' : W.cell? ⟨b, off, none⟩ = some (.int .u8 203) := by rw [q0, h0]; rfl
      clear q0
      by_cases h6 : l.length < 6
      · have HE2 : Hid (tkE l = 20) := Lib.hid (by rw [HTE.out, if_neg hn, if_neg (by rw [hg0, h0]; decide), if_pos h6])
        clear hn h0 hg0
        go_wp2_with fail
        refine tkb_ret HEW.out _ _ _ _ _ 0 20 Try.results75 rfl rfl rfl rfl (fun w3 b3 _ => ⟨HBW.out.trans b3, .inr ⟨by rw [HE2.out]; decide, by rw [HE2.out]⟩⟩)
      · have HTE2 : Hid (tkE l = if 1048576 < tkN l then 82 else if l.length < tkN l + 10 then 20 else
          if numL ((l.drop (tkN l + 6)).take 4) ≠ crc (l.take (tkN l + 6)) then 81 else 0) := Lib.hid (by rw [HTE.out, if_neg hn, if_neg (by rw [hg0, h0]; decide), if_neg h6])
        obtain ⟨x1, hx1⟩ : ∃ x, l[1]? = some x := ⟨_, List.getElem?_eq_getElem (by omega)⟩
        have HX1 := Lib.hid hx1
        have HG1 : Hid (l.getD 1 0 = x1) := Lib.hid (by rw [List.getD_eq_getElem?_getD, hx1]; rfl)
        clear hx1
        have HD2 := Lib.hid (HAT.out.drop 2)
        have HN : Hid (numL ((l.drop 2).take 4) = tkN l) := Lib.hid rfl
        have hnl : tkN l < 4294967296 := by
          have := numL_take (l.drop 2) 4 (by simp; omega)
          exact this
        have HHc := HCAP.out
        have h6' : 6 ≤ l.length := by omega
        clear hn h0 hg0 h6 HTE
        go_wp2_with fail
        refine (word_any b (off + 2) _ _ (l.drop 2) _ HD2.out (by simp; omega) (by simp) (by omega)).mono ?_
        rintro e w1 ⟨rfl, m1, rfl⟩
        rw [HN.out]
        obtain ⟨n, hnn⟩ : ∃ n, tkN l = n := ⟨_, rfl⟩
        have HNN := Lib.hid hnn
        rw [hnn] at hnl HTE2 ⊢
        clear hnn q0' HN HD2
        by_cases hbig : 1048576 < n
        · have HE2 : Hid (tkE l = 82) := Lib.hid (by rw [HTE2.out, if_pos hbig])
          go_wp2_with fail
          refine tkb_ret (wr := W.drewN m1) HEW.out _ _ _ _ _ 0 82 Try.results75 rfl rfl rfl rfl (fun w3 b3 _ => ⟨(below_drewN' HBW.out m1).trans b3, .inr ⟨by rw [HE2.out]; decide, by rw [HE2.out]⟩⟩)
        · by_cases hsh : l.length < n + 10
          · have HE2 : Hid (tkE l = 20) := Lib.hid (by rw [HTE2.out, if_neg hbig, if_pos hsh])
            go_wp2_with fail
            refine tkb_ret (wr := W.drewN m1) HEW.out _ _ _ _ _ 0 20 Try.results75 rfl rfl rfl rfl (fun w3 b3 _ => ⟨(below_drewN' HBW.out m1).trans b3, .inr ⟨by rw [HE2.out]; decide, by rw [HE2.out]⟩⟩)
          · have HTE3 : Hid (tkE l = if numL ((l.drop (n + 6)).take 4) ≠ crc (l.take (n + 6)) then 81 else 0) := Lib.hid (by rw [HTE2.out, if_neg hbig, if_neg hsh])
            have hge : n + 10 ≤ l.length := by omega
            have hn20 : n ≤ 1048576 := by omega
            obtain ⟨n6, hn6⟩ : ∃ n6, n + 6 = n6 := ⟨_, rfl⟩
            have hw6 : IntKind.i64.wrap ((n : Int) + 10 - 4) = (n6 : Int) := by rw [IntKind.wrap_i64]; omega
            have HN6 := Lib.hid hn6
            have hcne : ¬ cap = n6 := by omega
            have hle6 : n6 + 4 ≤ l.length := by omega
            have hle7 : n6 ≤ l.length := by omega
            have hle8 : n6 ≤ cap := by omega
            rw [hn6] at HTE3
            obtain ⟨cc, hcc⟩ : ∃ c, crc (l.take n6) = c := ⟨_, rfl⟩
            obtain ⟨nn, hnn⟩ : ∃ c, numL ((l.drop n6).take 4) = c := ⟨_, rfl⟩
            rw [hcc, hnn] at HTE3
            have HCC := Lib.hid hcc
            have HNM := Lib.hid hnn
            clear hbig hsh hcc hnn HTE2 hn6
            go_upto_region 13 with fail
            obtain ⟨V, hV⟩ : ∃ V, V = W.drewN m1 := ⟨_, rfl⟩
            have HAV := Lib.hid (show BsAt V b off l by rw [hV]; exact HAT.out.below (below_drewN' (Below.refl _ _) m1))
            have HEV := Lib.hid (show V.heap[w.heap.size]? = some (.cells #[.int .u8 0, .slice none 0 0] 43) by rw [hV]; exact HEW.out)
            have HBV := Lib.hid (show Below w.heap.size w V by rw [hV]; exact below_drewN' HBW.out m1)
            have HVZ := Lib.hid (show V.heap.size = w.heap.size + 1 by rw [hV]; exact HZ.out)
            obtain ⟨x1n, hx1n⟩ : ∃ x, x1.toNat = x := ⟨_, rfl⟩
            have HX1N := Lib.hid hx1n
            have HX1A : Hid (∀ w', Below w.heap.size w w' → w'.cell? ⟨b, off + 1, none⟩ = some (.int .u8 (x1n : Int))) := Lib.hid (fun w' hb => by
              have := (HA0.out.below hb).cells 1 x1 HX1.out
              unfold bv at this
              rw [hx1n] at this
              exact this)
            have HL6 : Hid ((l.take n6).length = n6) := Lib.hid (by simp; omega)
            have HLB : Hid ((tkB l).length = n) := Lib.hid (by unfold tkB; rw [HNN.out]; simp; omega)
            have HATB : Hid (BsAt w b (off + 6) (tkB l)) := Lib.hid ((HA0.out.drop 6).take _)
            clear hx1n
            have HAT6 : Hid (BsAt V b off (l.take n6)) := Lib.hid (HAV.out.take n6)
            rw [← hV]
            clear hV f0 f1 c0 c1 HEW HBW HAT hbw
            go_wp2_with fail
            refine wp_region_held_drew (S := (fun w' => Below V.heap.size V w')) (by kernel_rfl) ((Below.refl _ _).drew) (fun hHeld => ?_)
            obtain ⟨Vd, hGen⟩ : ∃ u, u = World.drew V := ⟨_, rfl⟩
            rw [← hGen] at hHeld ⊢
            clear hGen
            refine wpAnyH_take (i := 0) (oi := ⟨some 40, _, _, _, _, _⟩) (v := ?vvz1) rfl (by kernel_rfl) (by kernel_rfl) (by kernel_rfl) (fun _ _ _ h => h) (Or.inl ⟨by rfl, ?yyz1⟩) hHeld ?rrz1
            case yyz1 => (intro wq hSw; (try dsimp only at hSw); go_simp; first | done | with_reducible rfl)
            simp only [Act.put, List.setIfInBounds_toArray, List.set_cons_zero, List.set_cons_succ]
            refine wpAnyH_take (i := 1) (oi := ⟨some 41, _, _, _, _, _⟩) (v := ?vvz2) rfl (by kernel_rfl) (by kernel_rfl) (by kernel_rfl) (fun _ _ _ h => h) (Or.inl ⟨by rfl, ?yyz2⟩) hHeld ?rrz2
            case yyz2 => (intro wq hSw; (try dsimp only at hSw); go_simp; first | done | with_reducible rfl)
            simp only [Act.put, List.setIfInBounds_toArray, List.set_cons_zero, List.set_cons_succ]
            refine wpAnyH_take (i := 2) (oi := ⟨some 42, _, _, _, _, _⟩) (v := ?vvz3) rfl (by kernel_rfl) (by kernel_rfl) (by kernel_rfl) (fun _ _ _ h => h) (Or.inl ⟨by rfl, ?yyz3⟩) hHeld ?rrz3
            case yyz3 => (intro wq hSw; (try dsimp only at hSw); go_simp; first | done | with_reducible rfl)
            simp only [Act.put, List.setIfInBounds_toArray, List.set_cons_zero, List.set_cons_succ]
            refine wpAnyH_take (i := 3) (oi := ⟨some 43, _, _, _, _, _⟩) (v := ?vvz4) rfl (by kernel_rfl) (by kernel_rfl) (by kernel_rfl) (fun _ _ _ h => h) (Or.inl ⟨by rfl, ?yyz4⟩) hHeld ?rrz4
            case yyz4 => (intro wq hSw; (try dsimp only at hSw); go_simp; first | done | with_reducible rfl)
            simp only [Act.put, List.setIfInBounds_toArray, List.set_cons_zero, List.set_cons_succ]
            refine wpAnyH_take (i := 5) (oi := ⟨some 45, _, _, _, _, _⟩) (v := ?vvz5) rfl (by kernel_rfl) (by kernel_rfl) (by kernel_rfl) (fun _ _ _ h => h) (Or.inl ⟨by rfl, ?yyz5⟩) hHeld ?rrz5
            case yyz5 => (intro wq hSw; (try dsimp only at hSw); go_simp; first | done | with_reducible rfl)
            simp only [Act.put, List.setIfInBounds_toArray, List.set_cons_zero, List.set_cons_succ]
            refine wpAnyH_take (i := 6) (oi := ⟨some 46, _, _, _, _, _⟩) (v := ?vvz6) rfl (by kernel_rfl) (by kernel_rfl) (by kernel_rfl) (fun _ _ _ h => h) (Or.inl ⟨by rfl, ?yyz6⟩) hHeld ?rrz6
            case yyz6 => (intro wq hSw; (try dsimp only at hSw); go_simp; first | done | with_reducible rfl)
            simp only [Act.put, List.setIfInBounds_toArray, List.set_cons_zero, List.set_cons_succ]
            refine wpAnyH_take (i := 7) (oi := ⟨some 47, _, _, _, _, _⟩) (v := ?vvz7) rfl (by kernel_rfl) (by kernel_rfl) (by kernel_rfl) (fun _ _ _ h => h) (Or.inl ⟨by rfl, ?yyz7⟩) hHeld ?rrz7
            case yyz7 => (intro wq hSw; (try dsimp only at hSw); go_simp; first | done | with_reducible rfl)
            simp only [Act.put, List.setIfInBounds_toArray, List.set_cons_zero, List.set_cons_succ]
            refine wpAnyH_take (i := 8) (oi := ⟨some 48, _, _, _, _, _⟩) (v := ?vvz8) rfl (by kernel_rfl) (by kernel_rfl) (by kernel_rfl) (fun _ _ _ h => h) (Or.inl ⟨by rfl, ?yyz8⟩) hHeld ?rrz8
            case yyz8 => (intro wq hSw; (try dsimp only at hSw); go_simp; first | done | with_reducible rfl)
            simp only [Act.put, List.setIfInBounds_toArray, List.set_cons_zero, List.set_cons_succ]
            refine wpAnyH_ready (rs := [4, 9]) (by kernel_rfl) (by simp) ?_
            refine AllReadyH.cons (o := ⟨some 44, _, _, _, _, _⟩) rfl (fun K hK => ?_) (AllReadyH.cons (o := ⟨some 49, _, _, _, _, _⟩) rfl (fun K hK => ?_) AllReadyH.nil)
            · go_simp
              refine (word_any b (off + n6) _ _ (l.drop n6) _ ((HAV.out.drop n6).below hHeld) (by simp; omega) (by simp) (by omega)).mono ?_
              rintro e w4 ⟨rfl, m4, hw4⟩
              rw [HNM.out]
              have hB4 : Below V.heap.size V w4 := by rw [hw4]; exact below_drewN' hHeld m4
              clear hw4
              go_wp2_with fail
              refine hK.out _ _ ?ssz9 (fun hHeld => ?_)
              case ssz9 => (exact hB4)
              clear hK K
              try simp only [Act.put, List.setIfInBounds_toArray, List.set_cons_zero, List.set_cons_succ]
              refine wpAnyH_ready (rs := [9]) (by kernel_rfl) (by simp) ?_
              refine AllReadyH.cons (o := ⟨some 49, _, _, _, _, _⟩) rfl (fun K hK => ?_) AllReadyH.nil
              go_simp
              have E9 := Lib.hid (heap_new w4 (.cells #[.slice (some ⟨b, off, none⟩) n6 cap] 22))
              refine hK.out _ _ ?ssz10 (fun hHeld => ?_)
              case ssz10 => (exact below_al hHeld _)
              clear hK K
              try simp only [Act.put, List.setIfInBounds_toArray, List.set_cons_zero, List.set_cons_succ]
              refine wpAnyH_ready (rs := [10]) (by kernel_rfl) (by simp) ?_
              refine AllReadyH.cons (o := ⟨some 50, _, _, _, _, _⟩) rfl (fun K hK => ?_) AllReadyH.nil
              go_simp
              refine (sum_any _ cap (some ⟨b, off, none⟩) (l.take n6) _ (by rw [HL6.out]; exact cell_of_blk E9.out 0) (fun _ => ⟨b, off, rfl, HAT6.out.below hHeld⟩) (by rw [HL6.out]; omega)).mono ?_
              rintro e w5 ⟨rfl, b5⟩
              rw [HCC.out]
              have hB5 := below_then hHeld b5
              go_wp2_with fail
              refine hK.out _ _ ?ssz11 (fun hHeld => ?_)
              case ssz11 => (exact hB5)
              clear hK K
              try simp only [Act.put, List.setIfInBounds_toArray, List.set_cons_zero, List.set_cons_succ]
              refine wpAnyH_take (i := 11) (oi := ⟨some 51, _, _, _, _, _⟩) (v := ?vvz12) rfl (by kernel_rfl) (by kernel_rfl) (by kernel_rfl) (fun _ _ _ h => h) (Or.inl ⟨by rfl, ?yyz12⟩) hHeld ?rrz12
              case yyz12 => (intro wq hSw; (try dsimp only at hSw); go_simp; first | done | with_reducible rfl)
              simp only [Act.put, List.setIfInBounds_toArray, List.set_cons_zero, List.set_cons_succ]
              refine wpAnyH_take (i := 12) (oi := ⟨some 39, _, _, _, _, _⟩) (v := ?vvz13) rfl (by kernel_rfl) (by kernel_rfl) (by kernel_rfl) (fun _ _ _ h => h) (Or.inl ⟨by rfl, ?yyz13⟩) hHeld ?rrz13
              case yyz13 => (intro wq hSw; (try dsimp only at hSw); go_simp; first | done | with_reducible rfl)
              simp only [Act.put, List.setIfInBounds_toArray, List.set_cons_zero, List.set_cons_succ]
              refine wpAnyH_done (by kernel_rfl) ?_ _
              clear hHeld
              have HE5 := Lib.hid ((hB5.block _ (by rw [HVZ.out]; omega)).trans HEV.out)
              have HBX := Lib.hid (HBV.out.trans (hB5.mono (by rw [HVZ.out]; omega)))
              have f0 := frozen_of_blk HE5.out 0
              have f1 := frozen_of_blk HE5.out 1
              have c0 := cell_of_blk HE5.out 0
              have c1 := cell_of_blk HE5.out 1
              simp at c0 c1
              by_cases hq : nn = cc
              · have HE2 : Hid (tkE l = 0) := Lib.hid (by rw [HTE3.out, if_neg (by rw [hq]; simp)])
                have t1 : ((nn : Int) != (cc : Int)) = false := by rw [hq]; simp
                have ks : ∀ w', Below w.heap.size w w' → (fun w' => Below w.heap.size w w' ∧ w'.cell? ⟨b, off + 1, none⟩ = some (.int .u8 (x1n : Int))) w' := fun w' hb => ⟨hb, HX1A.out w' hb⟩
                have KS := Lib.hid ks
                have i1 : (1 : Int) < (l.length : Int) := by omega
                have i3 : 6 ≤ n6 := by rw [← HN6.out]; omega
                have i2 : (6 : Int) ≤ (n6 : Int) := by omega
                have i4 : ¬ cap = 6 := by omega
                clear hq ks f0 f1 c0 c1
                go_wp2_with fail
                refine wp_region_held_drew (S := (fun w' => Below w.heap.size w w' ∧ w'.cell? ⟨b, off + 1, none⟩ = some (.int .u8 (x1n : Int)))) (by kernel_rfl) (KS.out _ HBX.out.drew) (fun hHeld => ?_)
                refine wpAnyH_take (i := 0) (oi := ⟨some 53, _, _, _, _, _⟩) (v := ?vvy1) rfl (by kernel_rfl) (by kernel_rfl) (by kernel_rfl) (fun _ _ _ h => h) (Or.inl ⟨by rfl, ?yyy1⟩) hHeld ?rry1
                case yyy1 => (intro wq hSw; (try dsimp only at hSw); go_simp; first | done | with_reducible rfl)
                simp only [Act.put, List.setIfInBounds_toArray, List.set_cons_zero, List.set_cons_succ]
                refine wpAnyH_take (i := 1) (oi := ⟨some 54, _, _, _, _, _⟩) (v := ?vvy2) rfl (by kernel_rfl) (by kernel_rfl) (by kernel_rfl) (fun _ _ _ h => h) (Or.inl ⟨by rfl, ?yyy2⟩) hHeld ?rry2
                case yyy2 => (intro wq hSw; (try dsimp only at hSw); go_simp; first | done | with_reducible rfl)
                simp only [Act.put, List.setIfInBounds_toArray, List.set_cons_zero, List.set_cons_succ]
                refine wpAnyH_take (i := 2) (oi := ⟨some 55, _, _, _, _, _⟩) (v := ?vvy3) rfl (by kernel_rfl) (by kernel_rfl) (by kernel_rfl) (fun _ _ _ h => h) (Or.inl ⟨by rfl, ?yyy3⟩) hHeld ?rry3
                case yyy3 => (intro wq hSw; (try dsimp only at hSw); go_simp; first | done | with_reducible rfl)
                simp only [Act.put, List.setIfInBounds_toArray, List.set_cons_zero, List.set_cons_succ]
                refine wpAnyH_take (i := 3) (oi := ⟨some 56, _, _, _, _, _⟩) (v := ?vvy4) rfl (by kernel_rfl) (by kernel_rfl) (by kernel_rfl) (fun _ _ _ h => h) (Or.inl ⟨by rfl, ?yyy4⟩) hHeld ?rry4
                case yyy4 => (intro wq hSw; (try dsimp only at hSw); go_simp; first | done | with_reducible rfl)
                simp only [Act.put, List.setIfInBounds_toArray, List.set_cons_zero, List.set_cons_succ]
                refine wpAnyH_take (i := 4) (oi := ⟨some 57, _, _, _, _, _⟩) (v := ?vvy5) rfl (by kernel_rfl) (by kernel_rfl) (by kernel_rfl) (fun _ _ _ h => h) (Or.inl ⟨by rfl, ?yyy5⟩) hHeld ?rry5
                case yyy5 => (intro wq hSw; (try dsimp only at hSw); go_simp; first | done | with_reducible rfl)
                simp only [Act.put, List.setIfInBounds_toArray, List.set_cons_zero, List.set_cons_succ]
                refine wpAnyH_take (i := 5) (oi := ⟨some 58, _, _, _, _, _⟩) (v := ?vvy6) rfl (by kernel_rfl) (by kernel_rfl) (by kernel_rfl) (fun _ _ _ h => h) (Or.inl ⟨by rfl, ?yyy6⟩) hHeld ?rry6
                case yyy6 => (intro wq hSw; (try dsimp only at hSw); go_simp; first | done | with_reducible rfl)
                simp only [Act.put, List.setIfInBounds_toArray, List.set_cons_zero, List.set_cons_succ]
                refine wpAnyH_take (i := 6) (oi := ⟨some 59, _, _, _, _, _⟩) (v := ?vvy7) rfl (by kernel_rfl) (by kernel_rfl) (by kernel_rfl) (fun _ _ _ h => h) (Or.inl ⟨by rfl, ?yyy7⟩) hHeld ?rry7
                case yyy7 => (intro wq hSw; (try dsimp only at hSw); go_simp; first | done | with_reducible rfl)
                simp only [Act.put, List.setIfInBounds_toArray, List.set_cons_zero, List.set_cons_succ]
                refine wpAnyH_take (i := 9) (oi := ⟨some 62, _, _, _, _, _⟩) (v := ?vvy8) rfl (by kernel_rfl) (by kernel_rfl) (by kernel_rfl) (fun _ _ _ h => h) (Or.inl ⟨by rfl, ?yyy8⟩) hHeld ?rry8
                case yyy8 => (intro wq hSw; (try dsimp only at hSw); go_simp; first | done | with_reducible rfl)
                simp only [Act.put, List.setIfInBounds_toArray, List.set_cons_zero, List.set_cons_succ]
                refine wpAnyH_ready (rs := [7]) (by kernel_rfl) (by simp) ?_
                refine AllReadyH.cons (o := ⟨some 60, _, _, _, _, _⟩) rfl (fun K hK => ?_) AllReadyH.nil
                go_simp
                refine (clone_any b (off + 6) _ _ (tkB l) _ (fun _ => ⟨b, off + 6, rfl, HATB.out.below hHeld.1⟩) (by rw [HLB.out, ← HN6.out]; omega) (by rw [HLB.out]; omega)).mono ?_
                rintro e w6 ⟨v6, rfl, o6, b6⟩
                obtain ⟨va, vc, rfl⟩ := o6.shape
                have hB6 := hHeld.1.trans (b6.mono hHeld.1.size)
                have HE6 := Lib.hid ((b6.block _ (Array.getElem?_eq_some_iff.1 HE5.out).1).trans (show (World.drew w5).heap[_]? = _ from HE5.out))
                have O6 := Lib.hid (show BsO w6 w5.heap.size (.slice va (tkB l).length vc) (tkB l) from o6)
                clear o6 b6
                have f0 := frozen_of_blk HE6.out 0
                have f1 := frozen_of_blk HE6.out 1
                have c0 := cell_of_blk HE6.out 0
                have c1 := cell_of_blk HE6.out 1
                simp at c0 c1
                go_wp2_with fail
                refine hK.out _ _ ?ssy9 (fun hHeld => ?_)
                case ssy9 => (exact KS.out _ hB6)
                clear hK K
                try simp only [Act.put, List.setIfInBounds_toArray, List.set_cons_zero, List.set_cons_succ]
                refine wpAnyH_take (i := 8) (oi := ⟨some 61, _, _, _, _, _⟩) (v := ?vvy10) rfl (by kernel_rfl) (by kernel_rfl) (by kernel_rfl) (fun _ _ _ h => h) (Or.inl ⟨by rfl, ?yyy10⟩) hHeld ?rry10
                case yyy10 => (intro wq hSw; (try dsimp only at hSw); go_simp; first | done | with_reducible rfl)
                simp only [Act.put, List.setIfInBounds_toArray, List.set_cons_zero, List.set_cons_succ]
                refine wpAnyH_ready (rs := [10]) (by kernel_rfl) (by simp) ?_
                refine AllReadyH.cons (o := ⟨none, _, _, _, _, _⟩) rfl (fun K hK => ?_) AllReadyH.nil
                go_simp
                refine hK.out _ _ ?ssy11 (fun hHeld => ?_)
                case ssy11 => (exact KS.out _ ((hB6.setCell (p := ⟨w.heap.size, 0, none⟩) (Nat.le_refl _) _).setCell (p := ⟨w.heap.size, 1, none⟩) (Nat.le_refl _) _))
                clear hK K
                try simp only [Act.put, List.setIfInBounds_toArray, List.set_cons_zero, List.set_cons_succ]
                refine wpAnyH_take (i := 11) (oi := ⟨some 3, _, _, _, _, _⟩) (v := ?vvy12) rfl (by kernel_rfl) (by kernel_rfl) (by kernel_rfl) (fun _ _ _ h => h) (Or.inl ⟨by rfl, ?yyy12⟩) hHeld ?rry12
                case yyy12 => (intro wq hSw; (try dsimp only at hSw); go_simp; first | done | with_reducible rfl)
                simp only [Act.put, List.setIfInBounds_toArray, List.set_cons_zero, List.set_cons_succ]
                refine wpAnyH_take (i := 12) (oi := ⟨some 4, _, _, _, _, _⟩) (v := ?vvy13) rfl (by kernel_rfl) (by kernel_rfl) (by kernel_rfl) (fun _ _ _ h => h) (Or.inl ⟨by rfl, ?yyy13⟩) hHeld ?rry13
                case yyy13 => (intro wq hSw; (try dsimp only at hSw); go_simp; first | done | with_reducible rfl)
                simp only [Act.put, List.setIfInBounds_toArray, List.set_cons_zero, List.set_cons_succ]
                refine wpAnyH_done (by kernel_rfl) ?_ _
                clear hHeld
                go_wp2_with fail
                refine tkb_ret HE6.out _ _ _ _ (.slice va (tkB l).length vc) ((n : Int) + 10) 0 Try.results75 rfl rfl rfl rfl (fun w3 b3 o3 => ⟨hB6.trans b3, .inl ⟨HE2.out, .slice va (tkB l).length vc, ?_, ?_⟩⟩)
                · rw [HG1.out, HNN.out]; unfold bv; rw [HX1N.out]; rfl
                · exact ownsRow_of_block (O6.out.mono HBX.out.size) (fun k hk => o3 k (by have := (O6.out.lt k hk).1; have := HVZ.out; have := hB5.size; omega))
              · have HE2 : Hid (tkE l = 81) := Lib.hid (by rw [HTE3.out, if_pos hq])
                have t1 : ((nn : Int) != (cc : Int)) = true := by simp; omega
                clear hq
                go_wp2_with fail
                refine tkb_ret HE5.out _ _ _ _ _ 0 81 Try.results75 rfl rfl rfl rfl (fun w3 b3 _ => ⟨HBX.out.trans b3, .inr ⟨by rw [HE2.out]; decide, by rw [HE2.out]⟩⟩)
            · go_simp
              have E9 := Lib.hid (heap_new Vd (.cells #[.slice (some ⟨b, off, none⟩) n6 cap] 22))
              refine hK.out _ _ ?ssz14 (fun hHeld => ?_)
              case ssz14 => (exact below_al hHeld _)
              clear hK K
              try simp only [Act.put, List.setIfInBounds_toArray, List.set_cons_zero, List.set_cons_succ]
              refine wpAnyH_ready (rs := [4]) (by kernel_rfl) (by simp) ?_
              refine AllReadyH.cons (o := ⟨some 44, _, _, _, _, _⟩) rfl (fun K hK => ?_) AllReadyH.nil
              go_simp
              refine (word_any b (off + n6) _ _ (l.drop n6) _ ((HAV.out.drop n6).below hHeld) (by simp; omega) (by simp) (by omega)).mono ?_
              rintro e w4 ⟨rfl, m4, hw4⟩
              rw [HNM.out]
              have hB4 : Below V.heap.size V w4 := by rw [hw4]; exact below_drewN' hHeld m4
              replace E9 : Hid (w4.heap[Vd.heap.size]? = some (.cells #[.slice (some ⟨b, off, none⟩) n6 cap] 22)) := Lib.hid (by rw [hw4]; exact E9.out)
              clear hw4
              go_wp2_with fail
              refine hK.out _ _ ?ssz15 (fun hHeld => ?_)
              case ssz15 => (exact hB4)
              clear hK K
              try simp only [Act.put, List.setIfInBounds_toArray, List.set_cons_zero, List.set_cons_succ]
              refine wpAnyH_ready (rs := [10]) (by kernel_rfl) (by simp) ?_
              refine AllReadyH.cons (o := ⟨some 50, _, _, _, _, _⟩) rfl (fun K hK => ?_) AllReadyH.nil
              go_simp
              refine (sum_any _ cap (some ⟨b, off, none⟩) (l.take n6) _ (by rw [HL6.out]; exact cell_of_blk E9.out 0) (fun _ => ⟨b, off, rfl, HAT6.out.below hHeld⟩) (by rw [HL6.out]; omega)).mono ?_
              rintro e w5 ⟨rfl, b5⟩
              rw [HCC.out]
              have hB5 := below_then hHeld b5
              go_wp2_with fail
              refine hK.out _ _ ?ssz16 (fun hHeld => ?_)
              case ssz16 => (exact hB5)
              clear hK K
              try simp only [Act.put, List.setIfInBounds_toArray, List.set_cons_zero, List.set_cons_succ]
              refine wpAnyH_take (i := 11) (oi := ⟨some 51, _, _, _, _, _⟩) (v := ?vvz17) rfl (by kernel_rfl) (by kernel_rfl) (by kernel_rfl) (fun _ _ _ h => h) (Or.inl ⟨by rfl, ?yyz17⟩) hHeld ?rrz17
              case yyz17 => (intro wq hSw; (try dsimp only at hSw); go_simp; first | done | with_reducible rfl)
              simp only [Act.put, List.setIfInBounds_toArray, List.set_cons_zero, List.set_cons_succ]
              refine wpAnyH_take (i := 12) (oi := ⟨some 39, _, _, _, _, _⟩) (v := ?vvz18) rfl (by kernel_rfl) (by kernel_rfl) (by kernel_rfl) (fun _ _ _ h => h) (Or.inl ⟨by rfl, ?yyz18⟩) hHeld ?rrz18
              case yyz18 => (intro wq hSw; (try dsimp only at hSw); go_simp; first | done | with_reducible rfl)
              simp only [Act.put, List.setIfInBounds_toArray, List.set_cons_zero, List.set_cons_succ]
              refine wpAnyH_done (by kernel_rfl) ?_ _
              clear hHeld
              have HE5 := Lib.hid ((hB5.block _ (by rw [HVZ.out]; omega)).trans HEV.out)
              have HBX := Lib.hid (HBV.out.trans (hB5.mono (by rw [HVZ.out]; omega)))
              have f0 := frozen_of_blk HE5.out 0
              have f1 := frozen_of_blk HE5.out 1
              have c0 := cell_of_blk HE5.out 0
              have c1 := cell_of_blk HE5.out 1
              simp at c0 c1
              by_cases hq : nn = cc
              · have HE2 : Hid (tkE l = 0) := Lib.hid (by rw [HTE3.out, if_neg (by rw [hq]; simp)])
                have t1 : ((nn : Int) != (cc : Int)) = false := by rw [hq]; simp
                have ks : ∀ w', Below w.heap.size w w' → (fun w' => Below w.heap.size w w' ∧ w'.cell? ⟨b, off + 1, none⟩ = some (.int .u8 (x1n : Int))) w' := fun w' hb => ⟨hb, HX1A.out w' hb⟩
                have KS := Lib.hid ks
                have i1 : (1 : Int) < (l.length : Int) := by omega
                have i3 : 6 ≤ n6 := by rw [← HN6.out]; omega
                have i2 : (6 : Int) ≤ (n6 : Int) := by omega
                have i4 : ¬ cap = 6 := by omega
                clear hq ks f0 f1 c0 c1
                go_wp2_with fail
                refine wp_region_held_drew (S := (fun w' => Below w.heap.size w w' ∧ w'.cell? ⟨b, off + 1, none⟩ = some (.int .u8 (x1n : Int)))) (by kernel_rfl) (KS.out _ HBX.out.drew) (fun hHeld => ?_)
                refine wpAnyH_take (i := 0) (oi := ⟨some 53, _, _, _, _, _⟩) (v := ?vvy14) rfl (by kernel_rfl) (by kernel_rfl) (by kernel_rfl) (fun _ _ _ h => h) (Or.inl ⟨by rfl, ?yyy14⟩) hHeld ?rry14
                case yyy14 => (intro wq hSw; (try dsimp only at hSw); go_simp; first | done | with_reducible rfl)
                simp only [Act.put, List.setIfInBounds_toArray, List.set_cons_zero, List.set_cons_succ]
                refine wpAnyH_take (i := 1) (oi := ⟨some 54, _, _, _, _, _⟩) (v := ?vvy15) rfl (by kernel_rfl) (by kernel_rfl) (by kernel_rfl) (fun _ _ _ h => h) (Or.inl ⟨by rfl, ?yyy15⟩) hHeld ?rry15
                case yyy15 => (intro wq hSw; (try dsimp only at hSw); go_simp; first | done | with_reducible rfl)
                simp only [Act.put, List.setIfInBounds_toArray, List.set_cons_zero, List.set_cons_succ]
                refine wpAnyH_take (i := 2) (oi := ⟨some 55, _, _, _, _, _⟩) (v := ?vvy16) rfl (by kernel_rfl) (by kernel_rfl) (by kernel_rfl) (fun _ _ _ h => h) (Or.inl ⟨by rfl, ?yyy16⟩) hHeld ?rry16
                case yyy16 => (intro wq hSw; (try dsimp only at hSw); go_simp; first | done | with_reducible rfl)
                simp only [Act.put, List.setIfInBounds_toArray, List.set_cons_zero, List.set_cons_succ]
                refine wpAnyH_take (i := 3) (oi := ⟨some 56, _, _, _, _, _⟩) (v := ?vvy17) rfl (by kernel_rfl) (by kernel_rfl) (by kernel_rfl) (fun _ _ _ h => h) (Or.inl ⟨by rfl, ?yyy17⟩) hHeld ?rry17
                case yyy17 => (intro wq hSw; (try dsimp only at hSw); go_simp; first | done | with_reducible rfl)
                simp only [Act.put, List.setIfInBounds_toArray, List.set_cons_zero, List.set_cons_succ]
                refine wpAnyH_take (i := 4) (oi := ⟨some 57, _, _, _, _, _⟩) (v := ?vvy18) rfl (by kernel_rfl) (by kernel_rfl) (by kernel_rfl) (fun _ _ _ h => h) (Or.inl ⟨by rfl, ?yyy18⟩) hHeld ?rry18
                case yyy18 => (intro wq hSw; (try dsimp only at hSw); go_simp; first | done | with_reducible rfl)
                simp only [Act.put, List.setIfInBounds_toArray, List.set_cons_zero, List.set_cons_succ]
                refine wpAnyH_take (i := 5) (oi := ⟨some 58, _, _, _, _, _⟩) (v := ?vvy19) rfl (by kernel_rfl) (by kernel_rfl) (by kernel_rfl) (fun _ _ _ h => h) (Or.inl ⟨by rfl, ?yyy19⟩) hHeld ?rry19
                case yyy19 => (intro wq hSw; (try dsimp only at hSw); go_simp; first | done | with_reducible rfl)
                simp only [Act.put, List.setIfInBounds_toArray, List.set_cons_zero, List.set_cons_succ]
                refine wpAnyH_take (i := 6) (oi := ⟨some 59, _, _, _, _, _⟩) (v := ?vvy20) rfl (by kernel_rfl) (by kernel_rfl) (by kernel_rfl) (fun _ _ _ h => h) (Or.inl ⟨by rfl, ?yyy20⟩) hHeld ?rry20
                case yyy20 => (intro wq hSw; (try dsimp only at hSw); go_simp; first | done | with_reducible rfl)
                simp only [Act.put, List.setIfInBounds_toArray, List.set_cons_zero, List.set_cons_succ]
                refine wpAnyH_take (i := 9) (oi := ⟨some 62, _, _, _, _, _⟩) (v := ?vvy21) rfl (by kernel_rfl) (by kernel_rfl) (by kernel_rfl) (fun _ _ _ h => h) (Or.inl ⟨by rfl, ?yyy21⟩) hHeld ?rry21
                case yyy21 => (intro wq hSw; (try dsimp only at hSw); go_simp; first | done | with_reducible rfl)
                simp only [Act.put, List.setIfInBounds_toArray, List.set_cons_zero, List.set_cons_succ]
                refine wpAnyH_ready (rs := [7]) (by kernel_rfl) (by simp) ?_
                refine AllReadyH.cons (o := ⟨some 60, _, _, _, _, _⟩) rfl (fun K hK => ?_) AllReadyH.nil
                go_simp
                refine (clone_any b (off + 6) _ _ (tkB l) _ (fun _ => ⟨b, off + 6, rfl, HATB.out.below hHeld.1⟩) (by rw [HLB.out, ← HN6.out]; omega) (by rw [HLB.out]; omega)).mono ?_
                rintro e w6 ⟨v6, rfl, o6, b6⟩
                obtain ⟨va, vc, rfl⟩ := o6.shape
                have hB6 := hHeld.1.trans (b6.mono hHeld.1.size)
                have HE6 := Lib.hid ((b6.block _ (Array.getElem?_eq_some_iff.1 HE5.out).1).trans (show (World.drew w5).heap[_]? = _ from HE5.out))
                have O6 := Lib.hid (show BsO w6 w5.heap.size (.slice va (tkB l).length vc) (tkB l) from o6)
                clear o6 b6
                have f0 := frozen_of_blk HE6.out 0
                have f1 := frozen_of_blk HE6.out 1
                have c0 := cell_of_blk HE6.out 0
                have c1 := cell_of_blk HE6.out 1
                simp at c0 c1
                go_wp2_with fail
                refine hK.out _ _ ?ssy22 (fun hHeld => ?_)
                case ssy22 => (exact KS.out _ hB6)
                clear hK K
                try simp only [Act.put, List.setIfInBounds_toArray, List.set_cons_zero, List.set_cons_succ]
                refine wpAnyH_take (i := 8) (oi := ⟨some 61, _, _, _, _, _⟩) (v := ?vvy23) rfl (by kernel_rfl) (by kernel_rfl) (by kernel_rfl) (fun _ _ _ h => h) (Or.inl ⟨by rfl, ?yyy23⟩) hHeld ?rry23
                case yyy23 => (intro wq hSw; (try dsimp only at hSw); go_simp; first | done | with_reducible rfl)
                simp only [Act.put, List.setIfInBounds_toArray, List.set_cons_zero, List.set_cons_succ]
                refine wpAnyH_ready (rs := [10]) (by kernel_rfl) (by simp) ?_
                refine AllReadyH.cons (o := ⟨none, _, _, _, _, _⟩) rfl (fun K hK => ?_) AllReadyH.nil
                go_simp
                refine hK.out _ _ ?ssy24 (fun hHeld => ?_)
                case ssy24 => (exact KS.out _ ((hB6.setCell (p := ⟨w.heap.size, 0, none⟩) (Nat.le_refl _) _).setCell (p := ⟨w.heap.size, 1, none⟩) (Nat.le_refl _) _))
                clear hK K
                try simp only [Act.put, List.setIfInBounds_toArray, List.set_cons_zero, List.set_cons_succ]
                refine wpAnyH_take (i := 11) (oi := ⟨some 3, _, _, _, _, _⟩) (v := ?vvy25) rfl (by kernel_rfl) (by kernel_rfl) (by kernel_rfl) (fun _ _ _ h => h) (Or.inl ⟨by rfl, ?yyy25⟩) hHeld ?rry25
                case yyy25 => (intro wq hSw; (try dsimp only at hSw); go_simp; first | done | with_reducible rfl)
                simp only [Act.put, List.setIfInBounds_toArray, List.set_cons_zero, List.set_cons_succ]
                refine wpAnyH_take (i := 12) (oi := ⟨some 4, _, _, _, _, _⟩) (v := ?vvy26) rfl (by kernel_rfl) (by kernel_rfl) (by kernel_rfl) (fun _ _ _ h => h) (Or.inl ⟨by rfl, ?yyy26⟩) hHeld ?rry26
                case yyy26 => (intro wq hSw; (try dsimp only at hSw); go_simp; first | done | with_reducible rfl)
                simp only [Act.put, List.setIfInBounds_toArray, List.set_cons_zero, List.set_cons_succ]
                refine wpAnyH_done (by kernel_rfl) ?_ _
                clear hHeld
                go_wp2_with fail
                refine tkb_ret HE6.out _ _ _ _ (.slice va (tkB l).length vc) ((n : Int) + 10) 0 Try.results75 rfl rfl rfl rfl (fun w3 b3 o3 => ⟨hB6.trans b3, .inl ⟨HE2.out, .slice va (tkB l).length vc, ?_, ?_⟩⟩)
                · rw [HG1.out, HNN.out]; unfold bv; rw [HX1N.out]; rfl
                · exact ownsRow_of_block (O6.out.mono HBX.out.size) (fun k hk => o3 k (by have := (O6.out.lt k hk).1; have := HVZ.out; have := hB5.size; omega))
              · have HE2 : Hid (tkE l = 81) := Lib.hid (by rw [HTE3.out, if_pos hq])
                have t1 : ((nn : Int) != (cc : Int)) = true := by simp; omega
                clear hq
                go_wp2_with fail
                refine tkb_ret HE5.out _ _ _ _ _ 0 81 Try.results75 rfl rfl rfl rfl (fun w3 b3 _ => ⟨HBX.out.trans b3, .inr ⟨by rw [HE2.out]; decide, by rw [HE2.out]⟩⟩)
    · have HE2 : Hid (tkE l = 80) := Lib.hid (by rw [HTE.out, if_neg hn, if_pos (by rw [hg0]; exact h0)])
      have t1 : ((x0.toNat : Int) != 203) = true := by
        have := u8_ne (b := 203) h0
        simpa using this
      clear hn h0 hg0
      go_wp2_with fail
      refine tkb_ret HEW.out _ _ _ _ _ 0 80 Try.results75 rfl rfl rfl rfl (fun w3 b3 _ => ⟨HBW.out.trans b3, .inr ⟨by rw [HE2.out]; decide, by rw [HE2.out]⟩⟩)
end Go.Proofs.Ytcghgnncmnoalaa
