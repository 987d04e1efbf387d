/- Reference 13: Writes. Conditions: each contract's own premises. -/
import Derived.Test.YtcghgnncmnoalaaSx15
import Derived.Test.YtcghgnncmnoalaaSx12
namespace Go.Proofs.Ytcghgnncmnoalaa
open Go.RowKit Go.Maps

structure OuI (w wr : World) (L : List Rx) (j : Nat) (v : Value) : Prop where
  b : Below w.heap.size w wr
  o : kW.Own wr w.heap.size v (outX (L.take j))
theorem outX_snoc (L : List Rx) (x : Rx) : outX (L ++ [x]) = outX L ++ outAt x := by simp [outX]
theorem outX_len : ∀ L : List Rx, (outX L).length ≤ L.length
  | [] => Nat.le_refl _
  | x :: L => by
    show (outAt x ++ outX L).length ≤ _
    have h1 : (outAt x).length ≤ 1 := by unfold outAt; split <;> simp
    have := outX_len L
    simp only [List.length_append, List.length_cons]
    omega
def Out13 (w : World) (L : List Rx) (e : Ending) (w' : World) : Prop := ∃ v, e = .returned v ∧ kW.Own w' w.heap.size v (outX L) ∧ Below w.heap.size w w'
set_option maxRecDepth 100000 in
set_option maxHeartbeats 4000000 in
theorem r13Writes_any {w : World} {rb B : Nat} {L : List Rx} (h : SrX w rb B L) :
    Calls Try.prog 49 #[.pointer (some ⟨rb, 0, none⟩)] w (Out13 w L) := by
  obtain ⟨a, cap, e1, e2, e3⟩ := h.ex
  obtain ⟨n, hn⟩ : ∃ n, n = L.length := ⟨_, rfl⟩
  have hn6 : n ≤ 1000000 := by rw [hn]; exact h.n
  rw [← hn] at e1 e2
  have HE1 := Lib.hid e1
  have HO := Lib.hid e2
  have HN := Lib.hid hn
  clear h hn e1 e2 e3
  have HI0 : Hid (OuI w w L 0 (.slice none 0 0)) := Lib.hid ⟨Below.refl _ _, RowK.Own.nil kW _ _⟩
  go_enter Try.func49, Try.ntmps49
  go_wp2_with fail
  go_loopw [3, 4] (fun s3 i wr => ∃ j : Nat, j ≤ n ∧ i = .int .i64 j ∧ Hid (OuI w wr L j s3)) (fun _ i _ => n - (intOf i).toNat)
  case atStart => exact ⟨0, Nat.zero_le _, rfl, HI0⟩
  case round =>
    obtain ⟨j, hj, rfl, HI⟩ := hrel
    have q0 := cell_of_blk ((HI.out.b.block _ (Array.getElem?_eq_some_iff.1 HE1.out).1).trans HE1.out) 0
    simp at q0
    by_cases hlt : j < n
    · have hltz : (j : Int) < (n : Int) := by omega
      have t6 : decide ((j : Int) < 0) = false := decide_eq_false (by omega)
      obtain ⟨x, hx⟩ : ∃ x, L[j]? = some x := ⟨_, List.getElem?_eq_getElem (by have := HN.out; omega)⟩
      obtain ⟨b, cp, hve, _, _, hat⟩ := HO.out.at' (fun e => by rw [e] at hx; simp at hx)
      injection hve with hv1 hv2 hv3
      subst hv1
      have hat2 := hat.below HI.out.b
      have HRG : Hid (wr.rangeAt b (j * 21) x.cells) := Lib.hid (by have := hat2.range hx; rw [Nat.zero_add] at this; exact this)
      have HTK : Hid (outX (L.take (j + 1)) = outX (L.take j) ++ outAt x) := Lib.hid (by
        obtain ⟨hk', e⟩ := List.getElem?_eq_some_iff.1 hx
        rw [List.take_succ_eq_append_getElem hk', e, outX_snoc])
      have HOL : Hid ((outX (L.take j)).length ≤ 1000000) := Lib.hid (by
        have := outX_len (L.take j)
        rw [List.length_take] at *
        omega)
      obtain ⟨oa, oc, hos⟩ := HI.out.o.shape
      subst hos
      obtain ⟨on, hon⟩ : ∃ on, on = (outX (L.take j)).length := ⟨_, rfl⟩
      rw [← hon]
      have HON := Lib.hid hon
      obtain ⟨xb, hxb⟩ : ∃ y, y = wr.heap.size := ⟨_, rfl⟩
      have HXB := Lib.hid hxb
      clear hat hat2 hx hxb hon hv2 hv3
      go_upto_region 6 with (first | (refine wpList_load_mid (op := ⟨some 21, _, _, _, _, _⟩) rfl 82 (.tmp 20) rfl b (j * 21) rfl x.cells _ HRG.out Try.underlying82 rfl sizeRx ?_) | (rw [← HXB.out]; refine wpList_store_new (op := ⟨none, _, _, _, _, _⟩) rfl 82 (.tmp 5) (.tmp 21) rfl _ x.cells.toArray xb HXB.out rfl rfl sizeRx2 rfl (oneRx x) ?_))
      clear q0
      obtain ⟨V, hV⟩ : ∃ V, wr.alloc (.cells x.cells.toArray 82) = V := ⟨_, rfl⟩
      have bV : Below wr.heap.size wr V := by rw [← hV]; exact below_box _ _
      have eV : V.heap[xb]? = some (.cells x.cells.toArray 82) := by rw [← hV, HXB.out]; exact heap_new _ _
      have HBV := Lib.hid (below_then HI.out.b bV)
      have HOV := Lib.hid (HI.out.o.below bV)
      rw [hV]
      obtain ⟨xk, xs, xwr, xmk, xw, xm⟩ := x
      obtain ⟨sw, sv, sh⟩ := xs
      obtain ⟨⟨wk, wa, wb, ws⟩, wv, wh⟩ := xw
      have c7 := cell_of_blk eV 7
      have c9 := cell_of_blk eV 9
      have c10 := cell_of_blk eV 10
      have c11 := cell_of_blk eV 11
      have c12 := cell_of_blk eV 12
      have c13 := cell_of_blk eV 13
      have c14 := cell_of_blk eV 14
      have c5 := cell_of_blk eV 5
      have c6 := cell_of_blk eV 6
      simp [Rx.cells] at c7 c9 c10 c11 c12 c13 c14 c5 c6
      obtain ⟨q, hq⟩ : ∃ q, (wv.toList == sv.toList) = q := ⟨_, rfl⟩
      have hq2 : (wv.toList != sv.toList) = !q := by rw [← hq]; rfl
      have HAT : Hid (outAt ⟨xk, ⟨sw, sv, sh⟩, xwr, xmk, ⟨⟨wk, wa, wb, ws⟩, wv, wh⟩, xm⟩ = if (xwr && !(q && sh == wh)) = true then [⟨⟨wk, wa, wb, ws⟩, wv, wh⟩] else []) := Lib.hid (by
        unfold outAt outB txB
        show (if (xwr && !((sv.toList == wv.toList) && (sh == wh))) = true then _ else _) = _
        rw [show (sv.toList == wv.toList) = q by rw [← hq]; exact Bool.eq_iff_iff.2 ⟨fun h => by simp at h ⊢; exact h.symm, fun h => by simp at h ⊢; exact h.symm⟩])
      clear hV bV eV HRG
      cases xwr
      · clear hq hq2 c9 c10 c11 c12 c13 c14 c5 c6
        go_wp2_with fail
        refine ⟨⟨j + 1, by omega, by go_num, Lib.hid ⟨HBV.out, ?_⟩⟩, by simp [intOf]; omega⟩
        have hA := HAT.out
        simp at hA
        rw [HTK.out, hA, List.append_nil, HON.out]
        exact HOV.out
      · cases q
        · simp only [Bool.not_false] at hq2
          cases wh <;> cases sh
          · go_upto_region 7 with fail
            obtain ⟨Z, hZ⟩ : ∃ Z, V.alloc (.cells #[.int .i64 wk, .int .i64 wa, .int .i64 wb, .string ws, .string wv, .bool false] 80) = Z := ⟨_, rfl⟩
            obtain ⟨zb, hzb⟩ : ∃ z, z = V.heap.size := ⟨_, rfl⟩
            have bZ : Below V.heap.size V Z := by rw [← hZ]; exact below_box _ _
            have eZ : Z.heap[zb]? = some (.cells #[.int .i64 wk, .int .i64 wa, .int .i64 wb, .string ws, .string wv, .bool false] 80) := by rw [← hZ, hzb]; exact heap_new _ _
            have HOZ := Lib.hid (HOV.out.below bZ)
            have HBZ := Lib.hid (below_then HBV.out bZ)
            have HVZ : Hid (kW.V Z (some ⟨zb, 0, none⟩) [⟨⟨wk, wa, wb, ws⟩, wv, false⟩]) := Lib.hid (fun _ => ⟨_, 0, rfl, RowK.new_at (k := kW) eZ rfl⟩)
            have HZ := Lib.hid hZ
            have HZB := Lib.hid hzb
            clear bZ eZ hZ hzb
            go_wp2_with (at_builtin; rw [HZ.out, ← HZB.out]; refine RowK.wpList_app (k := kW) (B := w.heap.size) (v := .slice oa on oc) (l := outX (L.take j)) rfl (.tmp 42) (.tmp 45) rfl rfl (by rw [HON.out]; exact HOZ.out) (some ⟨zb, 0, none⟩) 1 [⟨⟨wk, wa, wb, ws⟩, wv, false⟩] 1 rfl rfl HVZ.out (fun e => by cases e) (by have := HOL.out; simp; omega) HBZ.out.size ?_; rintro v9 w9 h9; have H9 := Lib.hid h9; clear h9)
            refine ⟨⟨j + 1, by omega, by go_num, Lib.hid ⟨HBZ.out.trans (below_grownW HOZ.out (by have := H9.out.2.1; rw [HON.out] at this; exact this) HBZ.out.size), ?_⟩⟩, by simp [intOf]; omega⟩
            have hA := HAT.out
            simp at hA
            rw [HTK.out, hA]
            exact H9.out.1
          · go_upto_region 7 with fail
            obtain ⟨Z, hZ⟩ : ∃ Z, V.alloc (.cells #[.int .i64 wk, .int .i64 wa, .int .i64 wb, .string ws, .string wv, .bool false] 80) = Z := ⟨_, rfl⟩
            obtain ⟨zb, hzb⟩ : ∃ z, z = V.heap.size := ⟨_, rfl⟩
            have bZ : Below V.heap.size V Z := by rw [← hZ]; exact below_box _ _
            have eZ : Z.heap[zb]? = some (.cells #[.int .i64 wk, .int .i64 wa, .int .i64 wb, .string ws, .string wv, .bool false] 80) := by rw [← hZ, hzb]; exact heap_new _ _
            have HOZ := Lib.hid (HOV.out.below bZ)
            have HBZ := Lib.hid (below_then HBV.out bZ)
            have HVZ : Hid (kW.V Z (some ⟨zb, 0, none⟩) [⟨⟨wk, wa, wb, ws⟩, wv, false⟩]) := Lib.hid (fun _ => ⟨_, 0, rfl, RowK.new_at (k := kW) eZ rfl⟩)
            have HZ := Lib.hid hZ
            have HZB := Lib.hid hzb
            clear bZ eZ hZ hzb
            go_wp2_with (at_builtin; rw [HZ.out, ← HZB.out]; refine RowK.wpList_app (k := kW) (B := w.heap.size) (v := .slice oa on oc) (l := outX (L.take j)) rfl (.tmp 42) (.tmp 45) rfl rfl (by rw [HON.out]; exact HOZ.out) (some ⟨zb, 0, none⟩) 1 [⟨⟨wk, wa, wb, ws⟩, wv, false⟩] 1 rfl rfl HVZ.out (fun e => by cases e) (by have := HOL.out; simp; omega) HBZ.out.size ?_; rintro v9 w9 h9; have H9 := Lib.hid h9; clear h9)
            refine ⟨⟨j + 1, by omega, by go_num, Lib.hid ⟨HBZ.out.trans (below_grownW HOZ.out (by have := H9.out.2.1; rw [HON.out] at this; exact this) HBZ.out.size), ?_⟩⟩, by simp [intOf]; omega⟩
            have hA := HAT.out
            simp at hA
            rw [HTK.out, hA]
            exact H9.out.1
          · go_upto_region 7 with fail
            obtain ⟨Z, hZ⟩ : ∃ Z, V.alloc (.cells #[.int .i64 wk, .int .i64 wa, .int .i64 wb, .string ws, .string wv, .bool true] 80) = Z := ⟨_, rfl⟩
            obtain ⟨zb, hzb⟩ : ∃ z, z = V.heap.size := ⟨_, rfl⟩
            have bZ : Below V.heap.size V Z := by rw [← hZ]; exact below_box _ _
            have eZ : Z.heap[zb]? = some (.cells #[.int .i64 wk, .int .i64 wa, .int .i64 wb, .string ws, .string wv, .bool true] 80) := by rw [← hZ, hzb]; exact heap_new _ _
            have HOZ := Lib.hid (HOV.out.below bZ)
            have HBZ := Lib.hid (below_then HBV.out bZ)
            have HVZ : Hid (kW.V Z (some ⟨zb, 0, none⟩) [⟨⟨wk, wa, wb, ws⟩, wv, true⟩]) := Lib.hid (fun _ => ⟨_, 0, rfl, RowK.new_at (k := kW) eZ rfl⟩)
            have HZ := Lib.hid hZ
            have HZB := Lib.hid hzb
            clear bZ eZ hZ hzb
            go_wp2_with (at_builtin; rw [HZ.out, ← HZB.out]; refine RowK.wpList_app (k := kW) (B := w.heap.size) (v := .slice oa on oc) (l := outX (L.take j)) rfl (.tmp 42) (.tmp 45) rfl rfl (by rw [HON.out]; exact HOZ.out) (some ⟨zb, 0, none⟩) 1 [⟨⟨wk, wa, wb, ws⟩, wv, true⟩] 1 rfl rfl HVZ.out (fun e => by cases e) (by have := HOL.out; simp; omega) HBZ.out.size ?_; rintro v9 w9 h9; have H9 := Lib.hid h9; clear h9)
            refine ⟨⟨j + 1, by omega, by go_num, Lib.hid ⟨HBZ.out.trans (below_grownW HOZ.out (by have := H9.out.2.1; rw [HON.out] at this; exact this) HBZ.out.size), ?_⟩⟩, by simp [intOf]; omega⟩
            have hA := HAT.out
            simp at hA
            rw [HTK.out, hA]
            exact H9.out.1
          · go_upto_region 7 with fail
            obtain ⟨Z, hZ⟩ : ∃ Z, V.alloc (.cells #[.int .i64 wk, .int .i64 wa, .int .i64 wb, .string ws, .string wv, .bool true] 80) = Z := ⟨_, rfl⟩
            obtain ⟨zb, hzb⟩ : ∃ z, z = V.heap.size := ⟨_, rfl⟩
            have bZ : Below V.heap.size V Z := by rw [← hZ]; exact below_box _ _
            have eZ : Z.heap[zb]? = some (.cells #[.int .i64 wk, .int .i64 wa, .int .i64 wb, .string ws, .string wv, .bool true] 80) := by rw [← hZ, hzb]; exact heap_new _ _
            have HOZ := Lib.hid (HOV.out.below bZ)
            have HBZ := Lib.hid (below_then HBV.out bZ)
            have HVZ : Hid (kW.V Z (some ⟨zb, 0, none⟩) [⟨⟨wk, wa, wb, ws⟩, wv, true⟩]) := Lib.hid (fun _ => ⟨_, 0, rfl, RowK.new_at (k := kW) eZ rfl⟩)
            have HZ := Lib.hid hZ
            have HZB := Lib.hid hzb
            clear bZ eZ hZ hzb
            go_wp2_with (at_builtin; rw [HZ.out, ← HZB.out]; refine RowK.wpList_app (k := kW) (B := w.heap.size) (v := .slice oa on oc) (l := outX (L.take j)) rfl (.tmp 42) (.tmp 45) rfl rfl (by rw [HON.out]; exact HOZ.out) (some ⟨zb, 0, none⟩) 1 [⟨⟨wk, wa, wb, ws⟩, wv, true⟩] 1 rfl rfl HVZ.out (fun e => by cases e) (by have := HOL.out; simp; omega) HBZ.out.size ?_; rintro v9 w9 h9; have H9 := Lib.hid h9; clear h9)
            refine ⟨⟨j + 1, by omega, by go_num, Lib.hid ⟨HBZ.out.trans (below_grownW HOZ.out (by have := H9.out.2.1; rw [HON.out] at this; exact this) HBZ.out.size), ?_⟩⟩, by simp [intOf]; omega⟩
            have hA := HAT.out
            simp at hA
            rw [HTK.out, hA]
            exact H9.out.1
        · simp only [Bool.not_true] at hq2
          cases wh <;> cases sh
          · go_wp2_with fail
            refine ⟨⟨j + 1, by omega, by go_num, Lib.hid ⟨HBV.out, ?_⟩⟩, by simp [intOf]; omega⟩
            have hA := HAT.out
            simp at hA
            rw [HTK.out, hA, List.append_nil, HON.out]
            exact HOV.out
          · go_upto_region 7 with fail
            obtain ⟨Z, hZ⟩ : ∃ Z, V.alloc (.cells #[.int .i64 wk, .int .i64 wa, .int .i64 wb, .string ws, .string wv, .bool false] 80) = Z := ⟨_, rfl⟩
            obtain ⟨zb, hzb⟩ : ∃ z, z = V.heap.size := ⟨_, rfl⟩
            have bZ : Below V.heap.size V Z := by rw [← hZ]; exact below_box _ _
            have eZ : Z.heap[zb]? = some (.cells #[.int .i64 wk, .int .i64 wa, .int .i64 wb, .string ws, .string wv, .bool false] 80) := by rw [← hZ, hzb]; exact heap_new _ _
            have HOZ := Lib.hid (HOV.out.below bZ)
            have HBZ := Lib.hid (below_then HBV.out bZ)
            have HVZ : Hid (kW.V Z (some ⟨zb, 0, none⟩) [⟨⟨wk, wa, wb, ws⟩, wv, false⟩]) := Lib.hid (fun _ => ⟨_, 0, rfl, RowK.new_at (k := kW) eZ rfl⟩)
            have HZ := Lib.hid hZ
            have HZB := Lib.hid hzb
            clear bZ eZ hZ hzb
            go_wp2_with (at_builtin; rw [HZ.out, ← HZB.out]; refine RowK.wpList_app (k := kW) (B := w.heap.size) (v := .slice oa on oc) (l := outX (L.take j)) rfl (.tmp 42) (.tmp 45) rfl rfl (by rw [HON.out]; exact HOZ.out) (some ⟨zb, 0, none⟩) 1 [⟨⟨wk, wa, wb, ws⟩, wv, false⟩] 1 rfl rfl HVZ.out (fun e => by cases e) (by have := HOL.out; simp; omega) HBZ.out.size ?_; rintro v9 w9 h9; have H9 := Lib.hid h9; clear h9)
            refine ⟨⟨j + 1, by omega, by go_num, Lib.hid ⟨HBZ.out.trans (below_grownW HOZ.out (by have := H9.out.2.1; rw [HON.out] at this; exact this) HBZ.out.size), ?_⟩⟩, by simp [intOf]; omega⟩
            have hA := HAT.out
            simp at hA
            rw [HTK.out, hA]
            exact H9.out.1
          · go_upto_region 7 with fail
            obtain ⟨Z, hZ⟩ : ∃ Z, V.alloc (.cells #[.int .i64 wk, .int .i64 wa, .int .i64 wb, .string ws, .string wv, .bool true] 80) = Z := ⟨_, rfl⟩
            obtain ⟨zb, hzb⟩ : ∃ z, z = V.heap.size := ⟨_, rfl⟩
            have bZ : Below V.heap.size V Z := by rw [← hZ]; exact below_box _ _
            have eZ : Z.heap[zb]? = some (.cells #[.int .i64 wk, .int .i64 wa, .int .i64 wb, .string ws, .string wv, .bool true] 80) := by rw [← hZ, hzb]; exact heap_new _ _
            have HOZ := Lib.hid (HOV.out.below bZ)
            have HBZ := Lib.hid (below_then HBV.out bZ)
            have HVZ : Hid (kW.V Z (some ⟨zb, 0, none⟩) [⟨⟨wk, wa, wb, ws⟩, wv, true⟩]) := Lib.hid (fun _ => ⟨_, 0, rfl, RowK.new_at (k := kW) eZ rfl⟩)
            have HZ := Lib.hid hZ
            have HZB := Lib.hid hzb
            clear bZ eZ hZ hzb
            go_wp2_with (at_builtin; rw [HZ.out, ← HZB.out]; refine RowK.wpList_app (k := kW) (B := w.heap.size) (v := .slice oa on oc) (l := outX (L.take j)) rfl (.tmp 42) (.tmp 45) rfl rfl (by rw [HON.out]; exact HOZ.out) (some ⟨zb, 0, none⟩) 1 [⟨⟨wk, wa, wb, ws⟩, wv, true⟩] 1 rfl rfl HVZ.out (fun e => by cases e) (by have := HOL.out; simp; omega) HBZ.out.size ?_; rintro v9 w9 h9; have H9 := Lib.hid h9; clear h9)
            refine ⟨⟨j + 1, by omega, by go_num, Lib.hid ⟨HBZ.out.trans (below_grownW HOZ.out (by have := H9.out.2.1; rw [HON.out] at this; exact this) HBZ.out.size), ?_⟩⟩, by simp [intOf]; omega⟩
            have hA := HAT.out
            simp at hA
            rw [HTK.out, hA]
            exact H9.out.1
          · go_wp2_with fail
            refine ⟨⟨j + 1, by omega, by go_num, Lib.hid ⟨HBV.out, ?_⟩⟩, by simp [intOf]; omega⟩
            have hA := HAT.out
            simp at hA
            rw [HTK.out, hA, List.append_nil, HON.out]
            exact HOV.out
    · obtain rfl : j = n := by omega
      go_wp2_with fail
      go_ret
      have hO := HI.out.o
      rw [HN.out, List.take_length] at hO
      exact ⟨_, rfl, hO, HI.out.b⟩
end Go.Proofs.Ytcghgnncmnoalaa
