/- Reference 13: Get. Conditions: each contract's own premises. -/
import Derived.Test.YtcghgnncmnoalaaSx8
import Derived.Test.YtcghgnncmnoalaaRowL
namespace Go.Proofs.Ytcghgnncmnoalaa
open Go.RowKit Go.Maps

theorem sizeRx {x : Rx} : (Try.prog.info? 82).map (·.size) = some x.cells.length := by kernel_rfl
theorem sizeRx2 {x : Rx} : (Try.prog.info? 82).map (·.size) = some x.cells.toArray.size := by kernel_rfl
theorem oneRx (x : Rx) : x.cells.toArray.all (·.oneCell') = true := all_oneCell_toArray (kX.one x)
/-- what a row answers -/
def Rx.tx (x : Rx) : Tx := if x.wrote = true then ⟨x.w.val, x.w.has⟩ else ⟨x.s.val, x.s.has⟩
def Get13 (L : List Rx) (k : Ky) (w : World) (e : Ending) (w' : World) : Prop := ((∀ x ∈ L, x.k ≠ k) ∧ e = .returned (.tuple #[.string ByteArray.empty, .bool false, .bool false]) ∨ ∃ (j : Nat) (x : Rx), L[j]? = some x ∧ x.k = k ∧ e = .returned (.tuple #[.string x.tx.val, .bool x.tx.has, .bool true])) ∧ Below w.heap.size w w'
set_option maxRecDepth 100000 in
set_option maxHeartbeats 2000000 in
theorem r13Get_any {w : World} {rb B : Nat} {L : List Rx} (h : SrX w rb B L) (k : Ky) :
    Calls Try.prog 42 #[.pointer (some ⟨rb, 0, none⟩), .agg #[.int .i64 k.kind, .int .i64 k.a, .int .i64 k.b, .string k.s]] w (Get13 L k w) := by
  obtain ⟨a, cap, h1, h2, h3⟩ := h.ex
  obtain ⟨W, hW⟩ : ∃ W, w.alloc (.cells #[.int .i64 k.kind, .int .i64 k.a, .int .i64 k.b, .string k.s] 62) = W := ⟨_, rfl⟩
  obtain ⟨kb, hkb⟩ : ∃ x, x = w.heap.size := ⟨_, rfl⟩
  have bW : Below w.heap.size w W := by rw [← hW]; exact below_box _ _
  have eW : W.heap[kb]? = some (.cells #[.int .i64 k.kind, .int .i64 k.a, .int .i64 k.b, .string k.s] 62) := by rw [← hW, hkb]; exact heap_new _ _
  have e1 := (bW.block _ (Array.getElem?_eq_some_iff.1 h1).1).trans h1
  have HS : Hid (SrX W rb B L) := Lib.hid ⟨⟨a, cap, e1, h2.below bW, h3⟩, h.n⟩
  have HNL := Lib.hid h.n
  obtain ⟨n, hn⟩ : ∃ n, n = L.length := ⟨_, rfl⟩
  rw [← hn] at e1 HNL
  have HR : Hid (L ≠ [] → ∃ b, a = some ⟨b, 0, none⟩ ∧ kX.At W b 0 L) := Lib.hid (fun hne => by
    obtain ⟨b, cp, e, _, _, hat⟩ := h2.at' hne
    injection e with e1 e2 e3
    exact ⟨b, e1, hat.below bW⟩)
  have v0 := cell_of_blk eW 0
  have v1 := cell_of_blk eW 1
  have v2 := cell_of_blk eW 2
  have v3 := cell_of_blk eW 3
  simp at v0 v1 v2 v3
  have HN := Lib.hid hn
  have HE1 := Lib.hid e1
  have HB := Lib.hid bW
  have HW := Lib.hid hW
  have HKB := Lib.hid hkb
  clear h h1 h2 h3 hn bW eW e1 hW hkb
  go_enter Try.func42, Try.ntmps42
  go_upto_region 1 with fail
  rw [HW.out, ← HKB.out]
  go_wp2_with fail
  refine (r13Find_any HS.out k).mono ?_
  rintro e w1 ⟨v, rfl, hv, b1⟩
  have HB1 := Lib.hid b1
  clear b1 v0 v1 v2 v3
  rcases hv with ⟨rfl, hno⟩ | ⟨j, x, rfl, hx, hxk⟩
  · have HNO := Lib.hid hno
    clear hno
    go_wp2_with fail
    go_ret3
    exact ⟨.inl ⟨HNO.out, rfl⟩, HB.out.trans (HB1.out.mono HB.out.size)⟩
  · have HX := Lib.hid hx
    have HXK := Lib.hid hxk
    have hjn : j < n := by rw [HN.out]; exact (List.getElem?_eq_some_iff.1 hx).1
    have hin' : (j : Int) < (n : Int) := by omega
    have hn0 : decide ((j : Int) < 0) = false := decide_eq_false (by omega)
    have hne : L ≠ [] := fun e => by rw [e] at hx; simp at hx
    obtain ⟨b, rfl, hat⟩ := HR.out hne
    have hat2 := hat.below HB1.out
    have q1 := cell_of_blk ((HB1.out.block _ (Array.getElem?_eq_some_iff.1 HE1.out).1).trans HE1.out) 0
    simp at q1
    have HLT := Lib.hid (Nat.lt_of_lt_of_le hat.lt HB1.out.size)
    have HRG : Hid (w1.rangeAt b (j * 21) x.cells) := Lib.hid (by have := hat2.range hx; rw [Nat.zero_add] at this; exact this)
    obtain ⟨xb, hxb⟩ : ∃ y, y = w1.heap.size := ⟨_, rfl⟩
    have HXB := Lib.hid hxb
    clear hat hat2 hne hx hxk hxb
    go_upto_region 5 with (first | (refine wpList_load_mid (op := ⟨some 20, _, _, _, _, _⟩) rfl 82 (.tmp 19) rfl b (j * 21) rfl x.cells _ HRG.out Try.underlying82 rfl sizeRx ?_) | (rw [← HXB.out]; refine wpList_store_new (op := ⟨none, _, _, _, _, _⟩) rfl 82 (.tmp 8) (.tmp 20) rfl _ x.cells.toArray xb HXB.out rfl rfl sizeRx2 rfl (oneRx x) ?_))
    clear q1
    obtain ⟨V, hV⟩ : ∃ V, w1.alloc (.cells x.cells.toArray 82) = V := ⟨_, rfl⟩
    have bV : Below w1.heap.size w1 V := by rw [← hV]; exact below_box _ _
    have eV : V.heap[xb]? = some (.cells x.cells.toArray 82) := by rw [← hV, HXB.out]; exact heap_new _ _
    have HFIN := Lib.hid (HB.out.trans ((HB1.out.trans (bV.mono HB1.out.size)).mono HB.out.size))
    have c1 := cell_of_blk eV 7
    have c2 := cell_of_blk eV 13
    have c3 := cell_of_blk eV 14
    have c4 := cell_of_blk eV 5
    have c5 := cell_of_blk eV 6
    simp [Rx.cells] at c1 c2 c3 c4 c5
    rw [hV]
    clear hV bV eV
    have HT : Hid (∀ q, x.wrote = q → x.tx = if q = true then ⟨x.w.val, x.w.has⟩ else ⟨x.s.val, x.s.has⟩) := Lib.hid (fun q hq => by unfold Rx.tx; rw [hq])
    obtain ⟨q, hq⟩ : ∃ q, x.wrote = q := ⟨_, rfl⟩
    have hT := HT.out q hq
    rw [hq] at c1
    clear hq HT
    cases q
    · have HT2 := Lib.hid hT
      clear hT
      go_wp2_with fail
      go_quiet (fail)
      go_wp2_with fail
      go_ret3
      exact ⟨.inr ⟨j, x, HX.out, HXK.out, by rw [HT2.out]; rfl⟩, below_drewN HFIN.out _⟩
    · have HT2 := Lib.hid hT
      clear hT
      go_wp2_with fail
      go_quiet (fail)
      go_wp2_with fail
      go_ret3
      exact ⟨.inr ⟨j, x, HX.out, HXK.out, by rw [HT2.out]; rfl⟩, below_drewN HFIN.out _⟩
end Go.Proofs.Ytcghgnncmnoalaa
