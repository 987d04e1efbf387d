/- The reference's arena: Many. Conditions: each contract's own premises. -/
import Derived.Test.YtfkckdfldalceaaRef5b
namespace Go.Proofs.Ytfkckdfldalceaa
open Go.RowKit Go.Maps

theorem rmany_neg (n : Int) (w : World) (p : Value) (hn : n < 0) : Calls Try.prog 25 #[p, .int .i64 n] w fun e w' => e = .returned (.tuple #[.slice none 0 0, .int .i64 2]) ∧ w = w' := by
  go_enter Try.func25, Try.ntmps25
  go_wp2
  go_ret2
  exact ⟨rfl, rfl⟩

theorem rmany_full (w0 w : World) (rb : Nat) (fv tv : Value) (F T : List (Int × Int)) (n : Int) (h : RfC w0 w rb fv tv F T) (hn : 0 ≤ n) (hf : (F.length : Int) < n) :
    Calls Try.prog 25 #[.pointer (some ⟨rb, 0, none⟩), .int .i64 n] w fun e w' => e = .returned (.tuple #[.slice none 0 0, .int .i64 50]) ∧ w = w' := by
  obtain ⟨fa, fc, rfl⟩ := h.hF.shape
  have c0 := cell_of_blk h.blk 0
  simp at c0
  clear h
  go_enter Try.func25, Try.ntmps25
  go_wp2
  go_ret2
  exact ⟨rfl, rfl⟩

/-- a part of a row of handles -/
theorem HsS.take {w0 w : World} {g n cap q : Nat} {l : List (Int × Int)} (h : RowH w0 w (.slice (some ⟨g, 0, none⟩) n cap) l) (hq : q ≤ l.length) : HsS w (.slice (some ⟨g, 0, none⟩) q cap) (l.take q) := by
  refine ⟨fun p hp => h.i64 p (List.mem_of_mem_take hp), some ⟨g, 0, none⟩, cap, by rw [List.length_take, Nat.min_eq_left hq], .inr ⟨_, rfl, h.news_take rfl q⟩⟩
theorem HsS.drop {w0 w : World} {g n cap q : Nat} {l : List (Int × Int)} (h : RowH w0 w (.slice (some ⟨g, 0, none⟩) n cap) l) (hq : q ≤ l.length) (hc : l.length ≤ cap) : ∃ A : Addr, (if cap = q then some (⟨g, 0, none⟩ : Addr) else some ⟨g, q * 2, none⟩) = some A ∧ HsS w (.slice (some A) (l.length - q) (cap - q)) (l.drop q) := by
  by_cases hcq : cap = q
  · refine ⟨⟨g, 0, none⟩, by rw [if_pos hcq], fun p hp => h.i64 p (List.mem_of_mem_drop hp), _, _, by rw [List.length_drop], .inr ⟨_, rfl, fun j u hu => ?_⟩⟩
    rw [List.drop_eq_nil_of_le (by omega)] at hu
    simp [hcells] at hu
  · exact ⟨⟨g, q * 2, none⟩, by rw [if_neg hcq], fun p hp => h.i64 p (List.mem_of_mem_drop hp), _, _, by rw [List.length_drop], .inr ⟨_, rfl, h.news_drop rfl q⟩⟩
theorem RowH.cap {w0 w : World} {g n cap : Nat} {l : List (Int × Int)} (h : RowH w0 w (.slice (some ⟨g, 0, none⟩) n cap) l) : l.length ≤ cap := by
  rcases h.row.2 with ⟨e, _⟩ | ⟨_, _, _, e, _, _, h1, _⟩
  · cases e
  · simp only [Value.slice.injEq] at e; rw [e.2.2]; exact h1

def RManyPost (w0 w : World) (rb : Nat) (fv tv : Value) (F T : List (Int × Int)) (q : Nat) (e : Ending) (w' : World) : Prop :=
  ∃ rv fv' tv', e = .returned (.tuple #[rv, .int .i64 0]) ∧ RfC w0 w' rb fv' tv' (F.drop q) (T ++ F.take q) ∧ Chg w w' (rfFp rb fv tv) ∧ (∀ k, rfFp rb fv' tv' k → rfFp rb fv tv k ∨ w.heap.size ≤ k) ∧ RowH w0 w' rv (F.take q) ∧ (∀ k, rv.ownBlock = some k → w.heap.size ≤ k ∧ ¬ rfFp rb fv' tv' k)

theorem row_nil (w : World) (base : Nat) : w.ownsRow base 30 2 (.slice none 0 0) ([] : List (Int × Int)).length (hcells []) := World.ownsRow_nil _ _ _ _

theorem grown_any {w w' : World} (h : w.grownBy w' none) (r : Option Nat) : w.grownBy w' r := ⟨h.os, h.tape, h.output, h.size, fun k hk _ => h.block k hk (by simp)⟩
theorem grown_refl (w : World) (r : Option Nat) : w.grownBy w r := ⟨rfl, rfl, rfl, Nat.le_refl _, fun _ _ _ => rfl⟩

set_option maxRecDepth 100000 in
set_option maxHeartbeats 400000 in
theorem rmany_some (w0 w : World) (rb g fc : Nat) (tv : Value) (F T : List (Int × Int)) (q : Nat) (h : RfC w0 w rb (.slice (some ⟨g, 0, none⟩) F.length fc) tv F T) (hq : q ≤ F.length) (hFl : F.length ≤ 1073741824) (hTl : T.length ≤ 1073741824) :
    Calls Try.prog 25 #[.pointer (some ⟨rb, 0, none⟩), .int .i64 q] w (RManyPost w0 w rb (.slice (some ⟨g, 0, none⟩) F.length fc) tv F T q) := by
  have c0 := cell_of_blk h.blk 0
  have c1 := cell_of_blk h.blk 1
  have f0 := frozen_of_blk h.blk 0
  simp at c0 c1
  have lr := h.ltR
  have hcap := h.hF.cap
  have HH := Lib.hid h
  have k1 := HsS.take h.hF hq
  have K1 := Lib.hid k1
  have hb0 := h.base
  have hqc : q ≤ fc := by omega
  clear h k1
  go_enter Try.func25, Try.ntmps25
  go_upto_region 7 with (at_builtin; go_must (refine wpList_appH _ rfl _ _ rfl w0.heap.size (.slice none 0 0) (.slice (some ⟨g, 0, none⟩) q fc) [] (F.take q) rfl rfl (row_nil _ _) K1.out (by simp; omega) hb0 ?_; intro v1 w1 n1 HN1 hrow1 hgrow1 hat1; obtain ⟨a1, cap1, hv1⟩ := row_shape4 hrow1; rw [hv1] at hrow1 hat1 ⊢; clear hv1))
  have b1 : Below w.heap.size w w1 := (Below.refl _ _).grown hgrow1 (Nat.le_refl _) (by simp [Value.ownBlock])
  have nb1 : ∀ k, (Value.slice a1 n1 cap1).ownBlock = some k → w.heap.size ≤ k ∧ k < w1.heap.size := fun k hk => ⟨by
    rcases hat1 with e | e
    · rw [e] at hk; simp [Value.ownBlock] at hk
    · rw [e] at hk; cases hk; exact Nat.le_refl _, (hrow1.lt k hk).2⟩
  have R1 := HH.out.below b1
  have hr1 : RowH w0 w1 (.slice a1 n1 cap1) (F.take q) := ⟨by rw [show (F.take q).length = n1 from by rw [HN1.out]; simp]; simpa using hrow1, K1.out.i64⟩
  obtain ⟨A, hAdr, hd⟩ := HsS.drop R1.hF hq hcap
  have HDR := Lib.hid hd
  have HR1 := Lib.hid R1
  have d0 := cell_of_blk R1.blk 0
  have d1 := cell_of_blk R1.blk 1
  have g0 := frozen_of_blk R1.blk 0
  simp at d0 d1
  have z1 := R1.base
  have HR1r := Lib.hid hr1
  clear hd R1 hr1 hgrow1 hrow1 hat1 K1 c0 c1 f0
  go_upto_region 9 with (at_builtin; go_must (refine wpList_appH _ rfl _ _ rfl w0.heap.size (.slice none 0 0) (.slice (some A) (F.length - q) (fc - q)) [] (F.drop q) rfl rfl (row_nil _ _) HDR.out (by simp; omega) z1 ?_; intro v2 w2 n2 HN2 hrow2 hgrow2 hat2; obtain ⟨a2, cap2, hv2⟩ := row_shape4 hrow2; rw [hv2] at hrow2 hat2 ⊢; clear hv2))
  have b2 : Below w1.heap.size w1 w2 := (Below.refl _ _).grown hgrow2 (Nat.le_refl _) (by simp [Value.ownBlock])
  have nb2 : ∀ k, (Value.slice a2 n2 cap2).ownBlock = some k → w1.heap.size ≤ k := fun k hk => by
    rcases hat2 with e | e
    · rw [e] at hk; simp [Value.ownBlock] at hk
    · rw [e] at hk; cases hk; exact Nat.le_refl _
  have R2 := HR1.out.below b2
  have e2 : n2 = (F.drop q).length := by rw [HN2.out]; simp
  obtain ⟨R3, C3, P3⟩ := HR1.out.setF (Below.refl _ _) (grown_any hgrow2 _) (F' := F.drop q) (by rw [← e2]; simpa using hrow2) HDR.out.i64 (fun k hk => .inr (nb2 k hk))
  · have E2 := Lib.hid e2
    have B2 := Lib.hid b2
    have HR3 := Lib.hid R3
    have HP3 := Lib.hid P3
    have HC3 := Lib.hid C3
    have x0 := cell_of_blk R2.blk 0
    have x1 := cell_of_blk R2.blk 1
    have y0 := frozen_of_blk R2.blk 0
    have y1 := frozen_of_blk R2.blk 1
    simp at x0 x1
    have lr2 := R2.ltR
    clear e2 b2 R3 P3 C3 hrow2 hgrow2 hat2 HDR hAdr R2 d0 d1 g0
    go_upto_region 10 with (fail)
    have hv1r : RowH w0 (w2.setCell ⟨rb, 0, none⟩ (.slice a2 n2 cap2)) (.slice a1 n1 cap1) (F.take q) := HR1r.out.of_block (fun k hk => by
      rw [Below.heap_setCell _ _ _ _ (fun e => by have := (nb1 k hk).1; have := HH.out.ltR; simp at e; omega)]
      exact B2.out.block k (nb1 k hk).2)
    have HS1 := Lib.hid (HsS.row hv1r)
    have HV1 := Lib.hid hv1r
    have k5 := HR3.out.hT.row
    have K5 := Lib.hid k5
    have z3 := HR3.out.base
    have hnT := HR3.out.neT
    have hbk : (w2.setCell ⟨rb, 0, none⟩ (.slice a2 n2 cap2)).heap[rb]? = _ := HR3.out.blk
    have HBK := Lib.hid hbk
    have lr3 := HR3.out.ltR
    clear hv1r k5 hbk
    go_wp2_with (at_builtin; go_must (refine wpList_appH _ rfl _ _ rfl w0.heap.size tv (.slice a1 n1 cap1) T (F.take q) rfl rfl K5.out HS1.out (by simp; omega) z3 ?_; intro v4 w4 n4 HN4 hrow4 hgrow4 hat4; obtain ⟨a4, cap4, hv4⟩ := row_shape4 hrow4; rw [hv4] at hrow4 hat4 ⊢; have hb4 : w4.heap[rb]? = _ := (hgrow4.block _ lr3 (fun e => hnT e.symm)).trans HBK.out; have c4 := cell_of_blk hb4 1; have f4 := frozen_of_blk hb4 1; simp at c4; clear hv4 hb4))
    have e4 : n4 = (T ++ F.take q).length := HN4.out
    have s3 := HC3.out.size
    obtain ⟨R5, C5, P5⟩ := HR3.out.setT (Below.refl _ _) hgrow4 (T' := T ++ F.take q) (by rw [← e4]; exact hrow4) (fun p hp => by
      rcases List.mem_append.1 hp with hp | hp
      · exact HH.out.hT.i64 p hp
      · exact HV1.out.i64 p hp) (fun k hk => by
        rcases hat4 with e | e
        · exact .inl (e ▸ hk)
        · rw [e] at hk; cases hk; exact .inr (Nat.le_refl _))
    refine bodyPost_ret (v := .tuple #[.slice a1 n1 cap1, .int .i64 0]) ?_ rfl ⟨_, _, _, rfl, R5, ?_, ?_, ?_, ?_⟩
    · simp [results, Try.results25, go_sem]
    · exact (((Chg.of_below b1 _).trans HC3.out (fun i hi hf => hf)).trans C5 (fun i hi hf => by
        rcases HP3.out i hf with e | e
        · exact e
        · have := b1.size; omega))
    · intro k hk
      rcases P5 k hk with e | e
      · rcases HP3.out k e with e' | e'
        · exact .inl e'
        · right; have := b1.size; omega
      · right; have := b1.size; omega
    · refine HV1.out.of_block (fun k hk => ?_)
      have hkr := (nb1 k hk).1
      rw [Below.heap_setCell _ _ _ _ (fun e => by have := HH.out.ltR; simp at e; omega)]
      refine hgrow4.block k (HV1.out.lt hk).2 (fun e => ?_)
      have := (HH.out.hT.lt e.symm).2
      omega
    · intro k hk
      have hkr := nb1 k hk
      refine ⟨hkr.1, ?_⟩
      rintro (e | e | e)
      · have := HH.out.ltR; omega
      · have := nb2 k e; omega
      · rcases hat4 with e' | e'
        · have := (HH.out.hT.lt (e' ▸ e)).2; omega
        · rw [e'] at e; cases e; omega
end Go.Proofs.Ytfkckdfldalceaa
