/- The reference's arena: New, Many. Conditions: each contract's own premises. -/
import Derived.Test.YtfkckdfldalceaaRef5
import Derived.Test.YtfkckdfldalceaaArenaTurnsPlain
namespace Go.Proofs.Ytfkckdfldalceaa
open Go.RowKit Go.Maps

def RfPost (w0 w : World) (rb : Nat) (fv tv : Value) (F' T' : List (Int × Int)) (w' : World) : Prop :=
  ∃ fv' tv', RfC w0 w' rb fv' tv' F' T' ∧ Chg w w' (rfFp rb fv tv) ∧ ∀ k, rfFp rb fv' tv' k → rfFp rb fv tv k ∨ w.heap.size ≤ k

/-- one of the two fields gets a row that was appended to, or a new one -/
theorem RfC.setF {w0 w w1 w4 : World} {rb : Nat} {fv tv fv' : Value} {F T F' : List (Int × Int)} (h : RfC w0 w rb fv tv F T) (hb : Below w.heap.size w w1) (hg : w1.grownBy w4 fv.ownBlock) (hrow : w4.ownsRow w0.heap.size 30 2 fv' F'.length (hcells F')) (hi : ∀ p ∈ F', I64 p.1 ∧ I64 p.2)
    (hat : ∀ k, fv'.ownBlock = some k → fv.ownBlock = some k ∨ w.heap.size ≤ k) : RfC w0 (w4.setCell ⟨rb, 0, none⟩ fv') rb fv' tv F' T ∧ Chg w (w4.setCell ⟨rb, 0, none⟩ fv') (rfFp rb fv tv) ∧ ∀ k, rfFp rb fv' tv k → rfFp rb fv tv k ∨ w.heap.size ≤ k := by
  have s1 := hb.size
  have s2 := hg.size
  have keep : ∀ k, k < w.heap.size → fv.ownBlock ≠ some k → w4.heap[k]? = w.heap[k]? := fun k hk hn => (hg.block k (by omega) (fun e => hn e.symm)).trans (hb.block k hk)
  have hR := (keep rb h.ltR h.neF).trans h.blk
  have hfr : fv'.ownBlock ≠ some rb := fun e => by
    rcases hat rb e with e' | e'
    · exact h.neF e'
    · have := h.ltR; omega
  refine ⟨⟨by rw [blk_setCell hR]; rfl, ⟨ownsRow_of_block hrow (fun k hk => Below.heap_setCell _ _ _ _ (fun e => hfr (by rw [hk]; exact congrArg some e))), hi⟩, h.hT.of_block (fun k hk => ?_), ?_, ?_⟩, ?_, ?_⟩
  · rw [Below.heap_setCell _ _ _ _ (fun e => h.neT (by rw [hk]; exact congrArg some e))]
    exact keep k (h.hT.lt hk).2 (fun e => h.ne k e hk)
  · intro k hk hk'
    rcases hat k hk with e | e
    · exact h.ne k e hk'
    · have := (h.hT.lt hk').2; omega
  · rw [size_setCell]; have := h.base; omega
  · refine ⟨hg.os.trans hb.os, hg.tape.trans hb.tape, hg.output.trans hb.output, by rw [size_setCell]; omega, fun k hk hn => ?_⟩
    rw [Below.heap_setCell _ _ _ _ (fun e => hn (.inl e))]
    exact keep k hk (fun e => hn (.inr (.inl e)))
  · rintro k (e | e | e)
    · exact .inl (.inl e)
    · rcases hat k e with e' | e'
      · exact .inl (.inr (.inl e'))
      · exact .inr e'
    · exact .inl (.inr (.inr e))
theorem RfC.setT {w0 w w1 w4 : World} {rb : Nat} {fv tv tv' : Value} {F T T' : List (Int × Int)} (h : RfC w0 w rb fv tv F T) (hb : Below w.heap.size w w1) (hg : w1.grownBy w4 tv.ownBlock) (hrow : w4.ownsRow w0.heap.size 30 2 tv' T'.length (hcells T')) (hi : ∀ p ∈ T', I64 p.1 ∧ I64 p.2)
    (hat : ∀ k, tv'.ownBlock = some k → tv.ownBlock = some k ∨ w.heap.size ≤ k) : RfC w0 (w4.setCell ⟨rb, 1, none⟩ tv') rb fv tv' F T' ∧ Chg w (w4.setCell ⟨rb, 1, none⟩ tv') (rfFp rb fv tv) ∧ ∀ k, rfFp rb fv tv' k → rfFp rb fv tv k ∨ w.heap.size ≤ k := by
  have s1 := hb.size
  have s2 := hg.size
  have keep : ∀ k, k < w.heap.size → tv.ownBlock ≠ some k → w4.heap[k]? = w.heap[k]? := fun k hk hn => (hg.block k (by omega) (fun e => hn e.symm)).trans (hb.block k hk)
  have hR := (keep rb h.ltR h.neT).trans h.blk
  have hfr : tv'.ownBlock ≠ some rb := fun e => by
    rcases hat rb e with e' | e'
    · exact h.neT e'
    · have := h.ltR; omega
  refine ⟨⟨by rw [blk_setCell hR]; rfl, h.hF.of_block (fun k hk => ?_), ⟨ownsRow_of_block hrow (fun k hk => Below.heap_setCell _ _ _ _ (fun e => hfr (by rw [hk]; exact congrArg some e))), hi⟩, ?_, ?_⟩, ?_, ?_⟩
  · rw [Below.heap_setCell _ _ _ _ (fun e => h.neF (by rw [hk]; exact congrArg some e))]
    exact keep k (h.hF.lt hk).2 (fun e => h.ne k hk e)
  · intro k hk hk'
    rcases hat k hk' with e | e
    · exact h.ne k hk e
    · have := (h.hF.lt hk).2; omega
  · rw [size_setCell]; have := h.base; omega
  · refine ⟨hg.os.trans hb.os, hg.tape.trans hb.tape, hg.output.trans hb.output, by rw [size_setCell]; omega, fun k hk hn => ?_⟩
    rw [Below.heap_setCell _ _ _ _ (fun e => hn (.inl e))]
    exact keep k hk (fun e => hn (.inr (.inr e)))
  · rintro k (e | e | e)
    · exact .inl (.inl e)
    · exact .inl (.inr (.inl e))
    · rcases hat k e with e' | e'
      · exact .inl (.inr (.inr e'))
      · exact .inr e'

theorem firsts_succ (j : Nat) : firsts (j + 1) = firsts j ++ [((j : Int), 0)] := by simp [firsts, List.range_succ]
theorem firsts_i64 {n : Nat} (hn : n ≤ 1048576) : ∀ p ∈ firsts n, I64 p.1 ∧ I64 p.2 := by
  intro p hp
  simp [firsts] at hp
  obtain ⟨a, ha, rfl⟩ := hp
  exact ⟨by constructor <;> simp <;> omega, by constructor <;> simp⟩

def RNewRel (w : World) (N : Nat) (i : Value) (wr : World) : Prop :=
  ∃ (j : Nat) (fv : Value), j ≤ N ∧ i = .int .i64 j ∧ RfC w wr w.heap.size fv (.slice none 0 0) (firsts j) [] ∧ Below w.heap.size w wr

set_option maxRecDepth 100000 in
set_option maxHeartbeats 400000 in
theorem rnew_any (N : Nat) (w : World) (hN : N ≤ 1000) :
    Calls Try.prog 24 #[.int .i64 N] w fun e w' => ∃ fv, e = .returned (.pointer (some ⟨w.heap.size, 0, none⟩)) ∧ RfC w w' w.heap.size fv (.slice none 0 0) (firsts N) [] ∧ Below w.heap.size w w' := by
  go_enter Try.func24, Try.ntmps24
  go_wp2_with fail
  go_loopw [4] (fun i wr => RNewRel w N i wr) (fun i _ => N - (intOf i).toNat)
  case atStart => exact ⟨0, .slice none 0 0, Nat.zero_le _, rfl, ⟨heap_new w _, ⟨World.ownsRow_nil _ _ _ _, by simp [firsts]⟩, ⟨World.ownsRow_nil _ _ _ _, by simp⟩, by simp [Value.ownBlock], by simp⟩, (Below.refl _ _).alloc (Nat.le_refl _) _⟩
  case round =>
    obtain ⟨j, fv, hj, rfl, hR, hbw⟩ := hrel
    by_cases hjl : j < N
    · have c0 := cell_of_blk hR.blk 0
      simp at c0
      have lr := hR.ltR
      have hfl := firsts_length j
      have HFL := Lib.hid hfl
      clear hfl
      have HR := Lib.hid hR
      have hxi : I64 (j : Int) := by constructor <;> omega
      have h0i : I64 0 := by constructor <;> omega
      have k1 : (wr.alloc (.cells #[.int .i64 j, .int .i64 0] 30)).ownsRow w.heap.size 30 2 fv (firsts j).length (hcells (firsts j)) := hR.hF.row.alloc _
      have k2 : HsS (wr.alloc (.cells #[.int .i64 j, .int .i64 0] 30)) (.slice (some ⟨wr.heap.size, 0, none⟩) 1 1) [((j : Int), 0)] := HsS.one (heap_new wr _) hxi h0i
      have k3 : w.heap.size ≤ (wr.alloc (.cells #[.int .i64 j, .int .i64 0] 30)).heap.size := by rw [size_alloc]; have := hR.base; omega
      have k4 : (firsts j).length + [((j : Int), (0 : Int))].length ≤ 1099511627776 := by rw [HFL.out]; simp; omega
      have K1 := Lib.hid k1
      have K2 := Lib.hid k2
      have K3 := Lib.hid k3
      have K4 := Lib.hid k4
      clear k1 k2 k3 k4
      have hnF := hR.neF
      clear hR
      go_wp2_with (at_builtin; go_must (refine wpList_appH _ rfl _ _ rfl w.heap.size _ _ (firsts j) [((j : Int), 0)] rfl rfl K1.out K2.out K4.out K3.out ?_; intro v' w4 n4 HN4 hrow4 hgrow4 hat4; obtain ⟨g4, cap4, hv4⟩ := row_shape3 hrow4 (by rw [HN4.out]; simp); rw [hv4] at hrow4 hat4 ⊢; have hb4 : w4.heap[w.heap.size]? = _ := (hgrow4.block _ (by rw [size_alloc]; omega) (fun e => hnF e.symm)).trans ((Below.heap_alloc _ _ _ lr).trans HR.out.blk); have c4 := cell_of_blk hb4 0; have f4 := frozen_of_blk hb4 0; simp at c4; clear hb4))
      obtain rfl := HN4.out
      obtain ⟨R4, C4, _⟩ := HR.out.setF ((Below.refl _ _).alloc (Nat.le_refl _) _) hgrow4 hrow4 (by rw [← firsts_succ]; exact firsts_i64 (by omega)) (fun k hk => by
        rcases hat4 with e | e
        · exact .inl (e ▸ hk)
        · rw [e, size_alloc] at hk; cases hk; right; omega)
      refine ⟨⟨j + 1, _, by omega, by simp, by rw [firsts_succ]; exact R4, hbw.trans (C4.below hbw.size (fun k hk => ?_))⟩, by simp [intOf]; omega⟩
      rcases hk with e | e | e
      · omega
      · exact (HR.out.hF.lt e).1
      · simp [Value.ownBlock] at e
    · go_wp2_with fail
      go_ret
      obtain rfl : j = N := by omega
      exact ⟨fv, rfl, hR, hbw⟩
end Go.Proofs.Ytfkckdfldalceaa
