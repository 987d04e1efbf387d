/- The reference's arena (package cobwebref05): what it is in memory; Live. Conditions: each contract's own premises. -/
import Derived.Test.YtfkckdfldalceaaAppH
import Derived.Test.YtfkckdfldalceaaSame5
namespace Go.Proofs.Ytfkckdfldalceaa
open Go.RowKit Go.Maps

structure RfC (w0 w : World) (rb : Nat) (fv tv : Value) (F T : List (Int × Int)) : Prop where
  blk : w.heap[rb]? = some (.cells #[fv, tv] 53 (0, 0))
  hF : RowH w0 w fv F
  hT : RowH w0 w tv T
  ne : ∀ k, fv.ownBlock = some k → tv.ownBlock ≠ some k
  base : w0.heap.size ≤ w.heap.size

/-- the blocks that a reference's arena lies in -/
def rfFp (rb : Nat) (fv tv : Value) (k : Nat) : Prop := k = rb ∨ fv.ownBlock = some k ∨ tv.ownBlock = some k

section
variable {w0 w w' : World} {rb : Nat} {fv tv : Value} {F T : List (Int × Int)}
theorem RfC.ltR (h : RfC w0 w rb fv tv F T) : rb < w.heap.size := (Array.getElem?_eq_some_iff.1 h.blk).1
theorem RfC.lt (h : RfC w0 w rb fv tv F T) {k : Nat} (hk : rfFp rb fv tv k) : k < w.heap.size := by
  rcases hk with rfl | hk | hk
  · exact h.ltR
  · exact (h.hF.lt hk).2
  · exact (h.hT.lt hk).2
theorem RfC.keep (h : RfC w0 w rb fv tv F T) (hb : ∀ k, rfFp rb fv tv k → w'.heap[k]? = w.heap[k]?) (hs : w.heap.size ≤ w'.heap.size) : RfC w0 w' rb fv tv F T :=
  ⟨(hb _ (.inl rfl)).trans h.blk, h.hF.of_block (fun k hk => hb k (.inr (.inl hk))), h.hT.of_block (fun k hk => hb k (.inr (.inr hk))), h.ne, Nat.le_trans h.base hs⟩
theorem RfC.below (h : RfC w0 w rb fv tv F T) (hb : Below w.heap.size w w') : RfC w0 w' rb fv tv F T := h.keep (fun _ hk => hb.block _ (h.lt hk)) hb.size
theorem row_ne {v : Value} {l : List (Int × Int)} {b : Nat} {cs : Array Value} {t : TypeId} {z : Nat × Nat} (h : RowH w0 w v l) (hb : w.heap[b]? = some (.cells cs t z)) (ht : t ≠ 30) : v.ownBlock ≠ some b := by
  intro e
  rcases h.row.2 with ⟨rfl, _⟩ | ⟨g, cap, cur, rfl, _, hg, _⟩
  · simp [Value.ownBlock] at e
  · simp [Value.ownBlock] at e; subst e
    rw [hb] at hg
    simp at hg
    exact ht hg.2.1
theorem RfC.neF (h : RfC w0 w rb fv tv F T) : fv.ownBlock ≠ some rb := row_ne h.hF h.blk (by decide)
theorem RfC.neT (h : RfC w0 w rb fv tv F T) : tv.ownBlock ≠ some rb := row_ne h.hT h.blk (by decide)
end

def RLiveRel (w : World) (T : List (Int × Int)) (x g : Int) (i : Value) (wr : World) : Prop :=
  ∃ j : Nat, j ≤ T.length ∧ i = .int .i64 j ∧ Below w.heap.size w wr ∧ (T.take j).contains (x, g) = false

theorem contains_snoc {T : List (Int × Int)} {j : Nat} {p q : Int × Int} (he : T[j]? = some p) (h : (T.take j).contains q = false) (hne : p ≠ q) : (T.take (j + 1)).contains q = false := by
  obtain ⟨a, b⟩ := List.getElem?_eq_some_iff.1 he
  rw [List.take_succ_eq_append_getElem a, b]
  simp at h ⊢
  exact ⟨h, fun e => hne e.symm⟩

set_option maxRecDepth 100000 in
set_option maxHeartbeats 400000 in
theorem rlive_any (w0 w : World) (rb : Nat) (fv tv : Value) (F T : List (Int × Int)) (x g : Int) (h : RfC w0 w rb fv tv F T) (hl : T.length ≤ 1073741824) :
    Calls Try.prog 29 #[.pointer (some ⟨rb, 0, none⟩), .agg #[.int .i64 x, .int .i64 g]] w fun e w' => e = .returned (.bool (T.contains (x, g))) ∧ Below w.heap.size w w' := by
  obtain ⟨ta, tc, rfl⟩ := h.hT.shape
  have lr := h.ltR
  go_enter Try.func29, Try.ntmps29
  go_wp2_with fail
  go_loopw [5] (fun i wr => RLiveRel (w.alloc (.cells #[.int .i64 x, .int .i64 g] 30)) T x g i wr) (fun i _ => T.length - (intOf i).toNat)
  case atStart => exact ⟨0, Nat.zero_le _, rfl, Below.refl _ _, rfl⟩
  case round =>
    obtain ⟨j, hj, rfl, hbw, hpre⟩ := hrel
    have PRE := Lib.hid hpre
    clear hpre
    have hb0 : Below w.heap.size w wr := ((Below.refl w.heap.size w).alloc (Nat.le_refl _) _).trans (hbw.mono (by simp))
    have R := h.below hb0
    have c1 := cell_of_blk R.blk 1
    simp at c1
    have hbx : wr.heap[w.heap.size]? = _ := (hbw.block _ (by simp)).trans (heap_new w _)
    have b0 := cell_of_blk hbx 0
    have b1 := cell_of_blk hbx 1
    simp at b0 b1
    clear hbx
    by_cases hjl : j < T.length
    · obtain ⟨tg, tc', hge⟩ := R.hT.shape_pos (by omega)
      obtain rfl : ta = some ⟨tg, 0, none⟩ := by simp only [Value.slice.injEq] at hge; exact hge.1
      obtain ⟨y, k, he⟩ : ∃ y k, T[j]? = some (y, k) := ⟨_, _, List.getElem?_eq_getElem hjl⟩
      obtain ⟨q0, q1⟩ := R.hT.at.cells j y k he
      simp only [Nat.zero_add] at q0 q1
      have HE := Lib.hid he
      have hj0 : (0 : Int) ≤ (j : Int) := by omega
      have hj1 : (j : Int) < (T.length : Int) := by omega
      clear he hge
      by_cases hxy : y = x ∧ k = g
      · obtain ⟨rfl, rfl⟩ := hxy
        go_wp2_with fail
        go_quiet (fail)
        go_wp2_with fail
        go_ret
        have e : T.contains (y, k) = true := by simpa using List.mem_of_getElem? HE.out
        exact ⟨by rw [e]; rfl, below_drewN hb0 _⟩
      · have hnx : (y, k) ≠ (x, g) := fun e => hxy (by simpa using e)
        have HN := Lib.hid hnx
        clear hnx
        by_cases hx : y = x
        · subst hx
          have hg : (k == g) = false := by rw [beq_eq_false_iff_ne]; exact fun e => hxy ⟨rfl, e⟩
          clear hxy
          go_wp2_with fail
          go_quiet (fail)
          go_wp2_with fail
          exact ⟨⟨j + 1, by omega, by simp, below_drewN hbw _, contains_snoc HE.out PRE.out HN.out⟩, by simp [intOf]; omega⟩
        · have hx' : (y == x) = false := by rw [beq_eq_false_iff_ne]; exact hx
          clear hxy hx
          go_wp2_with fail
          go_quiet (fail)
          go_wp2_with fail
          exact ⟨⟨j + 1, by omega, by simp, below_drewN hbw _, contains_snoc HE.out PRE.out HN.out⟩, by simp [intOf]; omega⟩
    · go_wp2_with fail
      go_ret
      have e : T.contains (x, g) = false := by have := PRE.out; rwa [List.take_of_length_le (by omega)] at this
      exact ⟨by rw [e]; rfl, hb0⟩
end Go.Proofs.Ytfkckdfldalceaa
