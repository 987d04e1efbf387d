/- What is cut off a log; what comes of its records: in plain words. Conditions: each lemma's own premises. -/
import Derived.Test.YtcghgnncmnoalaaLogPlain
namespace Go.Proofs.Ytcghgnncmnoalaa
open Go.RowKit Go.Maps

/-! which keys come out -/
namespace Srt
variable {α : Type} (key : α → Nat)
theorem compG_low' : ∀ (l : List α) (p : α), (∀ y ∈ l, key p ≤ key y) → Asc key l → (∀ y ∈ compG (keq key) p l, key p < key y) ∧ (compG (keq key) p l).Pairwise (fun a b => key a < key b)
  | [], p, _, _ => ⟨fun y hy => by simp [compG] at hy, List.Pairwise.nil⟩
  | x :: l, p, h, ha => by
    unfold Asc at ha
    rw [List.pairwise_cons] at ha
    obtain ⟨h1, h2⟩ := compG_low' l x ha.1 ha.2
    have hp := h x (by simp)
    unfold compG
    by_cases e : keq key x p = true
    · rw [if_pos e]
      have e' : key x = key p := by simpa [keq] using e
      exact ⟨fun y hy => by have := h1 y hy; omega, h2⟩
    · rw [if_neg e]
      have e' : key p < key x := by
        have : ¬ key x = key p := by simpa [keq] using e
        omega
      refine ⟨fun y hy => ?_, List.pairwise_cons.2 ⟨h1, h2⟩⟩
      rcases List.mem_cons.1 hy with rfl | hy
      · exact e'
      · have := h1 y hy; omega
theorem compL_strict {l : List α} (h : Asc key l) : (compL (keq key) l).Pairwise (fun a b => key a < key b) := by
  cases l with
  | nil => exact List.Pairwise.nil
  | cons x l =>
    unfold Asc at h
    rw [List.pairwise_cons] at h
    obtain ⟨h1, h2⟩ := compG_low' key l x h.1 h.2
    exact List.pairwise_cons.2 ⟨h1, h2⟩
theorem sortK_perm (l : List α) : (sortK key l).Perm l := by
  have : ∀ (l m : List α), (l.foldl (putK key) m).Perm (m ++ l) := by
    intro l
    induction l with
    | nil => intro m; simp
    | cons x l ih =>
      intro m
      rw [List.foldl_cons]
      refine (ih _).trans (((putK_perm key m x).append_right l).trans ?_)
      exact List.perm_middle.symm
  have := this l []
  simpa [sortK] using this
end Srt
theorem out_strict (s : Lg) : ((lgOut s).map Rc.stamp).Pairwise (· < ·) := by
  rw [List.pairwise_map]
  exact Srt.compL_strict Rc.stamp ((Srt.sortK_asc Rc.stamp s.sure).filter Rc.stamp _)
theorem out_any (s : Lg) (n : Nat) : n ∈ (lgOut s).map Rc.stamp ↔ ∃ r ∈ s.sure, r.stamp = n ∧ ((n / 2147483648 : Nat) : Int) ≤ s.last := by
  have h1 := Srt.compL_any Rc.stamp ((Srt.sortK_asc Rc.stamp s.sure).filter Rc.stamp (fun r => !decide (s.last < ((r.stamp / 2147483648 : Nat) : Int)))) n
  have h2 : (lgOut s).any (fun y => y.stamp == n) = true ↔ n ∈ (lgOut s).map Rc.stamp := by
    simp only [List.any_eq_true, beq_iff_eq, List.mem_map]
  rw [← h2]
  unfold lgOut
  rw [h1]
  simp only [List.any_eq_true, beq_iff_eq, List.mem_filter, Bool.not_eq_true', decide_eq_false_iff_not]
  constructor
  · rintro ⟨r, ⟨hr, hl⟩, e⟩
    exact ⟨r, (Srt.sortK_perm Rc.stamp s.sure).subset hr, e, by rw [← e]; omega⟩
  · rintro ⟨r, hr, e, hl⟩
    exact ⟨r, ⟨(Srt.sortK_perm Rc.stamp s.sure).symm.subset hr, by rw [e]; omega⟩, e⟩
theorem out_len (s : Lg) : (lgOut s).length ≤ s.sure.length := by
  unfold lgOut
  refine Nat.le_trans (Srt.compL_sublist Rc.stamp _).length_le (Nat.le_trans (List.length_filter_le _ _) ?_)
  rw [(Srt.sortK_perm Rc.stamp s.sure).length_eq]
  exact Nat.le_refl _
theorem out_le {s t : Lg} (h1 : ∀ r ∈ s.sure, r ∈ t.sure) (h2 : s.last ≤ t.last) : (lgOut s).length ≤ (lgOut t).length := by
  have := (Srt.sorted_eq (r := (· < ·)) (fun _ _ _ => Nat.lt_trans) (fun _ => Nat.lt_irrefl _) ((lgOut t).map Rc.stamp) ((lgOut s).map Rc.stamp) (out_strict s) (out_strict t) (fun n hn => by
    obtain ⟨r, hr, e, hl⟩ := (out_any s n).1 hn
    exact (out_any t n).2 ⟨r, h1 r hr, e, by omega⟩)).1
  simpa using this
/-! steps -/
inductive Rch (l : List UInt8) : Lg → Lg → Prop where
  | refl (s : Lg) : Rch l s s
  | step {s t u : Lg} : lgStep l s = some t → Rch l t u → Rch l s u
theorem Rch.snoc {l : List UInt8} {s t u : Lg} (h : Rch l s t) (h2 : lgStep l t = some u) : Rch l s u := by
  induction h with
  | refl s => exact .step h2 (.refl _)
  | step h1 _ ih => exact .step h1 (ih h2)
theorem step_tk {l : List UInt8} {s t : Lg} (h : lgStep l s = some t) : tkE (l.drop s.pos) = 0 ∧ t.pos = s.pos + (tkN (l.drop s.pos) + 10) ∧ lgB s (l.drop s.pos) (psB ((l.drop s.pos).getD 1 0) (tkB (l.drop s.pos))) = some t := by
  unfold lgStep at h
  split at h
  · cases h
  · rename_i hn
    refine ⟨by simpa using hn, ?_, h⟩
    unfold lgB at h
    split at h
    · cases h
    · injection h with h; rw [← h]
    · split at h
      · cases h
      · injection h with h; rw [← h]
theorem step_pos {l : List UInt8} {s t : Lg} (h : lgStep l s = some t) : s.pos + 10 ≤ t.pos ∧ t.pos ≤ l.length := by
  obtain ⟨h1, h2, _⟩ := step_tk h
  have := tk_len h1
  rw [List.length_drop] at this
  omega
theorem step_cases {l : List UInt8} {s t : Lg} (h : lgStep l s = some t) : (∃ r, t = ⟨s.all ++ [r], s.sure, s.last, s.cut, t.pos⟩) ∨ (∃ n : Nat, s.last < (n : Int) ∧ t = ⟨s.all, s.all, n, t.pos, t.pos⟩) := by
  obtain ⟨_, h2, h3⟩ := step_tk h
  unfold lgB at h3
  split at h3
  · cases h3
  · injection h3 with h3; exact .inl ⟨_, by rw [← h3]⟩
  · split at h3
    · cases h3
    · rename_i n _ hn
      injection h3 with h3; exact .inr ⟨n, by omega, by rw [← h3]⟩
theorem run_rch (m : List UInt8) : ∀ (k : Nat) (s : Lg), s.pos ≤ m.length → m.length < s.pos + k → Rch m s (lgRun m k s) ∧ lgStep m (lgRun m k s) = none
  | 0, s, h1, h2 => by omega
  | k + 1, s, h1, h2 => by
    unfold lgRun
    cases h : lgStep m s with
    | none => exact ⟨.refl _, h⟩
    | some t =>
      obtain ⟨p1, p2⟩ := step_pos h
      obtain ⟨r1, r2⟩ := run_rch m k t p2 (by omega)
      exact ⟨.step h r1, r2⟩
theorem rch_run {m : List UInt8} {s u : Lg} (h : Rch m s u) (hu : lgStep m u = none) : ∀ k, m.length < s.pos + k → s.pos ≤ m.length → lgRun m k s = u := by
  induction h with
  | refl s => intro k _ _; exact lgRun_stop hu
  | step h1 _ ih =>
    intro k h2 h3
    obtain ⟨p1, p2⟩ := step_pos h1
    rw [lgRun_step h1 (by omega)]
    exact ih hu _ (by omega) p2
def lg0 : Lg := ⟨[], [], -1, 0, 0⟩
theorem lgN_rch (l : List UInt8) : Rch l lg0 (lgN l) ∧ lgStep l (lgN l) = none := run_rch l _ lg0 (Nat.zero_le _) (by show _ < 0 + _; omega)
/-- the bytes of a block, seen in a part -/
theorem tk_take {M : List UInt8} {j : Nat} (h10 : 10 ≤ j) : tkN (M.take j) = tkN M ∧ (M.take j).getD 1 0 = M.getD 1 0 := by
  constructor
  · unfold tkN
    congr 1
    rw [List.drop_take, List.take_take, show min 4 (j - 2) = 4 by omega]
  · simp only [List.getD_eq_getElem?_getD, List.getElem?_take]
    rw [if_pos (by omega)]
theorem tk_take2 {M : List UInt8} {j : Nat} (hj : tkN M + 10 ≤ j) : tkB (M.take j) = tkB M ∧ (tkE (M.take j) = 0 ↔ tkE M = 0 ∨ (tkE (M.take j) = 0 ∧ M.length < tkN M + 10)) := by
  obtain ⟨hn, _⟩ := tk_take (M := M) (j := j) (by omega)
  have hB : tkB (M.take j) = tkB M := by
    unfold tkB
    rw [hn, List.drop_take, List.take_take, show min (tkN M) (j - 6) = tkN M by omega]
  refine ⟨hB, ?_⟩
  by_cases hl : M.length < tkN M + 10
  · constructor
    · intro h; exact .inr ⟨h, hl⟩
    · rintro (h | h)
      · have := tk_len h; omega
      · exact h.1
  · have e : tkE (M.take j) = tkE M := by
      have hlen : (M.take j).length = min j M.length := List.length_take
      have h0 : (M.take j = []) = (M = []) := by
        apply propext
        constructor
        · intro h; rw [h] at hlen; simp at hlen; exact List.eq_nil_of_length_eq_zero (by omega)
        · intro h; rw [h]; simp
      have h1 : (M.take j).getD 0 0 = M.getD 0 0 := by
        simp only [List.getD_eq_getElem?_getD, List.getElem?_take]
        rw [if_pos (by omega)]
      have h2 : ((M.take j).drop (tkN M + 6)).take 4 = (M.drop (tkN M + 6)).take 4 := by
        rw [List.drop_take, List.take_take, show min 4 (j - (tkN M + 6)) = 4 by omega]
      have h3 : (M.take j).take (tkN M + 6) = M.take (tkN M + 6) := by
        rw [List.take_take, show min (tkN M + 6) j = tkN M + 6 by omega]
      unfold tkE
      rw [hn, h1, h2, h3]
      simp only [h0]
      rw [if_neg (c := (M.take j).length < 6) (by omega), if_neg (c := M.length < 6) (by omega), if_neg (c := (M.take j).length < tkN M + 10) (by omega), if_neg (c := M.length < tkN M + 10) hl]
    rw [e]
    constructor
    · intro h; exact .inl h
    · rintro (h | h)
      · exact h
      · exact h.1
theorem step_up {l : List UInt8} {c : Nat} {s t : Lg} (h : lgStep (l.take c) s = some t) : lgStep l s = some t := by
  obtain ⟨h1, h2, h3⟩ := step_tk h
  have hl := tk_len h1
  rw [List.drop_take] at h1 h3 hl
  rw [List.length_take, List.length_drop] at hl
  have hj : 10 ≤ c - s.pos := by omega
  obtain ⟨n1, n2⟩ := tk_take (M := l.drop s.pos) hj
  rw [n1] at hl
  obtain ⟨b1, b2⟩ := tk_take2 (M := l.drop s.pos) (j := c - s.pos) (by omega)
  have h4 : tkE (l.drop s.pos) = 0 := by
    rcases b2.1 h1 with h | ⟨_, h⟩
    · exact h
    · rw [List.length_drop] at h; omega
  unfold lgStep
  rw [if_neg (by simp [h4]), ← h3, n2, b1]
  unfold lgB
  rw [n1]
theorem step_down {l : List UInt8} {c : Nat} {s t : Lg} (h : lgStep l s = some t) (hc : t.pos ≤ c) : lgStep (l.take c) s = some t := by
  obtain ⟨h1, h2, h3⟩ := step_tk h
  have hl := tk_len h1
  rw [List.length_drop] at hl
  have hj : tkN (l.drop s.pos) + 10 ≤ c - s.pos := by omega
  obtain ⟨n1, n2⟩ := tk_take (M := l.drop s.pos) (j := c - s.pos) (by omega)
  obtain ⟨b1, b2⟩ := tk_take2 (M := l.drop s.pos) hj
  have h4 := b2.2 (.inl h1)
  unfold lgStep
  rw [List.drop_take, if_neg (by simp [h4]), ← h3, n2, b1]
  unfold lgB
  rw [n1]
theorem Rch.up {l : List UInt8} {c : Nat} {s t : Lg} (h : Rch (l.take c) s t) : Rch l s t := by
  induction h with
  | refl s => exact .refl _
  | step h1 _ ih => exact .step (step_up h1) ih
theorem Rch.pos {l : List UInt8} {s t : Lg} (h : Rch l s t) : s.pos ≤ t.pos := by
  induction h with
  | refl s => exact Nat.le_refl _
  | step h1 _ ih => have := step_pos h1; omega
theorem Rch.down {l : List UInt8} {c : Nat} {s t : Lg} (h : Rch l s t) (hc : t.pos ≤ c) : Rch (l.take c) s t := by
  induction h with
  | refl s => exact .refl _
  | step h1 h2 ih => exact .step (step_down h1 (Nat.le_trans h2.pos hc)) (ih hc)
/-- where the log last was sure -/
def LgP (l : List UInt8) (s : Lg) : Prop := Rch l lg0 s ∧ (∃ u, Rch l lg0 u ∧ u.pos = u.cut ∧ u.cut = s.cut ∧ u.last = s.last ∧ u.sure = s.sure ∧ u.pos ≤ s.pos) ∧ s.sure <+: s.all ∧ (s.cut = 0 → s.last = -1 ∧ s.sure = []) ∧ -1 ≤ s.last
theorem LgP.step {l : List UInt8} {s t : Lg} (h : LgP l s) (hs : lgStep l s = some t) : LgP l t := by
  obtain ⟨h1, ⟨u, u1, u2, u3, u4, u5, u6⟩, h3, h4, h5⟩ := h
  have hp := step_pos hs
  rcases step_cases hs with ⟨r, e⟩ | ⟨n, hn, e⟩
  · refine ⟨h1.snoc hs, ⟨u, u1, u2, ?_, ?_, ?_, by omega⟩, ?_, ?_, ?_⟩
    · rw [e]; exact u3
    · rw [e]; exact u4
    · rw [e]; exact u5
    · rw [e]; exact h3.trans (List.prefix_append _ _)
    · rw [e]; exact h4
    · rw [e]; exact h5
  · refine ⟨h1.snoc hs, ⟨t, h1.snoc hs, by rw [e], rfl, rfl, rfl, Nat.le_refl _⟩, ?_, ?_, ?_⟩
    · rw [e]; exact List.prefix_refl _
    · intro h0
      rw [e] at h0
      have h0' : t.pos = 0 := h0
      omega
    · rw [e]; show -1 ≤ (n : Int); omega
theorem LgP.rch {l : List UInt8} {s t : Lg} (h : LgP l s) (hr : Rch l s t) : LgP l t := by
  induction hr with
  | refl s => exact h
  | step h1 _ ih => exact ih (h.step h1)
theorem LgP.start (l : List UInt8) : LgP l lg0 := ⟨.refl _, ⟨lg0, .refl _, rfl, rfl, rfl, rfl, Nat.le_refl _⟩, List.prefix_refl _, fun _ => ⟨rfl, rfl⟩, Int.le_refl _⟩
theorem rch_more {l : List UInt8} {s t : Lg} (hr : Rch l s t) : LgP l s → s.last ≤ t.last ∧ ∀ r ∈ s.sure, r ∈ t.sure := by
  induction hr with
  | refl s => exact fun _ => ⟨Int.le_refl _, fun _ h => h⟩
  | step h1 _ ih =>
    intro hp
    obtain ⟨i1, i2⟩ := ih (hp.step h1)
    rcases step_cases h1 with ⟨r, e⟩ | ⟨n, hn, e⟩
    · rw [e] at i1 i2
      exact ⟨i1, i2⟩
    · rw [e] at i1 i2
      have i1' : (n : Int) ≤ _ := i1
      exact ⟨by omega, fun r hr => i2 r (hp.2.2.1.subset hr)⟩
theorem Rch.trans {l : List UInt8} {s t u : Lg} (h : Rch l s t) (h2 : Rch l t u) : Rch l s u := by
  induction h with
  | refl s => exact h2
  | step h1 _ ih => exact .step h1 (ih h2)
theorem rch_end {l : List UInt8} {s : Lg} (h : Rch l lg0 s) (hp : s.pos ≤ l.length) : Rch l s (lgN l) := by
  obtain ⟨r1, r2⟩ := run_rch l (l.length + 1) s hp (by omega)
  have := rch_run (h.trans r1) r2 (l.length + 1) (by show _ < 0 + _; omega) (Nat.zero_le _)
  have e : lgN l = lgRun l (l.length + 1) s := this
  rw [e]; exact r1
theorem rch_in {l : List UInt8} {s t : Lg} (h : Rch l s t) : s.pos ≤ l.length → t.pos ≤ l.length := by
  induction h with
  | refl s => exact fun h => h
  | step h1 _ ih => exact fun _ => ih (step_pos h1).2
theorem lgOut_congr {s t : Lg} (h1 : s.sure = t.sure) (h2 : s.last = t.last) : lgOut s = lgOut t := by unfold lgOut; rw [h1, h2]
/-- a log that is cut -/
theorem cut_law (l : List UInt8) (k : Nat) (hk : k ≤ l.length) :
    (lgN (l.take k)).cut ≤ k ∧ (lgN (l.take (lgN (l.take k)).cut)).last = (lgN (l.take k)).last ∧ (lgN (l.take (lgN (l.take k)).cut)).cut = (lgN (l.take k)).cut ∧ lgOut (lgN (l.take (lgN (l.take k)).cut)) = lgOut (lgN (l.take k)) ∧
      (lgN (l.take k)).last ≤ (lgN l).last ∧ (lgOut (lgN (l.take k))).length ≤ (lgOut (lgN l)).length := by
  obtain ⟨hT, _⟩ := lgN_rch (l.take k)
  have hpT : (lgN (l.take k)).pos ≤ k := by
    have := rch_in hT (Nat.zero_le _)
    rw [List.length_take] at this; omega
  obtain ⟨_, ⟨u, u1, u2, u3, u4, u5, u6⟩, _, _, _⟩ := (LgP.start (l.take k)).rch hT
  have hl1 : LgP l (lgN (l.take k)) := (LgP.start l).rch hT.up
  have hend := rch_end hT.up (by omega)
  obtain ⟨m1, m2⟩ := rch_more hend hl1
  have hucut : u.pos = (lgN (l.take k)).cut := u2.trans u3
  have hd : Rch (l.take u.pos) lg0 u := u1.up.down (Nat.le_refl _)
  have hstop : lgStep (l.take u.pos) u = none := by
    unfold lgStep
    rw [List.drop_eq_nil_of_le (by rw [List.length_take]; omega), if_pos tkE_nil]
  have hN : lgN (l.take u.pos) = u := rch_run hd hstop _ (by show _ < 0 + _; omega) (Nat.zero_le _)
  rw [← hucut, hN]
  refine ⟨by omega, u4, ?_, lgOut_congr u5 u4, m1, out_le m2 m1⟩
  rw [hucut]; exact u3
theorem cut_none (l : List UInt8) (h : (lgN l).cut = 0) : (lgN l).last = -1 ∧ lgOut (lgN l) = [] := by
  obtain ⟨hT, _⟩ := lgN_rch l
  obtain ⟨_, _, _, h4, _⟩ := (LgP.start l).rch hT
  obtain ⟨e1, e2⟩ := h4 h
  refine ⟨e1, List.eq_nil_of_length_eq_zero ?_⟩
  have := out_len (lgN l)
  rw [e2] at this
  simpa using this
theorem cut_le (l : List UInt8) : (lgN l).cut ≤ l.length := by
  have := (cut_law l l.length (Nat.le_refl _)).1
  rwa [List.take_length] at this
theorem rch_len {l : List UInt8} {s t : Lg} (h : Rch l s t) : s.all.length ≤ s.pos → s.sure.length ≤ s.pos → t.all.length ≤ t.pos ∧ t.sure.length ≤ t.pos := by
  induction h with
  | refl s => exact fun h1 h2 => ⟨h1, h2⟩
  | step h1 _ ih =>
    intro h2 h3
    have hp := step_pos h1
    rcases step_cases h1 with ⟨r, e⟩ | ⟨n, hn, e⟩
    · have e1 := congrArg Lg.all e
      have e2 := congrArg Lg.sure e
      simp only [] at e1 e2
      refine ih ?_ ?_
      · rw [e1, List.length_append, List.length_singleton]; omega
      · rw [e2]; omega
    · have e1 := congrArg Lg.all e
      have e2 := congrArg Lg.sure e
      simp only [] at e1 e2
      refine ih ?_ ?_
      · rw [e1]; omega
      · rw [e2]; omega
theorem sure_len (l : List UInt8) : (lgN l).sure.length ≤ l.length := by
  have h1 := (rch_len (lgN_rch l).1 (Nat.le_refl _) (Nat.le_refl _)).2
  have h2 := rch_in (lgN_rch l).1 (Nat.zero_le _)
  omega
theorem last_ge (l : List UInt8) : -1 ≤ (lgN l).last := ((LgP.start l).rch (lgN_rch l).1).2.2.2.2
theorem cut_end (l : List UInt8) : (lgN (l.take (lgN l).cut)).last = (lgN l).last ∧ (lgN (l.take (lgN l).cut)).cut = (lgN l).cut ∧ lgOut (lgN (l.take (lgN l).cut)) = lgOut (lgN l) := by
  obtain ⟨_, h1, h2, h3, _⟩ := cut_law l l.length (Nat.le_refl _)
  rw [List.take_length] at h1 h2 h3
  exact ⟨h1, h2, h3⟩
end Go.Proofs.Ytcghgnncmnoalaa
