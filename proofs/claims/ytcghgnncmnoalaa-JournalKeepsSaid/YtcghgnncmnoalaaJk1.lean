/- JournalKeeps: the plain law of a log that a crash cuts. Conditions: each lemma's own premises. -/
import Derived.Test.YtcghgnncmnoalaaBackPlain
namespace Go.Proofs.Ytcghgnncmnoalaa
open Go.RowKit Go.Maps

/-- what is sorted strictly is one list -/
theorem strict_one {α : Type} (key : α → Nat) : ∀ {a b : List α}, a.Perm b → a.Pairwise (fun x y => key x < key y) → b.Pairwise (fun x y => key x < key y) → a = b
  | [], b, h, _, _ => h.nil_eq
  | x :: a, [], h, _, _ => absurd h.length_eq (by simp)
  | x :: a, y :: b, h, h1, h2 => by
    obtain ⟨h1a, h1b⟩ := List.pairwise_cons.1 h1
    obtain ⟨h2a, h2b⟩ := List.pairwise_cons.1 h2
    have hxy : x = y := by
      rcases List.mem_cons.1 (h.subset (List.mem_cons_self ..)) with e | e
      · exact e
      · rcases List.mem_cons.1 (h.symm.subset (List.mem_cons_self ..)) with e2 | e2
        · exact e2.symm
        · have := h2a x e
          have := h1a y e2
          omega
    subst hxy
    rw [strict_one key (List.Perm.cons_inv h) h1b h2b]
theorem sortK_strict {α : Type} (key : α → Nat) {l : List α} (h : l.Pairwise (fun x y => key x < key y)) : Srt.sortK key l = l := by
  have hp := Srt.sortK_perm key l
  have ha := Srt.sortK_asc key l
  unfold Srt.Asc at ha
  refine strict_one key hp ?_ h
  -- all keys are different, so rising keys rise strictly
  have hne : (Srt.sortK key l).Pairwise (fun x y => key x ≠ key y) := by
    have h2 : l.Pairwise (fun x y => key x ≠ key y) := h.imp (fun h => by omega)
    exact (hp.pairwise_iff (fun {_ _} e => e.symm)).2 h2
  exact (ha.and hne).imp (fun h => by have := h.1; have := h.2; omega)
theorem compG_strict {α : Type} (key : α → Nat) : ∀ (p : α) (l : List α), (∀ y ∈ l, key p < key y) → l.Pairwise (fun x y => key x < key y) → Srt.compG (Srt.keq key) p l = l
  | p, [], _, _ => rfl
  | p, x :: l, h, hp => by
    obtain ⟨h1, h2⟩ := List.pairwise_cons.1 hp
    have hx := h x (List.mem_cons_self ..)
    unfold Srt.compG
    rw [if_neg (by unfold Srt.keq; simp; omega), compG_strict key x l h1 h2]
theorem compL_strict' {α : Type} (key : α → Nat) {l : List α} (h : l.Pairwise (fun x y => key x < key y)) : Srt.compL (Srt.keq key) l = l := by
  cases l with
  | nil => rfl
  | cons x l =>
    obtain ⟨h1, h2⟩ := List.pairwise_cons.1 h
    show x :: Srt.compG (Srt.keq key) x l = _
    rw [compG_strict key x l h1 h2]
/-- a record's epoch -/
def epR (r : Rc) : Nat := r.stamp / 2147483648
theorem lgOut_strict {s : Lg} (h : s.sure.Pairwise (fun x y => x.stamp < y.stamp)) (he : ∀ r ∈ s.sure, (epR r : Int) ≤ s.last) : lgOut s = s.sure := by
  unfold lgOut
  rw [sortK_strict Rc.stamp h]
  have : s.sure.filter (fun r => !decide (s.last < ((r.stamp / 2147483648 : Nat) : Int))) = s.sure := List.filter_eq_self.2 (fun r hr => by
    have := he r hr
    unfold epR at this
    simp
    omega)
  rw [this]
  exact compL_strict' Rc.stamp h
/-- how many records are sure in a state -/
structure KpS (zs : List Rc) (s : Lg) (E : Nat) : Prop where
  ex : ∃ c, c ≤ zs.length ∧ s.sure = zs.take c ∧ (∀ r ∈ zs.take c, (epR r : Int) ≤ s.last) ∧ ∀ r ∈ zs.drop c, s.last < (epR r : Int)
  la : s.last ≤ E
/-- the log so far: E epochs are marked -/
structure KpI (zs : List Rc) (items : List It) (E top : Nat) (l : List UInt8) : Prop where
  ok : itOk (-1) items
  bytes : l = items.flatMap itB
  all : (items.foldl itS lg0).all = zs
  pos : (items.foldl itS lg0).pos = l.length
  asc : zs.Pairwise (fun x y => x.stamp < y.stamp)
  low : ∀ r ∈ zs, r.stamp < top ∧ epR r ≤ E + 1
  pre : ∀ j, KpS zs ((items.take j).foldl itS lg0) E
  lastE : (items.foldl itS lg0).last = if E = 0 then (-1 : Int) else (E : Int)
theorem KpI.start : KpI [] [] 0 0 [] :=
  ⟨trivial, rfl, rfl, rfl, .nil, fun r hr => (by cases hr), fun j => ⟨⟨0, Nat.le_refl _, by rw [List.take_nil]; rfl, fun r hr => (by cases hr), fun r hr => (by cases hr)⟩, by rw [List.take_nil]; show (-1 : Int) ≤ _; omega⟩, rfl⟩
theorem KpI.mono {zs : List Rc} {items : List It} {E top top' : Nat} {l : List UInt8} (h : KpI zs items E top l) (ht : top ≤ top') : KpI zs items E top' l :=
  ⟨h.ok, h.bytes, h.all, h.pos, h.asc, fun r hr => ⟨Nat.lt_of_lt_of_le (h.low r hr).1 ht, (h.low r hr).2⟩, h.pre, h.lastE⟩
theorem take_snoc_cases {α : Type} (l : List α) (x : α) (j : Nat) : (l ++ [x]).take j = l.take j ∨ (l ++ [x]).take j = l ++ [x] := by
  by_cases h : j ≤ l.length
  · exact .inl (List.take_append_of_le_length h)
  · exact .inr (List.take_of_length_le (by simp; omega))
/-- a record -/
theorem KpI.put {zs : List Rc} {items : List It} {E top : Nat} {l : List UInt8} (h : KpI zs items E top l) (r : Rc) (hw : r.wrong = false) (hb : (bodyL r.stamp r.ws).length ≤ 1048576) (ht : top ≤ r.stamp) (he : epR r = E + 1) :
    KpI (zs ++ [r]) (items ++ [It.rc r]) E (r.stamp + 1) (l ++ packL 1 (bodyL r.stamp r.ws)) := by
  have hf : (items ++ [It.rc r]).foldl itS lg0 = itS (items.foldl itS lg0) (.rc r) := by rw [List.foldl_append]; rfl
  have hpre : ∀ s : Lg, KpS zs s E → KpS (zs ++ [r]) s E := fun s ⟨⟨c, c1, c2, c3, c4⟩, c5⟩ =>
    ⟨⟨c, by rw [List.length_append]; omega, by rw [List.take_append_of_le_length c1]; exact c2, by rw [List.take_append_of_le_length c1]; exact c3, fun y hy => by
      rw [List.drop_append_of_le_length c1] at hy
      rcases List.mem_append.1 hy with hy | hy
      · exact c4 y hy
      · obtain rfl : y = r := by simpa using hy
        rw [he]; omega⟩, c5⟩
  have hlast : KpS zs (items.foldl itS lg0) E := by have := h.pre items.length; rwa [List.take_length] at this
  refine ⟨itOk_snoc items (-1) lg0 _ rfl h.ok ⟨hw, hb, trivial⟩, by rw [List.flatMap_append, ← h.bytes]; simp [itB], ?_, ?_, ?_, fun y hy => ?_, fun j => ?_, by rw [hf]; exact h.lastE⟩
  · rw [hf]; show (items.foldl itS lg0).all ++ [r] = _; rw [h.all]
  · rw [hf, itS_pos, h.pos, List.length_append]; rfl
  · refine List.pairwise_append.2 ⟨h.asc, List.pairwise_singleton _ _, fun a ha b hb => ?_⟩
    obtain rfl : b = r := by simpa using hb
    have := (h.low a ha).1
    omega
  · rcases List.mem_append.1 hy with hy | hy
    · have := h.low y hy
      exact ⟨by omega, this.2⟩
    · obtain rfl : y = r := by simpa using hy
      exact ⟨by omega, by omega⟩
  · rcases take_snoc_cases items (It.rc r) j with e | e
    · rw [e]; exact hpre _ (h.pre j)
    · rw [e, hf]
      obtain ⟨⟨c, c1, c2, c3, c4⟩, c5⟩ := hpre _ hlast
      exact ⟨⟨c, c1, c2, c3, c4⟩, c5⟩
/-- a mark -/
theorem KpI.mark {zs : List Rc} {items : List It} {E top : Nat} {l : List UInt8} (h : KpI zs items E top l) (hE : E + 1 ≤ 2147483647) :
    KpI zs (items ++ [It.mk (E + 1)]) (E + 1) top (l ++ packL 2 (fourL (E + 1))) ∧ ((items ++ [It.mk (E + 1)]).foldl itS lg0).sure = zs ∧ (items.foldl itS lg0).last < ((E + 1 : Nat) : Int) := by
  have hf : (items ++ [It.mk (E + 1)]).foldl itS lg0 = itS (items.foldl itS lg0) (.mk (E + 1)) := by rw [List.foldl_append]; rfl
  have hla : (items.foldl itS lg0).last < ((E + 1 : Nat) : Int) := by rw [h.lastE]; split <;> omega
  have hpre : ∀ s : Lg, KpS zs s E → KpS zs s (E + 1) := fun s ⟨c, c5⟩ => ⟨c, by omega⟩
  refine ⟨⟨itOk_snoc items (-1) lg0 _ rfl h.ok ⟨hE, hla, trivial⟩, by rw [List.flatMap_append, ← h.bytes]; simp [itB], ?_, ?_, h.asc, fun y hy => ?_, fun j => ?_, by rw [hf]; show ((E + 1 : Nat) : Int) = _; rw [if_neg (by omega)]⟩, by rw [hf]; exact h.all, hla⟩
  · rw [hf]; exact h.all
  · rw [hf, itS_pos, h.pos, List.length_append]; rfl
  · have := h.low y hy
    exact ⟨this.1, by omega⟩
  · rcases take_snoc_cases items (It.mk (E + 1)) j with e | e
    · rw [e]; exact hpre _ (h.pre j)
    · rw [e, hf]
      refine ⟨⟨zs.length, Nat.le_refl _, by rw [List.take_length]; exact h.all, fun r hr => ?_, fun r hr => by rw [List.drop_length] at hr; cases hr⟩, Int.le_refl _⟩
      rw [List.take_length] at hr
      have := (h.low r hr).2
      show (epR r : Int) ≤ ((E + 1 : Nat) : Int)
      omega
/-- one step of a log's reading is one item -/
theorem it_step {items : List It} {l : List UInt8} (hok : itOk (-1) items) (hb : l = items.flatMap itB) {j : Nat} (hj : j ≤ items.length) {t : Lg} (hs : lgStep l ((items.take j).foldl itS lg0) = some t) : j < items.length ∧ t = (items.take (j + 1)).foldl itS lg0 := by
  have hpos : ∀ (m : List It) (s : Lg), (m.foldl itS s).pos = s.pos + (m.flatMap itB).length := by
    intro m
    induction m with
    | nil => intro s; simp
    | cons x m ih => intro s; rw [List.foldl_cons, ih, itS_pos, List.flatMap_cons, List.length_append]; omega
  have hpj : ((items.take j).foldl itS lg0).pos = ((items.take j).flatMap itB).length := by rw [hpos]; show 0 + _ = _; omega
  have hsp : l = (items.take j).flatMap itB ++ (items.drop j).flatMap itB := by rw [hb, ← List.flatMap_append, List.take_append_drop]
  by_cases hjl : j < items.length
  · refine ⟨hjl, ?_⟩
    have hok2 : ∀ (m n : List It) (s : Lg), itOk s.last (m ++ n) → itOk (m.foldl itS s).last n := by
      intro m
      induction m with
      | nil => intro n s h; exact h
      | cons x m ih =>
        intro n s h
        cases x with
        | rc r => exact ih n (itS s (.rc r)) h.2.2
        | mk k => exact ih n (itS s (.mk k)) h.2.2
    have h3 := hok2 (items.take j) (items.drop j) lg0 (by rw [List.take_append_drop]; exact hok)
    rw [List.drop_eq_getElem_cons hjl] at hsp h3
    rw [List.take_add_one, List.getElem?_eq_getElem hjl, List.foldl_append]
    rw [hsp, List.flatMap_cons] at hs
    cases hx : items[j] with
    | rc r =>
      rw [hx] at hs h3
      rw [lg_step_rc hpj h3.1 h3.2.1] at hs
      injection hs with hs
      exact hs.symm
    | mk k =>
      rw [hx] at hs h3
      rw [lg_step_mk hpj h3.1 h3.2.1] at hs
      injection hs with hs
      exact hs.symm
  · have hj2 : j = items.length := by omega
    subst hj2
    rw [List.take_length] at hs hpj
    have : lgStep l (items.foldl itS lg0) = none := by
      unfold lgStep
      rw [List.drop_eq_nil_of_le (by rw [hpj, hb]; exact Nat.le_refl _), if_pos tkE_nil]
    rw [this] at hs
    cases hs
theorem it_rch {items : List It} {l : List UInt8} (hok : itOk (-1) items) (hb : l = items.flatMap itB) {s t : Lg} (h : Rch l s t) : ∀ j, j ≤ items.length → s = (items.take j).foldl itS lg0 → ∃ k, k ≤ items.length ∧ t = (items.take k).foldl itS lg0 := by
  induction h with
  | refl s => exact fun j hj e => ⟨j, hj, e⟩
  | step h1 _ ih =>
    intro j hj e
    subst e
    obtain ⟨h2, h3⟩ := it_step hok hb hj h1
    exact ih (j + 1) h2 h3
theorem rch_it {items : List It} {l : List UInt8} (hok : itOk (-1) items) (hb : l = items.flatMap itB) : ∀ j, j ≤ items.length → Rch l lg0 ((items.take j).foldl itS lg0)
  | 0, _ => by rw [List.take_zero]; exact .refl _
  | j + 1, hj => by
    have ih := rch_it hok hb j (by omega)
    have hpos : ∀ (m : List It) (s : Lg), (m.foldl itS s).pos = s.pos + (m.flatMap itB).length := by
      intro m
      induction m with
      | nil => intro s; simp
      | cons x m ih => intro s; rw [List.foldl_cons, ih, itS_pos, List.flatMap_cons, List.length_append]; omega
    have hpj : ((items.take j).foldl itS lg0).pos = ((items.take j).flatMap itB).length := by rw [hpos]; show 0 + _ = _; omega
    have hsp : l = (items.take j).flatMap itB ++ (items.drop j).flatMap itB := by rw [hb, ← List.flatMap_append, List.take_append_drop]
    have hok2 : ∀ (m n : List It) (s : Lg), itOk s.last (m ++ n) → itOk (m.foldl itS s).last n := by
      intro m
      induction m with
      | nil => intro n s h; exact h
      | cons x m ih =>
        intro n s h
        cases x with
        | rc r => exact ih n (itS s (.rc r)) h.2.2
        | mk k => exact ih n (itS s (.mk k)) h.2.2
    have h3 := hok2 (items.take j) (items.drop j) lg0 (by rw [List.take_append_drop]; exact hok)
    rw [List.drop_eq_getElem_cons (by omega)] at hsp h3
    refine ih.snoc ?_
    rw [List.take_add_one, List.getElem?_eq_getElem (by omega), List.foldl_append, hsp, List.flatMap_cons]
    cases hx : items[j] with
    | rc r =>
      rw [hx] at h3
      exact lg_step_rc hpj h3.1 h3.2.1
    | mk k =>
      rw [hx] at h3
      exact lg_step_mk hpj h3.1 h3.2.1
/-- what a log that is cut says -/
theorem keeps_law {zs : List Rc} {items : List It} {E top c0 : Nat} {l : List UInt8} (h : KpI zs items E top l) {k j0 : Nat} (hk : k ≤ l.length) (hj0 : j0 ≤ items.length) (hp : ((items.take j0).foldl itS lg0).pos ≤ k) (hc0 : c0 ≤ zs.length) (hs : ((items.take j0).foldl itS lg0).sure = zs.take c0) :
    ∃ c, c0 ≤ c ∧ c ≤ zs.length ∧ lgOut (lgN (l.take k)) = zs.take c ∧ (∀ r ∈ zs.take c, (epR r : Int) ≤ (lgN (l.take k)).last) ∧ ∀ r ∈ zs.drop c, (lgN (l.take k)).last < (epR r : Int) := by
  obtain ⟨hT, _⟩ := lgN_rch (l.take k)
  obtain ⟨j, hj, ht⟩ := it_rch h.ok h.bytes hT.up 0 (Nat.zero_le _) rfl
  obtain ⟨⟨c, c1, c2, c3, c4⟩, _⟩ := h.pre j
  have h1 := rch_it h.ok h.bytes j0 hj0
  have h2 := rch_end (h1.down hp) (by rw [List.length_take]; omega)
  have h3 := (rch_more h2.up ((LgP.start l).rch h1)).2
  rw [ht] at h3 ⊢
  rw [hs, c2] at h3
  have hasc : (zs.take c).Pairwise (fun x y => x.stamp < y.stamp) := h.asc.sublist (List.take_sublist _ _)
  refine ⟨c, ?_, c1, ?_, c3, c4⟩
  · refine Classical.byContradiction fun hlt => ?_
    have hcl : c < zs.length := by omega
    have hm : zs[c] ∈ zs.take c0 := List.mem_take_iff_getElem.2 ⟨c, by omega, rfl⟩
    obtain ⟨i, hi, e⟩ := List.mem_take_iff_getElem.1 (h3 _ hm)
    have hic : i < c := by omega
    have := List.pairwise_iff_getElem.1 h.asc i c (by omega) hcl hic
    rw [e] at this
    omega
  · rw [lgOut_strict (by rw [c2]; exact hasc) (by rw [c2]; exact c3), c2]
end Go.Proofs.Ytcghgnncmnoalaa
