/- Layer 20: a transaction alone, step by step. Conditions: each lemma's own premises. Layer 20: a transaction, its store and a map of what it wants, side by side. Conditions: each lemma's own premises. Layer 20: from what was fetched and put to what is committed alone. Conditions: each lemma's own premises. -/
import Derived.Test.YtonilojjahfboaaOcU
namespace Go.Proofs.Ytonilojjahfboaa
open Go.RowKit Go.Maps

/-- what one commits alone: keys to write, their values, keys read, the stamp -/
structure Al where
  kw : List Ky
  vf : Ky → ByteArray
  kr : List Ky
  st : Nat
def Al.W (A : Al) : List Wr := A.kw.map (fun k => ⟨k, A.vf k, true⟩)
def lkC : Cl := ⟨0, true, true, ⟨#[]⟩, 7⟩
def Al.inC (A : Al) (k : Ky) : Cl := ⟨A.st, false, false, A.vf k, 7⟩
/-- where one is behind so many steps -/
def Al.ph (A : Al) (j : Nat) : Int × Nat :=
  if j < A.kw.length then (1, j)
  else if j = A.kw.length then (2, 0)
  else if j ≤ A.kw.length + A.kr.length then (3, j - A.kw.length - 1)
  else if j < A.kr.length + 2 * A.kw.length + 1 then (4, j - A.kw.length - A.kr.length - 1)
  else (5, 0)
def Al.T (A : Al) (j : Nat) : Tn := ⟨7, (A.ph j).1, A.W, A.W, A.kr, (A.ph j).2, 0, if j ≤ A.kw.length then 0 else A.st, A.kr.length + j⟩
open Classical in
noncomputable def Al.g (A : Al) (j : Nat) (k : Ky) : Option Cl :=
  if k ∈ A.kw.take (j - A.kw.length - A.kr.length - 1) then some (A.inC k) else if k ∈ A.kw.take j then some lkC else none
structure Al.Ok (A : Al) (P : Ps) (last : Nat) : Prop where
  ok : ∀ k ∈ A.kr, k.Ok
  sub : ∀ k ∈ A.kw, k ∈ A.kr
  nd : A.kw.Nodup
  len : A.kr.length ≤ 40 ∧ A.kw.length ≤ 40
  seen : ∀ k ∈ A.kr, P.gs k = some ⟨0, ⟨#[]⟩, false⟩
  vals : ∀ k, (A.vf k).size ≤ maxLen
  st : A.st = (nextW (mo last) 5).1
structure Al.S (A : Al) (j : Nat) (s : Sto) : Prop where
  g : s.g = A.g j
  cnt : s.cnt = min j A.kw.length
  c : s.c = 0
  room : s.ar.room = 100
section
variable {A : Al} {P : Ps} {last : Nat}
theorem Al.W_len (A : Al) : A.W.length = A.kw.length := by unfold Al.W; simp
theorem Al.W_nil (A : Al) : A.W = [] ↔ A.kw = [] := by unfold Al.W; simp
theorem Al.W_at {i : Nat} {k : Ky} (h : A.kw[i]? = some k) : A.W[i]? = some ⟨k, A.vf k, true⟩ := by unfold Al.W; rw [List.getElem?_map, h]; rfl
theorem next5 (x : Nat) (_hx : Sm x) : ((nextW x 5).2 = 0 ∧ 0 < (nextW x 5).1 ∧ Sm (nextW x 5).1) ∨ (nextW x 5).2 = 40 := by
  unfold nextW
  rw [if_neg (by omega)]
  split
  · exact .inr rfl
  · refine .inl ⟨rfl, ?_, ?_⟩
    · show 0 < max _ _
      simp
      omega
    · rename_i h
      unfold Sm at *
      show max _ _ < _
      simp at h ⊢
      omega
theorem take_mem_succ {α : Type} {l : List α} {i : Nat} {x y : α} (h : l[i]? = some x) : y ∈ l.take (i + 1) ↔ y ∈ l.take i ∨ y = x := by
  rw [List.take_add_one, h, List.mem_append]
  simp
theorem nd_take {α : Type} {l : List α} (hn : l.Nodup) {i : Nat} {x : α} (h : l[i]? = some x) : x ∉ l.take i := fun hm => by
  obtain ⟨j, hj⟩ := List.mem_iff_getElem?.1 hm
  rw [List.getElem?_take] at hj
  split at hj
  · rename_i hji
    have h1 := List.pairwise_iff_getElem.1 hn j i (List.getElem?_eq_some_iff.1 hj).1 (List.getElem?_eq_some_iff.1 h).1 hji
    rw [(List.getElem?_eq_some_iff.1 hj).2, (List.getElem?_eq_some_iff.1 h).2] at h1
    exact h1 rfl
  · cases hj
variable {j : Nat}
theorem Al.T_lock (h : j < A.kw.length) : A.T j = ⟨7, 1, A.W, A.W, A.kr, j, 0, 0, A.kr.length + j⟩ := by
  unfold Al.T Al.ph
  rw [if_pos h, if_pos (by omega)]
theorem Al.T_take : A.T A.kw.length = ⟨7, 2, A.W, A.W, A.kr, 0, 0, 0, A.kr.length + A.kw.length⟩ := by
  unfold Al.T Al.ph
  rw [if_neg (by omega), if_pos rfl, if_pos (by omega)]
theorem Al.T_check (h1 : A.kw.length < j) (h2 : j ≤ A.kw.length + A.kr.length) : A.T j = ⟨7, 3, A.W, A.W, A.kr, j - A.kw.length - 1, 0, A.st, A.kr.length + j⟩ := by
  unfold Al.T Al.ph
  rw [if_neg (by omega), if_neg (by omega), if_pos h2, if_neg (by omega)]
theorem Al.T_inst (h1 : A.kw.length + A.kr.length < j) (h2 : j < A.kr.length + 2 * A.kw.length + 1) : A.T j = ⟨7, 4, A.W, A.W, A.kr, j - A.kw.length - A.kr.length - 1, 0, A.st, A.kr.length + j⟩ := by
  unfold Al.T Al.ph
  rw [if_neg (by omega), if_neg (by omega), if_neg (by omega), if_pos h2, if_neg (by omega)]
theorem Al.T_end (h : j = A.kr.length + 2 * A.kw.length + 1) : A.T j = ⟨7, 5, A.W, A.W, A.kr, 0, 0, A.st, A.kr.length + j⟩ := by
  unfold Al.T Al.ph
  rw [if_neg (by omega), if_neg (by omega), if_neg (by omega), if_neg (by omega), if_neg (by omega)]
theorem nil_of_len {α : Type} {l : List α} (h : l.length = 0) : l = [] := List.eq_nil_of_length_eq_zero h
theorem len_of_ne {α : Type} {l : List α} (h : l ≠ []) : 0 < l.length := List.length_pos_iff.2 h
theorem Al.Ok.le (h : A.Ok P last) : A.kr = [] → A.kw = [] := fun e => by
  cases hk : A.kw with
  | nil => rfl
  | cons k l =>
    have := h.sub k (by rw [hk]; exact List.mem_cons_self)
    rw [e] at this
    cases this
theorem Al.next_lock (h : j < A.kw.length) : upN 0 (doneT { A.T j with most := max (A.T j).most 0 } (A.T j).W.length 2) = A.T (j + 1) := by
  rw [Al.T_lock h]
  unfold upN doneT toT phT
  simp only [A.W_len, if_pos]
  by_cases he : j + 1 = A.kw.length
  · rw [if_pos he, he, Al.T_take]
    simp
    omega
  · rw [if_neg he, Al.T_lock (by omega)]
    simp
    omega
theorem Al.next_take (h : A.Ok P last) : upN 0 (toT { A.T A.kw.length with st := A.st } 3) = A.T (A.kw.length + 1) := by
  rw [Al.T_take]
  unfold upN toT phT
  by_cases hr : A.kr = []
  · have hw := h.le hr
    have h1 : A.W = [] := A.W_nil.2 hw
    rw [Al.T_end (by rw [hr, hw]; rfl)]
    simp [hr, h1]
  · have := len_of_ne hr
    rw [Al.T_check (by omega) (by omega)]
    simp [hr]
    omega
theorem Al.next_check (h1 : A.kw.length < j) (h2 : j ≤ A.kw.length + A.kr.length) : upN 0 (doneT (A.T j) (A.T j).R.length 4) = A.T (j + 1) := by
  rw [Al.T_check h1 h2]
  unfold upN doneT toT phT
  by_cases he : j - A.kw.length - 1 + 1 = A.kr.length
  · rw [if_pos he]
    by_cases hw : A.kw = []
    · have h3 : A.W = [] := A.W_nil.2 hw
      have h4 : A.kw.length = 0 := by rw [hw]; rfl
      rw [Al.T_end (by omega)]
      simp [h3]
      omega
    · have h3 : A.W ≠ [] := fun e => hw (A.W_nil.1 e)
      have h4 := len_of_ne hw
      rw [Al.T_inst (by omega) (by omega)]
      simp [h3]
      omega
  · rw [if_neg he, Al.T_check (by omega) (by omega)]
    simp
    omega
theorem Al.next_inst (h1 : A.kw.length + A.kr.length < j) (h2 : j < A.kr.length + 2 * A.kw.length + 1) : upN 0 (doneT (A.T j) (A.T j).W.length 5) = A.T (j + 1) := by
  rw [Al.T_inst h1 h2]
  unfold upN doneT toT phT
  simp only [A.W_len]
  by_cases he : j - A.kw.length - A.kr.length - 1 + 1 = A.kw.length
  · rw [if_pos he, Al.T_end (by omega)]
    simp
    omega
  · rw [if_neg he, Al.T_inst (by omega) (by omega)]
    simp
    omega
variable {u : World} {a : Ta} {s : Sto}
theorem Al.mo_nil (A : Al) (j : Nat) : (A.T j).most = 0 := rfl
theorem Al.g_lock (_hA : A.Ok P last) {k : Ky} (h : j < A.kw.length) (hk : A.kw[j]? = some k) : setG (A.g j) k (some lkC) = A.g (j + 1) := by
  funext x
  have e1 : j - A.kw.length - A.kr.length - 1 = 0 := by omega
  have e2 : j + 1 - A.kw.length - A.kr.length - 1 = 0 := by omega
  unfold Al.g
  rw [e1, e2]
  by_cases hx : x = k
  · subst hx
    rw [setG_same, if_neg (by simp), if_pos ((take_mem_succ hk).2 (.inr rfl))]
  · have h0 : x ∉ A.kw.take 0 := by simp
    rw [setG_other _ _ hx, if_neg h0, if_neg h0]
    by_cases hm : x ∈ A.kw.take j
    · rw [if_pos hm, if_pos ((take_mem_succ hk).2 (.inl hm))]
    · rw [if_neg hm, if_neg (fun h => ((take_mem_succ hk).1 h).elim hm hx)]
theorem Al.g_mid {j' : Nat} (h1 : A.kw.length ≤ j) (h2 : j ≤ A.kw.length + A.kr.length + 1) (h3 : A.kw.length ≤ j') (h4 : j' ≤ A.kw.length + A.kr.length + 1) : A.g j = A.g j' := by
  funext x
  unfold Al.g
  rw [show j - A.kw.length - A.kr.length - 1 = 0 by omega, show j' - A.kw.length - A.kr.length - 1 = 0 by omega, List.take_of_length_le h1, List.take_of_length_le h3]
theorem Al.g_inst (hA : A.Ok P last) {k : Ky} {i : Nat} (hi : j = A.kw.length + A.kr.length + 1 + i) (hk : A.kw[i]? = some k) : A.g j k = some lkC ∧ setG (A.g j) k (some (A.inC k)) = A.g (j + 1) := by
  have e1 : j - A.kw.length - A.kr.length - 1 = i := by omega
  have e2 : j + 1 - A.kw.length - A.kr.length - 1 = i + 1 := by omega
  have hm : k ∈ A.kw := List.mem_of_getElem? hk
  have ht : A.kw.take j = A.kw := List.take_of_length_le (by omega)
  have ht2 : A.kw.take (j + 1) = A.kw := List.take_of_length_le (by omega)
  refine ⟨?_, ?_⟩
  · unfold Al.g
    rw [e1, if_neg (nd_take hA.nd hk), ht, if_pos hm]
  · funext x
    unfold Al.g
    rw [e2, ht2]
    by_cases hx : x = k
    · subst hx
      rw [setG_same, if_pos ((take_mem_succ hk).2 (.inr rfl))]
    · rw [setG_other _ _ hx, e1, ht]
      by_cases h9 : x ∈ A.kw.take i
      · rw [if_pos h9, if_pos ((take_mem_succ hk).2 (.inl h9))]
      · rw [if_neg h9, if_neg (fun h => ((take_mem_succ hk).1 h).elim h9 hx)]
/-- one step of a transaction alone -/
theorem alone_step (hA : A.Ok P last) (hl : last < 18446744073709551616) (hst : A.kw.length ≤ j → (nextW (mo last) 5).2 = 0) (hj : j < A.kr.length + 2 * A.kw.length + 1) (h : OcA u a (A.T j) P s) (hs : A.S j s) :
    Calls Try.prog 13 #[.pointer (some ⟨a.m.tb, 0, none⟩), .int .u64 last, .int .i64 5] u fun e w' => ∃ ph : Int, e = .returned (.tuple #[.int .i64 ph, .int .i64 0]) ∧ ∃ s', A.S (j + 1) s' ∧ OcA w' a (A.T (j + 1)) P s' ∧ OcT u w' a a s s' := by
  have hlen := hA.len
  have hs01 : A.kw.length ≤ j → 0 < A.st ∧ Sm A.st := fun hw => by
    rcases next5 (mo last) (mo_lt last) with h | h
    · rw [hA.st]; exact h.2
    · rw [hst hw] at h; cases h
  have h7 : I64 7 := ⟨by decide, by decide⟩
  rcases Nat.lt_or_ge j A.kw.length with h1 | h1
  · obtain ⟨k, hk⟩ : ∃ k, A.kw[j]? = some k := ⟨_, List.getElem?_eq_getElem h1⟩
    have hko := hA.ok k (hA.sub k (List.mem_of_getElem? hk))
    have hT := Al.T_lock h1
    have hgn : s.g k = none := by
      rw [hs.g]
      unfold Al.g
      rw [show j - A.kw.length - A.kr.length - 1 = 0 by omega, if_neg (by simp), if_neg (nd_take hA.nd hk)]
    refine ((step_lock (x := ⟨k, A.vf k, true⟩) h last 5 (by rw [hT]) (by rw [hT]; exact Al.W_at hk) hko (by rw [hT]; exact h7) (by rw [hT]; show (0 : Nat) < _; decide) (by rw [hT]; show j ≤ _; omega) (by rw [hT]; show A.kr.length + j ≤ _; omega)).1 hgn (by rw [hs.cnt, hs.room]; omega)).mono ?_
    rintro e w' ⟨q1, s', ⟨q2, q3, q4⟩, q5, q6⟩
    rw [Al.next_lock h1] at q1 q5
    refine ⟨_, q1, s', ⟨?_, ?_, by rw [q4, hs.c], by rw [q6.room, hs.room]⟩, q5, q6⟩
    · rw [q2, hs.g]
      have : (A.T j).who = 7 := rfl
      rw [this]
      exact Al.g_lock hA h1 hk
    · rw [q3, hs.cnt]; omega
  rcases Nat.eq_or_lt_of_le h1 with h1 | h1
  · subst h1
    have hT := Al.T_take (A := A)
    have hmo0 : max (mo last) 0 = mo last := by omega
    have hsn : stN (A.T A.kw.length) last 5 = nextW (mo last) 5 := by
      unfold stN
      rw [Al.mo_nil, hmo0]
    refine ((step_take h last 5 (by rw [hT]) hl (by rw [hT]; show (0 : Nat) < _; decide) (by rw [hT]; show A.kr.length + A.kw.length ≤ _; omega)).1 (by rw [hsn]; exact hst (Nat.le_refl _))).mono ?_
    rintro e w' ⟨q1, s', rfl, q5, q6⟩
    rw [hsn, ← hA.st, Al.next_take hA] at q1 q5
    exact ⟨_, q1, s', ⟨by rw [hs.g]; exact Al.g_mid (by omega) (by omega) (by omega) (by omega), by rw [hs.cnt]; omega, hs.c, hs.room⟩, q5, q6⟩
  rcases Nat.lt_or_ge (A.kw.length + A.kr.length) j with h2 | h2
  · obtain ⟨i, hi⟩ : ∃ i, j = A.kw.length + A.kr.length + 1 + i := ⟨j - (A.kw.length + A.kr.length + 1), by omega⟩
    have hiw : i < A.kw.length := by omega
    obtain ⟨k, hk⟩ : ∃ k, A.kw[i]? = some k := ⟨_, List.getElem?_eq_getElem hiw⟩
    have hko := hA.ok k (hA.sub k (List.mem_of_getElem? hk))
    have hT := Al.T_inst h2 hj
    have hii : j - A.kw.length - A.kr.length - 1 = i := by omega
    rw [hii] at hT
    obtain ⟨g1, g2⟩ := Al.g_inst hA hi hk
    obtain ⟨hs0, hs1⟩ := hs01 (by omega)
    refine (step_install (x := ⟨k, A.vf k, true⟩) h last 5 (by rw [hT]) (by rw [hT]; exact Al.W_at hk) hko (y := lkC) (by rw [hs.g]; exact g1) rfl (by rw [hT]; rfl) (by rw [hT]; exact hs1) (by rw [hT]; exact hs0) (.inl rfl) (hA.vals k) (by rw [hT]; show i ≤ _; omega) (by rw [hT]; show A.kr.length + j ≤ _; omega)).mono ?_
    rintro e w' ⟨q1, s', ⟨q2, q3, q4⟩, q5, q6⟩
    rw [Al.next_inst h2 hj] at q1 q5
    refine ⟨_, q1, s', ⟨?_, ?_, by rw [q4, hs.c], by rw [q6.room, hs.room]⟩, q5, q6⟩
    · have h8 : (A.T j).st = A.st := by rw [hT]
      rw [q2, hs.g, h8]
      exact g2
    · rw [q3, hs.cnt]; omega
  · have hT := Al.T_check h1 h2
    have hir : j - A.kw.length - 1 < A.kr.length := by omega
    obtain ⟨k, hk⟩ : ∃ k, A.kr[j - A.kw.length - 1]? = some k := ⟨_, List.getElem?_eq_getElem hir⟩
    have hkm := List.mem_of_getElem? hk
    refine ((step_check (k := k) h last 5 (by rw [hT]) (by rw [hT]; exact hk) (hA.ok k hkm) (hA.seen k hkm) (by rw [hT]; show j - A.kw.length - 1 ≤ _; omega) (by rw [hT]; show A.kr.length + j ≤ _; omega) (by rw [hs.cnt]; omega) (by rw [hs.c]; omega)).1 ?_).mono ?_
    · rw [hs.g]
      unfold Al.g
      rw [show j - A.kw.length - A.kr.length - 1 = 0 by omega, if_neg (by simp)]
      split
      · rfl
      · rfl
    · rintro e w' ⟨q1, s', rfl, q5, q6⟩
      rw [Al.next_check h1 h2] at q1 q5
      exact ⟨_, q1, s', ⟨by rw [hs.g]; exact Al.g_mid (by omega) (by omega) (by omega) (by omega), by rw [hs.cnt]; omega, hs.c, hs.room⟩, q5, q6⟩
/-- its stamp is spent -/
theorem alone_spent (hA : A.Ok P last) (hl : last < 18446744073709551616) (hst : (nextW (mo last) 5).2 = 40) (h : OcA u a (A.T A.kw.length) P s) (hs : A.S A.kw.length s) :
    Calls Try.prog 13 #[.pointer (some ⟨a.m.tb, 0, none⟩), .int .u64 last, .int .i64 5] u fun e w' => ∃ ph : Int, e = .returned (.tuple #[.int .i64 ph, .int .i64 40]) ∧ ∃ s' T', OcA w' a T' P s' ∧ OcT u w' a a s s' := by
  have hlen := hA.len
  have hT := Al.T_take (A := A)
  have hmo0 : max (mo last) 0 = mo last := by omega
  have hsn : stN (A.T A.kw.length) last 5 = nextW (mo last) 5 := by
    unfold stN
    rw [Al.mo_nil, hmo0]
  refine ((step_take h last 5 (by rw [hT]) hl (by rw [hT]; show (0 : Nat) < _; decide) (by rw [hT]; show A.kr.length + A.kw.length ≤ _; omega)).2 40 (by rw [hsn]; exact hst) (by decide) (by rw [hs.cnt]; omega) (by rw [hs.c]; omega)).mono ?_
  rintro e w' ⟨q1, s', _, q5, q6⟩
  exact ⟨_, q1, s', _, q5, q6⟩
end
end Go.Proofs.Ytonilojjahfboaa
namespace Go.Proofs.Ytonilojjahfboaa
open Go.RowKit Go.Maps

/-- all three beside what was there -/
structure AS (w u : World) (a : Ta) (T : Tn) (P : Ps) (s : Sto) (wb n : Nat) (gt : Ky → Option ByteArray) : Prop where
  x : OcA u a T P s
  bel : Below w.heap.size w u
  fr : ∀ j, (a.fp j ∨ s.fp j) → w.heap.size ≤ j
  mp : MpX u wb n Value.string gt
  wbn : w.heap.size ≤ wb
  d : ¬ a.fp wb ∧ ¬ s.fp wb
section
variable {w u u' : World} {a a' : Ta} {T T' : Tn} {P P' : Ps} {s s' : Sto} {wb n : Nat} {gt : Ky → Option ByteArray}
theorem AS.below (h : AS w u a T P s wb n gt) (hb : Below u.heap.size u u') : AS w u' a T P s wb n gt :=
  ⟨h.x.below hb, below_then h.bel hb, h.fr, h.mp.of_block (hb.block _ h.mp.lt), h.wbn, h.d⟩
theorem AS.turn (h : AS w u a T P s wb n gt) (hA : OcA u' a' T' P' s') (hT : OcT u u' a a' s s') : AS w u' a' T' P' s' wb n gt := by
  have hz := h.bel.size
  have hl := h.mp.lt
  refine ⟨hA, chg_fresh hT.chg h.bel (Nat.le_refl _) h.fr, fun j hj => ?_, h.mp.of_block (hT.chg.block _ hl (fun e => by rcases e with e | e; exact h.d.1 e; exact h.d.2 e)), h.wbn, fun e => ?_, fun e => ?_⟩
  · rcases hj with e | e
    · rcases hT.af j e with e | e
      · exact h.fr j (.inl e)
      · omega
    · rcases hT.sf j e with e | e
      · exact h.fr j (.inr e)
      · omega
  · rcases hT.af wb e with e | e
    · exact h.d.1 e
    · omega
  · rcases hT.sf wb e with e | e
    · exact h.d.2 e
    · omega
theorem AS.put (h : AS w u a T P s wb n gt) {n' : Nat} {gt' : Ky → Option ByteArray} (ht : u.mapTurned u' wb) (hx : MpX u' wb n' Value.string gt') : AS w u' a T P s wb n' gt' := by
  have hc : Chg u u' (fun j => j = wb) := (Chg.refl u _).turned ht (fun _ => rfl)
  exact ⟨⟨h.x.mm.keep hc (fun j hj e => h.d.1 (by rw [← e]; exact hj)), h.x.st.keep (fun i hi => hc.block i (h.x.st.lt hi) (fun e => h.d.2 (by rw [← e]; exact hi))), h.x.cb, h.x.ap⟩, chg_fresh hc h.bel (Nat.le_refl _) (fun j e => by rw [e]; exact h.wbn), h.fr, hx, h.wbn, h.d⟩
/-- what has been fetched, what has been put -/
structure A1 (P : Ps) (F L : List Ky) (i : Nat) (gt : Ky → Option ByteArray) : Prop where
  fn : F.Nodup
  fs : ∀ k, (P.gs k).isSome = true ↔ k ∈ F
  fv : ∀ k ∈ F, P.gs k = some ⟨0, ⟨#[]⟩, false⟩
  fo : ∀ k ∈ F, k.Ok
  wn : L.Nodup
  ws : ∀ k, (P.gw k).isSome = true ↔ k ∈ L
  sub : ∀ k ∈ L, k ∈ F
  wv : ∀ k t, P.gw k = some t → t.has = true ∧ t.val.size ≤ 200
  gtv : ∀ k, gt k = (P.gw k).map Tx.val
  len : F.length ≤ i
  ns : P.ns ≤ i
  nw : P.nw ≤ i
  ll : L.length ≤ i
def TF (n : Nat) : Tn := ⟨7, 0, [], [], [], 0, 0, 0, n⟩
theorem A1.start : A1 P00 [] [] 0 (fun _ => none) :=
  ⟨List.nodup_nil, fun k => ⟨fun h => (by cases h), fun h => (by cases h)⟩, fun k h => (by cases h), fun k h => (by cases h), List.nodup_nil, fun k => ⟨fun h => (by cases h), fun h => (by cases h)⟩, fun k h => (by cases h), fun k t h => (by cases h), fun k => rfl, Nat.le_refl _, Nat.le_refl _, Nat.le_refl _, Nat.le_refl _⟩
theorem nd_snoc {α : Type} {l : List α} {x : α} (h : l.Nodup) (hx : x ∉ l) : (l ++ [x]).Nodup := by
  rw [List.nodup_append]
  refine ⟨h, by simp, fun a ha b hb => ?_⟩
  rw [List.mem_singleton] at hb
  subst hb
  exact fun e => hx (by rw [← e]; exact ha)
/-- one more is fetched -/
theorem A1.fetch {F L : List Ky} {i : Nat} (h : A1 P F L i gt) {k : Ky} (hk : k.Ok) (hn : P.gs k = none) {ns' : Nat} (hns : ns' ≤ P.ns + 1) : A1 { P with ns := ns', gs := updK P.gs k (some ⟨0, ⟨#[]⟩, false⟩) } (F ++ [k]) L (i + 1) gt := by
  have hkF : k ∉ F := fun hm => by have := (h.fs k).2 hm; rw [hn] at this; cases this
  refine ⟨nd_snoc h.fn hkF, fun x => ?_, fun x hx => ?_, fun x hx => ?_, h.wn, h.ws, fun x hx => List.mem_append.2 (.inl (h.sub x hx)), h.wv, h.gtv, by have := h.len; simp; omega, by have := h.ns; show ns' ≤ _; omega, by have := h.nw; show P.nw ≤ _; omega, by have := h.ll; omega⟩
  · show ((updK P.gs k _) x).isSome = true ↔ _
    unfold updK
    rw [List.mem_append, List.mem_singleton]
    split
    · rename_i e; exact ⟨fun _ => .inr e, fun _ => rfl⟩
    · rename_i e
      rw [h.fs]
      exact ⟨fun h => .inl h, fun h => h.resolve_right e⟩
  · show (updK P.gs k _) x = _
    unfold updK
    split
    · rfl
    · rename_i e
      rcases List.mem_append.1 hx with hx | hx
      · exact h.fv x hx
      · exact absurd (List.mem_singleton.1 hx) e
  · rcases List.mem_append.1 hx with hx | hx
    · exact h.fo x hx
    · rw [List.mem_singleton.1 hx]; exact hk
theorem A1.up {F L : List Ky} {i : Nat} (h : A1 P F L i gt) : A1 P F L (i + 1) gt := ⟨h.fn, h.fs, h.fv, h.fo, h.wn, h.ws, h.sub, h.wv, h.gtv, by have := h.len; omega, by have := h.ns; omega, by have := h.nw; omega, by have := h.ll; omega⟩
open Classical in
/-- one is put -/
theorem A1.put {F L : List Ky} {i : Nat} (h : A1 P F L (i + 1) gt) (hi : P.nw ≤ i) (hL : L.length ≤ i) {k : Ky} (hk : k ∈ F) {v : ByteArray} (hv : v.size ≤ 200) {nw' : Nat} (hnw : nw' ≤ P.nw + 1) :
    A1 { P with nw := nw', gw := updK P.gw k (some ⟨v, true⟩) } F (if k ∈ L then L else L ++ [k]) (i + 1) (updK gt k (some v)) := by
  refine ⟨h.fn, h.fs, h.fv, h.fo, ?_, fun x => ?_, fun x hx => ?_, fun x t hx => ?_, fun x => ?_, h.len, h.ns, by show nw' ≤ _; omega, ?_⟩
  · split
    · exact h.wn
    · rename_i e; exact nd_snoc h.wn e
  · show ((updK P.gw k _) x).isSome = true ↔ _
    unfold updK
    by_cases e : x = k
    · rw [if_pos e]
      refine ⟨fun _ => ?_, fun _ => rfl⟩
      split
      · rename_i h9; rw [e]; exact h9
      · rw [e]; simp
    · rw [if_neg e, h.ws]
      split
      · exact Iff.rfl
      · rw [List.mem_append, List.mem_singleton]
        exact ⟨fun h => .inl h, fun h => h.resolve_right e⟩
  · split at hx
    · exact h.sub x hx
    · rcases List.mem_append.1 hx with hx | hx
      · exact h.sub x hx
      · rw [List.mem_singleton.1 hx]; exact hk
  · have hx' : updK P.gw k (some ⟨v, true⟩) x = some t := hx
    unfold updK at hx'
    split at hx'
    · injection hx' with hx'; subst hx'; exact ⟨rfl, hv⟩
    · exact h.wv x t hx'
  · show updK gt k (some v) x = (updK P.gw k (some ⟨v, true⟩) x).map Tx.val
    unfold updK
    split
    · rfl
    · exact h.gtv x
  · split
    · omega
    · rw [List.length_append, List.length_singleton]; omega
end
end Go.Proofs.Ytonilojjahfboaa
namespace Go.Proofs.Ytonilojjahfboaa
open Go.RowKit Go.Maps

theorem KySorted.nd {ks : List Ky} (h : KySorted ks) : ks.Nodup := List.Pairwise.imp (fun {a b} hab e => by
  subst e
  have := (Ky.cmp_zero a a).2 rfl
  omega) h
theorem len_same {α : Type} {a b : List α} (ha : a.Nodup) (hb : b.Nodup) (h : ∀ k, k ∈ a ↔ k ∈ b) : a.length = b.length := ((List.perm_ext_iff_of_nodup ha hb).2 h).length_eq
section
variable {P : Ps} {F L kw kr : List Ky} {i last : Nat} {gt : Ky → Option ByteArray}
def alOf (kw kr : List Ky) (gt : Ky → Option ByteArray) (last : Nat) : Al := ⟨kw, fun k => (gt k).getD ⟨#[]⟩, kr, (nextW (mo last) 5).1⟩
theorem A1.kw_mem (h : A1 P F L i gt) (hk : KsG P.gw P.nw kw) (k : Ky) : k ∈ kw ↔ k ∈ L := by
  constructor
  · intro hm
    exact (h.ws k).1 ((hk.2.2.2 k (hk.2.1 k hm)).1 hm)
  · intro hm
    exact (hk.2.2.2 k (h.fo k (h.sub k hm))).2 ((h.ws k).2 hm)
theorem A1.kr_mem (h : A1 P F L i gt) (hk : KsG P.gs P.ns kr) (k : Ky) : k ∈ kr ↔ k ∈ F := by
  constructor
  · intro hm
    exact (h.fs k).1 ((hk.2.2.2 k (hk.2.1 k hm)).1 hm)
  · intro hm
    exact (hk.2.2.2 k (h.fo k hm)).2 ((h.fs k).2 hm)
theorem A1.kw_len (h : A1 P F L i gt) (hk : KsG P.gw P.nw kw) : kw.length = L.length := len_same hk.1.nd h.wn (h.kw_mem hk)
theorem A1.kr_len (h : A1 P F L i gt) (hk : KsG P.gs P.ns kr) : kr.length = F.length := len_same hk.1.nd h.fn (h.kr_mem hk)
theorem A1.out (h : A1 P F L i gt) : ∀ ks : List Ky, (∀ k ∈ ks, k ∈ L) → wrOut P.gs P.gw ks = ks.map (fun k => ⟨k, (gt k).getD ⟨#[]⟩, true⟩)
  | [], _ => rfl
  | k :: ks, hk => by
    have hkL := hk k List.mem_cons_self
    have ih := A1.out h ks (fun x hx => hk x (List.mem_cons_of_mem _ hx))
    show wrAt P.gs P.gw k ++ wrOut P.gs P.gw ks = _
    rw [ih]
    have h1 := h.fv k (h.sub k hkL)
    obtain ⟨t, ht⟩ : ∃ t, P.gw k = some t := Option.isSome_iff_exists.1 ((h.ws k).2 hkL)
    have h2 := (h.wv k t ht).1
    have h3 := h.gtv k
    rw [ht] at h3
    have hw : wrAt P.gs P.gw k = [⟨k, t.val, true⟩] := by
      unfold wrAt
      rw [h1, ht, if_neg]
      · rw [← h2]; rfl
      · intro he
        have he2 : txB ⟨⟨#[]⟩, false⟩ t = true := he
        have := (txB_iff _ _).1 he2
        rw [← this] at h2
        cases h2
    rw [hw, List.map_cons, h3]
    rfl
theorem lastW_all {W : List Wr} (h : ∀ x ∈ W, x.has = true) : lastW W = W := by
  unfold lastW
  rw [List.filter_eq_self.2 h, List.filter_eq_nil_iff.2 (fun x hx => by rw [h x (List.mem_reverse.1 hx)]; decide), List.append_nil]
/-- it is what is committed alone -/
theorem A1.alone (h : A1 P F L i gt) (hi : i ≤ 30) (hw : KsG P.gw P.nw kw) (hr : KsG P.gs P.ns kr) :
    (alOf kw kr gt last).Ok P last ∧ toT { TF F.length with W := wrOut P.gs P.gw kw, L := lastW (wrOut P.gs P.gw kw), R := kr } 1 = (alOf kw kr gt last).T 0 := by
  have hout := h.out kw (fun k hk => (h.kw_mem hw k).1 hk)
  have hW : wrOut P.gs P.gw kw = (alOf kw kr gt last).W := hout
  have hl : lastW (alOf kw kr gt last).W = (alOf kw kr gt last).W := lastW_all (fun x hx => by
    unfold Al.W at hx
    obtain ⟨k, _, rfl⟩ := List.mem_map.1 hx
    rfl)
  have hlr := h.kr_len hr
  have hlw := h.kw_len hw
  refine ⟨⟨hr.2.1, fun k hk => (h.kr_mem hr k).2 (h.sub k ((h.kw_mem hw k).1 hk)), hw.1.nd, ⟨?_, ?_⟩, fun k hk => h.fv k ((h.kr_mem hr k).1 hk), fun k => ?_, rfl⟩, ?_⟩
  · show kr.length ≤ 40
    have := h.len
    omega
  · show kw.length ≤ 40
    have := hw.2.2.1
    have := h.nw
    omega
  · show ((gt k).getD ⟨#[]⟩).size ≤ maxLen
    rw [h.gtv k]
    cases hg : P.gw k with
    | none => exact Nat.zero_le _
    | some t =>
      have := (h.wv k t hg).2
      show t.val.size ≤ maxLen
      unfold maxLen
      omega
  · rw [hW, hl]
    unfold toT phT Al.T Al.ph TF
    rw [if_pos rfl]
    by_cases hk : kw = []
    · have h9 : (alOf kw kr gt last).W = [] := (Al.W_nil _).2 hk
      have h8 : (alOf kw kr gt last).kw.length = 0 := by show kw.length = 0; rw [hk]; rfl
      rw [if_pos h9, h8]
      simp
      exact ⟨rfl, hlr.symm⟩
    · have h9 : (alOf kw kr gt last).W ≠ [] := fun e => hk ((Al.W_nil _).1 e)
      have h8 : 0 < (alOf kw kr gt last).kw.length := List.length_pos_iff.2 hk
      rw [if_neg h9, if_pos h8]
      simp
      exact ⟨rfl, hlr.symm⟩
theorem Al.S_start (A : Al) {s : Sto} (h1 : s.g = fun _ => none) (h2 : s.cnt = 0) (h3 : s.c = 0) (h4 : s.ar.room = 100) : A.S 0 s := by
  refine ⟨?_, by rw [h2]; omega, h3, h4⟩
  rw [h1]
  funext k
  unfold Al.g
  rw [show 0 - A.kw.length - A.kr.length - 1 = 0 by omega, if_neg (by simp), if_neg (by simp)]
/-- what is there at last -/
theorem Al.g_end (A : Al) (k : Ky) : A.g (A.kr.length + 2 * A.kw.length + 1) k = some (A.inC k) ∧ k ∈ A.kw ∨ A.g (A.kr.length + 2 * A.kw.length + 1) k = none ∧ k ∉ A.kw := by
  unfold Al.g
  rw [show A.kr.length + 2 * A.kw.length + 1 - A.kw.length - A.kr.length - 1 = A.kw.length by omega, List.take_of_length_le (Nat.le_refl _), List.take_of_length_le (by omega)]
  by_cases h : k ∈ A.kw
  · exact .inl ⟨if_pos h, h⟩
  · exact .inr ⟨by rw [if_neg h, if_neg h], h⟩
end
end Go.Proofs.Ytonilojjahfboaa
