/- What a transaction beside the reference's keeps, plainly. Conditions: each lemma's own premises. What a transaction's acts keep, plainly. Conditions: each lemma's own premises. The store beside the reference's: what acts keep, plainly. Conditions: each lemma's own premises. Three transactions, their store, and the reference's, in memory. Conditions: each lemma's own premises. Two calls, the program's and the reference's, that leave the same. Conditions: each lemma's own premises. A step of the program's transaction and of the reference's, an abort. Conditions: each lemma's own premises. What is done to the sets of both; what both tell. Conditions: each lemma's own premises. -/
import Derived.Test.YtkhkdedjffkhdaaGreatRoA
import Derived.Test.YtkhkdedjffkhdaaGreatSxC
import Derived.Test.YtkhkdedjffkhdaaGreatOcS
import Derived.Test.YtkhkdedjffkhdaaGreatRcB
import Derived.Test.YtkhkdedjffkhdaaGreatRoB
import Derived.Test.YtkhkdedjffkhdaaGreatRoC
import Derived.Test.YtkhkdedjffkhdaaGreatOcU
import Derived.Test.YtkhkdedjffkhdaaGreatOc23
import Derived.Test.YtkhkdedjffkhdaaGreatSxB
set_option linter.unusedVariables false
set_option linter.unusedSimpArgs false
namespace Go.Proofs.YtkhkdedjffkhdaaGreat
open Go.RowKit Go.Maps

def TxOk (t : Tx) : Prop := t.val.size ≤ 200 ∧ (t.has = false → t.val = ⟨#[]⟩)
/-- a key is held by one -/
def Hd (g : Ky → Option Cl) (j mo : Nat) (k : Ky) : Prop := ∃ y, g k = some y ∧ y.lk = true ∧ y.who = (j : Int) ∧ y.st ≤ mo
structure Tv (g : Ky → Option Cl) (j : Nat) (T : Tn) (P : Ps) (R : Rn) (X : List Rx) (N : Nat) : Prop where
  same : SameT T R
  px : PX X P.gs P.gw P.gm
  who : T.who = (j : Int)
  gw : ∀ k t, P.gw k = some t → TxOk t
  gm : ∀ k t, P.gm k = some t → TxOk t
  sm : Sm T.most ∧ Sm T.st
  n : T.n ≤ N ∧ P.ns ≤ N ∧ P.nw ≤ N ∧ P.nm ≤ N ∧ X.length ≤ N
  ph : 0 ≤ T.ph ∧ T.ph ≤ 6
  wl : T.W.length ≤ N
  wk : ∀ x ∈ T.W, x.k.Ok ∧ TxOk x.tx
  nd : (T.W.map Wr.k).Nodup
  lw : T.L = lastW T.W
  rx : 1 ≤ T.ph → T.ph ≤ 5 → R.R = X
  i1 : T.ph = 1 → T.i < T.W.length
  i3 : T.ph = 3 → T.i < T.R.length
  i4 : T.ph = 4 → T.i < T.W.length
  h1 : T.ph = 1 → ∀ m x, m < T.i → T.W[m]? = some x → Hd g j T.most x.k
  h2 : T.ph = 2 ∨ T.ph = 3 → ∀ x ∈ T.W, Hd g j T.most x.k
  h4 : T.ph = 4 → ∀ m x, T.i ≤ m → T.L[m]? = some x → Hd g j T.most x.k
  st : T.ph = 3 ∨ T.ph = 4 → T.most < T.st
/-- another one's cells stay -/
def Keeps (g g' : Ky → Option Cl) (j : Nat) : Prop := ∀ k y, g k = some y → y.lk = true → y.who ≠ (j : Int) → g' k = some y
section
variable {g g' : Ky → Option Cl} {i j mo N M : Nat} {T : Tn} {P : Ps} {R : Rn} {X : List Rx} {k : Ky}
theorem Keeps.refl (g : Ky → Option Cl) (j : Nat) : Keeps g g j := fun _ _ h _ _ => h
theorem Hd.keep (h : Hd g i mo k) (hk : Keeps g g' j) (hij : i ≠ j) : Hd g' i mo k := by
  obtain ⟨y, h1, h2, h3, h4⟩ := h
  exact ⟨y, hk k y h1 h2 (by rw [h3]; omega), h2, h3, h4⟩
theorem Hd.le {m2 : Nat} (h : Hd g i mo k) (hm : mo ≤ m2) : Hd g i m2 k := by
  obtain ⟨y, h1, h2, h3, h4⟩ := h
  exact ⟨y, h1, h2, h3, by omega⟩
theorem Tv.other (h : Tv g i T P R X N) (hk : Keeps g g' j) (hij : i ≠ j) (hN : N ≤ M) : Tv g' i T P R X M := by
  obtain ⟨n1, n2, n3, n4, n5⟩ := h.n
  exact ⟨h.same, h.px, h.who, h.gw, h.gm, h.sm, ⟨by omega, by omega, by omega, by omega, by omega⟩, h.ph, by have := h.wl; omega, h.wk, h.nd, h.lw, h.rx, h.i1, h.i3, h.i4, fun e m x hm hx => (h.h1 e m x hm hx).keep hk hij, fun e x hx => (h.h2 e x hx).keep hk hij, fun e m x hm hx => (h.h4 e m x hm hx).keep hk hij, h.st⟩
theorem Tv.mono (h : Tv g i T P R X N) (hN : N ≤ M) : Tv g i T P R X M := by
  obtain ⟨n1, n2, n3, n4, n5⟩ := h.n
  exact ⟨h.same, h.px, h.who, h.gw, h.gm, h.sm, ⟨by omega, by omega, by omega, by omega, by omega⟩, h.ph, by have := h.wl; omega, h.wk, h.nd, h.lw, h.rx, h.i1, h.i3, h.i4, h.h1, h.h2, h.h4, h.st⟩
/-- a new one -/
def Rn.new (who : Int) : Rn := ⟨who, 0, 0, [], [], 0, 0, 0⟩
theorem Tv.start (g : Ky → Option Cl) (j N : Nat) : Tv g j (Tn.new j) ⟨0, 0, 0, fun _ => none, fun _ => none, fun _ => none⟩ (Rn.new j) [] N where
  same := ⟨rfl, rfl, rfl, rfl, fun _ => rfl, rfl, rfl, fun h => by rcases h with h | h | h <;> exact absurd (show (0 : Int) = _ from h) (by decide)⟩
  px := PX.start
  who := rfl
  gw := fun _ _ h => by cases h
  gm := fun _ _ h => by cases h
  sm := ⟨by show 0 < _; decide, by show 0 < _; decide⟩
  n := ⟨Nat.zero_le _, Nat.zero_le _, Nat.zero_le _, Nat.zero_le _, Nat.zero_le _⟩
  ph := ⟨Int.le_refl _, by show (0 : Int) ≤ 6; decide⟩
  wl := Nat.zero_le _
  wk := fun _ h => by cases h
  nd := List.nodup_nil
  lw := rfl
  rx := fun h => absurd (show (1 : Int) ≤ 0 from h) (by decide)
  i1 := fun h => absurd (show (0 : Int) = 1 from h) (by decide)
  i3 := fun h => absurd (show (0 : Int) = 3 from h) (by decide)
  i4 := fun h => absurd (show (0 : Int) = 4 from h) (by decide)
  h1 := fun h => absurd (show (0 : Int) = 1 from h) (by decide)
  h2 := fun h => by rcases h with h | h <;> exact absurd (show (0 : Int) = _ from h) (by decide)
  h4 := fun h => absurd (show (0 : Int) = 4 from h) (by decide)
  st := fun h => by rcases h with h | h <;> exact absurd (show (0 : Int) = _ from h) (by decide)
/-- what isn't in phases one to four: the phase and the sets alone are asked -/
theorem Tv.idle {T' : Tn} {P' : Ps} {R' : Rn} {X' : List Rx} (h : Tv g j T P R X N) (hN : N ≤ M) (hs : SameT T' R') (hx : PX X' P'.gs P'.gw P'.gm) (h1 : T'.who = T.who) (h2 : T'.W = T.W) (h3 : T'.L = T.L) (h4 : Sm T'.most ∧ Sm T'.st) (hgw : ∀ k t, P'.gw k = some t → TxOk t) (hgm : ∀ k t, P'.gm k = some t → TxOk t) (hn : T'.n ≤ M ∧ P'.ns ≤ M ∧ P'.nw ≤ M ∧ P'.nm ≤ M ∧ X'.length ≤ M) (hp : T'.ph = 0 ∨ T'.ph = 6) : Tv g' j T' P' R' X' M := by
  have hno : ∀ q : Int, 1 ≤ q → q ≤ 5 → T'.ph ≠ q := fun q a b e => by omega
  exact ⟨hs, hx, h1.trans h.who, hgw, hgm, h4, hn, by omega, by rw [h2]; have := h.wl; omega, by rw [h2]; exact h.wk, by rw [h2]; exact h.nd, by rw [h2, h3]; exact h.lw,
    fun a b => by omega, fun e => absurd e (hno 1 (by decide) (by decide)), fun e => absurd e (hno 3 (by decide) (by decide)), fun e => absurd e (hno 4 (by decide) (by decide)),
    fun e => absurd e (hno 1 (by decide) (by decide)), fun e => by rcases e with e | e; exact absurd e (hno 2 (by decide) (by decide)); exact absurd e (hno 3 (by decide) (by decide)), fun e => absurd e (hno 4 (by decide) (by decide)), fun e => by rcases e with e | e; exact absurd e (hno 3 (by decide) (by decide)); exact absurd e (hno 4 (by decide) (by decide))⟩
theorem Tv.over (h : Tv g j T P R X N) (hN : N ≤ M) (mo : Nat) : Tv g' j { T with ph := 6 } P { R with ph := 6, most := mo } X M := by
  obtain ⟨n1, n2, n3, n4, n5⟩ := h.n
  refine h.idle hN ⟨h.same.who, rfl, h.same.W, h.same.st, fun e => absurd (show (6 : Int) ≤ 2 from e) (by decide), h.same.n, h.same.ks, fun e => ?_⟩ h.px rfl rfl rfl h.sm h.gw h.gm ⟨by show T.n ≤ M; omega, by omega, by omega, by omega, by omega⟩ (.inr rfl)
  rcases e with e | e | e <;> exact absurd (show (6 : Int) = _ from e) (by decide)
theorem SameT.setn (h : SameT T R) (n : Nat) : SameT { T with n := n } { R with n := n } := ⟨h.who, h.ph, h.W, h.st, h.most, rfl, h.ks, h.i⟩
theorem skipR_n (R : Rn) (n : Nat) : skipR { R with n := n } = { skipR R with n := n } := by
  unfold skipR
  dsimp only
  repeat' split
  all_goals rfl
theorem skipR_R (R : Rn) : (skipR R).R = R.R := by
  unfold skipR
  repeat' split
  all_goals rfl
theorem upN_eq (T : Tn) : upN 0 T = { T with n := T.n + 1 } := rfl
end
end Go.Proofs.YtkhkdedjffkhdaaGreat
namespace Go.Proofs.YtkhkdedjffkhdaaGreat
open Go.RowKit Go.Maps

theorem inj_key : ∀ {W : List Wr} {x y : Wr}, (W.map Wr.k).Nodup → x ∈ W → y ∈ W → x.k = y.k → x = y
  | [], _, _, _, h, _, _ => by cases h
  | z :: W, x, y, hn, hx, hy, e => by
    have h : z.k ∉ W.map Wr.k ∧ (W.map Wr.k).Nodup := List.nodup_cons.1 hn
    rcases List.mem_cons.1 hx with e1 | hx
    · rcases List.mem_cons.1 hy with e2 | hy
      · rw [e1, e2]
      · exact absurd (List.mem_map.2 ⟨y, hy, by rw [← e, e1]⟩) h.1
    · rcases List.mem_cons.1 hy with e2 | hy
      · exact absurd (List.mem_map.2 ⟨x, hx, by rw [e, e2]⟩) h.1
      · exact inj_key h.2 hx hy e
theorem lastW_mem {W : List Wr} {x : Wr} (h : x ∈ lastW W) : x ∈ W := by
  unfold lastW at h
  rcases List.mem_append.1 h with h | h
  · exact (List.mem_filter.1 h).1
  · exact List.mem_reverse.1 (List.mem_filter.1 h).1
theorem lastW_nd {W : List Wr} (h : (W.map Wr.k).Nodup) : ((lastW W).map Wr.k).Nodup := by
  unfold lastW
  rw [List.map_append, List.nodup_append]
  refine ⟨(List.filter_sublist.map _).nodup h, (List.filter_sublist.map _).nodup (by rw [List.map_reverse]; exact (List.reverse_perm _).nodup_iff.2 h), fun a ha b hb e => ?_⟩
  obtain ⟨x, hx, rfl⟩ := List.mem_map.1 ha
  obtain ⟨y, hy, rfl⟩ := List.mem_map.1 hb
  have h1 := List.mem_filter.1 hx
  have h2 := List.mem_filter.1 hy
  have := inj_key h h1.1 (List.mem_reverse.1 h2.1) e
  subst this
  rw [h1.2] at h2
  exact absurd h2.2 (by decide)
theorem nd_at {W : List Wr} (h : (W.map Wr.k).Nodup) {m n : Nat} {x y : Wr} (hx : W[m]? = some x) (hy : W[n]? = some y) (hne : m ≠ n) : x.k ≠ y.k := fun e => by
  have h1 : (W.map Wr.k)[m]? = some x.k := by rw [List.getElem?_map, hx]; rfl
  have h2 : (W.map Wr.k)[n]? = some x.k := by rw [List.getElem?_map, hy, e]; rfl
  obtain ⟨l1, e1⟩ := List.getElem?_eq_some_iff.1 h1
  obtain ⟨l2, e2⟩ := List.getElem?_eq_some_iff.1 h2
  have hp := List.pairwise_iff_getElem.1 h
  rcases Nat.lt_or_ge m n with hl | hl
  · exact hp m n l1 l2 hl (e1.trans e2.symm)
  · exact hp n m l2 l1 (by omega) (e2.trans e1.symm)
theorem outX_keys {L : List Rx} : (∀ x ∈ L, x.wrote = true → x.w.k = x.k) → ((outX L).map Wr.k).Sublist (L.map Rx.k) := by
  induction L with
  | nil => exact fun _ => List.Sublist.slnil
  | cons x L ih =>
    intro h
    have h2 := ih (fun y hy => h y (List.mem_cons_of_mem _ hy))
    show ((outAt x ++ outX L).map Wr.k).Sublist (x.k :: L.map Rx.k)
    rw [List.map_append]
    unfold outAt
    by_cases e : outB x = true
    · rw [if_pos e]
      have e1 : x.wrote = true := by unfold outB at e; simp at e; exact e.1
      show (x.w.k :: (outX L).map Wr.k).Sublist (x.k :: L.map Rx.k)
      rw [h x (by simp) e1]
      exact h2.cons_cons _
    · rw [if_neg e]
      exact h2.cons _
theorem outX_of {L : List Rx} {x : Wr} (h : x ∈ outX L) : ∃ y ∈ L, y.wrote = true ∧ x = y.w := by
  unfold outX at h
  obtain ⟨y, hy, hx⟩ := List.mem_flatMap.1 h
  unfold outAt at hx
  split at hx
  · rename_i e
    unfold outB at e
    simp at e
    exact ⟨y, hy, e.1, List.mem_singleton.1 hx⟩
  · cases hx
theorem KySorted.nd {l : List Ky} (h : KySorted l) : l.Nodup := by
  refine List.Pairwise.imp (fun {a b} hab e => ?_) h
  subst e
  have := (Ky.cmp_zero a a).2 rfl
  omega
theorem doneTn (T : Tn) (of : Nat) (nx : Int) : (doneT T of nx).n = T.n := by unfold doneT; split <;> rfl
section
variable {g g' : Ky → Option Cl} {i j mo N M : Nat} {T : Tn} {P : Ps} {R : Rn} {X : List Rx} {k : Ky}
theorem Hd.set (h : Hd g j mo k) {k' : Ky} {c : Option Cl} (hne : k ≠ k') : Hd (setG g k' c) j mo k := by
  obtain ⟨y, h1, h2⟩ := h
  exact ⟨y, by rw [setG_other _ _ hne]; exact h1, h2⟩
theorem Tv.commit (h : Tv g j T P R X N) (hp : T.ph = 0) {nw ns : Nat} {kw kr : List Ky} (hw : KsG P.gw nw kw) (hr : KsG P.gs ns kr) (hN : N ≤ M) :
    Tv g j (toT { T with W := wrOut P.gs P.gw kw, L := lastW (wrOut P.gs P.gw kw), R := kr } 1) P (skipR { R with W := outX X, R := X, ph := 1, i := 0 }) X M := by
  have e1 : wrOut P.gs P.gw kw = outX X := h.px.writes hw
  have e2 : kr = X.map Rx.k := KsG.reads h.px hr
  rw [e1, e2]
  obtain ⟨n1, n2, n3, n4, n5⟩ := h.n
  have S0 : SameT { T with W := outX X, L := lastW (outX X), R := X.map Rx.k } { R with W := outX X, R := X } :=
    ⟨h.same.who, h.same.ph, rfl, h.same.st, h.same.most, h.same.n, rfl, fun e => by
      have e9 : R.ph = 0 := h.same.ph.trans hp
      rcases e with e | e | e <;> exact absurd ((show R.ph = _ from e).symm.trans e9) (by decide)⟩
  have S1 := S0.commit hp
  have hwl := outX_len X
  have hwk : ∀ x ∈ outX X, x.k.Ok ∧ TxOk x.tx := fun x hx => by
    obtain ⟨y, hy, hy1, rfl⟩ := outX_of hx
    refine ⟨by rw [h.px.wk y hy hy1]; exact h.px.ok y hy, ?_⟩
    have h9 := h.px.w y hy
    rw [if_pos hy1] at h9
    exact h.gw _ _ h9
  have hnd : ((outX X).map Wr.k).Nodup := (outX_keys h.px.wk).nodup h.px.sorted.nd
  have hR : (skipR { R with W := outX X, R := X, ph := 1, i := 0 }).R = X := skipR_R _
  have hph : (toT { T with W := outX X, L := lastW (outX X), R := X.map Rx.k } 1).ph = if outX X = [] then 2 else 1 := by
    unfold toT phT
    rw [if_pos rfl]
  by_cases hW : outX X = []
  · rw [if_pos hW] at hph
    exact ⟨S1, h.px, h.who, h.gw, h.gm, h.sm, ⟨by show T.n ≤ M; omega, by omega, by omega, by omega, by omega⟩, by rw [hph]; decide, by show (outX X).length ≤ M; omega, hwk, hnd, rfl, fun _ _ => hR,
      fun e => absurd (hph.symm.trans e) (by decide), fun e => absurd (hph.symm.trans e) (by decide), fun e => absurd (hph.symm.trans e) (by decide), fun e => absurd (hph.symm.trans e) (by decide),
      fun _ x hx => (by rw [show (toT { T with W := outX X, L := lastW (outX X), R := X.map Rx.k } 1).W = outX X from rfl, hW] at hx; cases hx), fun e => absurd (hph.symm.trans e) (by decide), fun e => by rcases e with e | e <;> exact absurd (hph.symm.trans e) (by decide)⟩
  · rw [if_neg hW] at hph
    exact ⟨S1, h.px, h.who, h.gw, h.gm, h.sm, ⟨by show T.n ≤ M; omega, by omega, by omega, by omega, by omega⟩, by rw [hph]; decide, by show (outX X).length ≤ M; omega, hwk, hnd, rfl, fun _ _ => hR,
      fun _ => by show 0 < (outX X).length; exact List.length_pos_iff.2 hW, fun e => absurd (hph.symm.trans e) (by decide), fun e => absurd (hph.symm.trans e) (by decide), fun _ m x hm => absurd (show m < 0 from hm) (by omega),
      fun e => by rcases e with e | e <;> exact absurd (hph.symm.trans e) (by decide), fun e => absurd (hph.symm.trans e) (by decide), fun e => by rcases e with e | e <;> exact absurd (hph.symm.trans e) (by decide)⟩
theorem Tv.lock (h : Tv g j T P R X N) (hp : T.ph = 1) {x : Wr} (hx : T.W[T.i]? = some x) {c : Cl} {s : Nat} (hc : c.lk = true ∧ c.who = (j : Int) ∧ c.st ≤ s) (hs : Sm s) (hN : N + 1 ≤ M) :
    Tv (setG g x.k (some c)) j (upN 0 (doneT { T with most := max T.most s } T.W.length 2)) P (skipR { R with most := max R.most s, i := R.i + 1, n := R.n + 1 }) X M := by
  obtain ⟨n1, n2, n3, n4, n5⟩ := h.n
  have hrp : R.ph = 1 := h.same.ph.trans hp
  have hmo : R.most = T.most := h.same.most (by rw [hrp]; decide)
  have S1 := (h.same.lock hp (max T.most s)).setn (T.n + 1)
  have S2 : SameT (upN 0 (doneT { T with most := max T.most s } T.W.length 2)) (skipR { R with most := max R.most s, i := R.i + 1, n := R.n + 1 }) := by
    have e1 := skipR_n { R with most := max R.most s, i := R.i + 1 } (R.n + 1)
    rw [show ({ ({ R with most := max R.most s, i := R.i + 1 } : Rn) with n := R.n + 1 } : Rn) = { R with most := max R.most s, i := R.i + 1, n := R.n + 1 } from rfl] at e1
    rw [e1, upN_eq, doneTn, hmo, show R.n + 1 = T.n + 1 by rw [h.same.n]]
    exact S1
  have hR : (skipR { R with most := max R.most s, i := R.i + 1, n := R.n + 1 }).R = X := (skipR_R _).trans (h.rx (by rw [hp]; decide) (by rw [hp]; decide))
  have hsm : Sm (max T.most s) := by have := h.sm.1; unfold Sm at *; omega
  have hall : ∀ m y, m < T.i + 1 → T.W[m]? = some y → Hd (setG g x.k (some c)) j (max T.most s) y.k := fun m y hm hy => by
    by_cases e : m = T.i
    · subst e
      rw [hx] at hy
      cases hy
      exact ⟨c, setG_same _ _ _, hc.1, hc.2.1, by omega⟩
    · exact ((h.h1 hp m y (by omega) hy).set (nd_at h.nd hy hx e)).le (by omega)
  by_cases hd : T.i + 1 = T.W.length
  · have hT : upN 0 (doneT { T with most := max T.most s } T.W.length 2) = { T with most := max T.most s, ph := 2, i := 0, n := T.n + 1 } := by
      rw [upN_eq, doneTn]
      unfold doneT
      rw [if_pos (show ({ T with most := max T.most s } : Tn).i + 1 = T.W.length from hd)]
      rfl
    rw [hT] at S2 ⊢
    exact ⟨S2, h.px, h.who, h.gw, h.gm, ⟨hsm, h.sm.2⟩, ⟨by show T.n + 1 ≤ M; omega, by omega, by omega, by omega, by omega⟩, (by constructor <;> simp), by show T.W.length ≤ M; have := h.wl; omega, h.wk, h.nd, h.lw, fun _ _ => hR,
      fun e => absurd (show (2 : Int) = 1 from e) (by decide), fun e => absurd (show (2 : Int) = 3 from e) (by decide), fun e => absurd (show (2 : Int) = 4 from e) (by decide), fun e => absurd (show (2 : Int) = 1 from e) (by decide),
      fun _ y hy => by
        obtain ⟨m, hm⟩ := List.getElem?_of_mem hy
        exact hall m y (by have := (List.getElem?_eq_some_iff.1 hm).1; have h9 : m < T.W.length := this; omega) hm,
      fun e => absurd (show (2 : Int) = 4 from e) (by decide), fun e => by rcases e with e | e; exact absurd (show (2 : Int) = 3 from e) (by decide); exact absurd (show (2 : Int) = 4 from e) (by decide)⟩
  · have hT : upN 0 (doneT { T with most := max T.most s } T.W.length 2) = { T with most := max T.most s, i := T.i + 1, n := T.n + 1 } := by
      rw [upN_eq, doneTn]
      unfold doneT
      rw [if_neg (show ¬ ({ T with most := max T.most s } : Tn).i + 1 = T.W.length from hd)]
    rw [hT] at S2 ⊢
    have h9 := h.i1 hp
    exact ⟨S2, h.px, h.who, h.gw, h.gm, ⟨hsm, h.sm.2⟩, ⟨by show T.n + 1 ≤ M; omega, by omega, by omega, by omega, by omega⟩, h.ph, by show T.W.length ≤ M; have := h.wl; omega, h.wk, h.nd, h.lw, fun _ _ => hR,
      fun _ => by show T.i + 1 < T.W.length; omega, fun e => absurd (hp.symm.trans e) (by decide), fun e => absurd (hp.symm.trans e) (by decide), fun _ => hall,
      fun e => by rcases e with e | e <;> exact absurd (hp.symm.trans e) (by decide), fun e => absurd (hp.symm.trans e) (by decide), fun e => by rcases e with e | e <;> exact absurd (hp.symm.trans e) (by decide)⟩
theorem Tv.take (h : Tv g j T P R X N) (hp : T.ph = 2) {st mx : Nat} (hst : T.most < st) (hs : Sm st) (hN : N + 1 ≤ M) :
    Tv g j (upN 0 (toT { T with st := st } 3)) P (skipR { R with most := mx, st := st, ph := 3, i := 0, n := R.n + 1 }) X M := by
  obtain ⟨n1, n2, n3, n4, n5⟩ := h.n
  have S1 := (h.same.take st mx).setn (T.n + 1)
  have S2 : SameT (upN 0 (toT { T with st := st } 3)) (skipR { R with most := mx, st := st, ph := 3, i := 0, n := R.n + 1 }) := by
    have e1 := skipR_n { R with most := mx, st := st, ph := 3, i := 0 } (R.n + 1)
    rw [show ({ ({ R with most := mx, st := st, ph := 3, i := 0 } : Rn) with n := R.n + 1 } : Rn) = { R with most := mx, st := st, ph := 3, i := 0, n := R.n + 1 } from rfl] at e1
    rw [e1, upN_eq, (show (toT { T with st := st } 3).n = T.n from rfl), show R.n + 1 = T.n + 1 by rw [h.same.n]]
    rw [show ({ R with st := st, most := mx, ph := 3, i := 0 } : Rn) = { R with most := mx, st := st, ph := 3, i := 0 } from rfl] at S1
    exact S1
  have hR : (skipR { R with most := mx, st := st, ph := 3, i := 0, n := R.n + 1 }).R = X := (skipR_R _).trans (h.rx (by rw [hp]; decide) (by rw [hp]; decide))
  have hT : upN 0 (toT { T with st := st } 3) = { T with st := st, ph := if T.R = [] then (if T.W = [] then 5 else 4) else 3, i := 0, n := T.n + 1 } := by
    rw [upN_eq, (show (toT { T with st := st } 3).n = T.n from rfl)]
    unfold toT phT
    rw [if_neg (by decide), if_pos rfl]
  have h2 := h.h2 (.inl hp)
  have hL : ∀ (m : Nat) (x : Wr), T.L[m]? = some x → Hd g j T.most x.k := fun m x hx => h2 x (lastW_mem (by rw [← h.lw]; exact List.mem_of_getElem? hx))
  rw [hT] at S2 ⊢
  by_cases hr : T.R = []
  · by_cases hw : T.W = []
    · rw [if_pos hr, if_pos hw] at S2 ⊢
      exact ⟨S2, h.px, h.who, h.gw, h.gm, ⟨h.sm.1, hs⟩, ⟨by show T.n + 1 ≤ M; omega, by omega, by omega, by omega, by omega⟩, (by constructor <;> simp), by show T.W.length ≤ M; have := h.wl; omega, h.wk, h.nd, h.lw, fun _ _ => hR,
        fun e => absurd (show (5 : Int) = 1 from e) (by decide), fun e => absurd (show (5 : Int) = 3 from e) (by decide), fun e => absurd (show (5 : Int) = 4 from e) (by decide), fun e => absurd (show (5 : Int) = 1 from e) (by decide),
        fun _ => h2, fun e => absurd (show (5 : Int) = 4 from e) (by decide), fun _ => hst⟩
    · rw [if_pos hr, if_neg hw] at S2 ⊢
      exact ⟨S2, h.px, h.who, h.gw, h.gm, ⟨h.sm.1, hs⟩, ⟨by show T.n + 1 ≤ M; omega, by omega, by omega, by omega, by omega⟩, (by constructor <;> simp), by show T.W.length ≤ M; have := h.wl; omega, h.wk, h.nd, h.lw, fun _ _ => hR,
        fun e => absurd (show (4 : Int) = 1 from e) (by decide), fun e => absurd (show (4 : Int) = 3 from e) (by decide), fun _ => List.length_pos_iff.2 hw, fun e => absurd (show (4 : Int) = 1 from e) (by decide),
        fun _ => h2, fun _ m x _ hx => hL m x hx, fun _ => hst⟩
  · rw [if_neg hr] at S2 ⊢
    exact ⟨S2, h.px, h.who, h.gw, h.gm, ⟨h.sm.1, hs⟩, ⟨by show T.n + 1 ≤ M; omega, by omega, by omega, by omega, by omega⟩, (by constructor <;> simp), by show T.W.length ≤ M; have := h.wl; omega, h.wk, h.nd, h.lw, fun _ _ => hR,
      fun e => absurd (show (3 : Int) = 1 from e) (by decide), fun _ => List.length_pos_iff.2 hr, fun e => absurd (show (3 : Int) = 4 from e) (by decide), fun e => absurd (show (3 : Int) = 1 from e) (by decide),
      fun _ => h2, fun e => absurd (show (3 : Int) = 4 from e) (by decide), fun _ => hst⟩
theorem Tv.check (h : Tv g j T P R X N) (hp : T.ph = 3) (hN : N + 1 ≤ M) :
    Tv g j (upN 0 (doneT T T.R.length 4)) P (skipR { R with i := R.i + 1, n := R.n + 1 }) X M := by
  obtain ⟨n1, n2, n3, n4, n5⟩ := h.n
  have S1 := (h.same.check hp).setn (T.n + 1)
  have S2 : SameT (upN 0 (doneT T T.R.length 4)) (skipR { R with i := R.i + 1, n := R.n + 1 }) := by
    have e1 := skipR_n { R with i := R.i + 1 } (R.n + 1)
    rw [show ({ ({ R with i := R.i + 1 } : Rn) with n := R.n + 1 } : Rn) = { R with i := R.i + 1, n := R.n + 1 } from rfl] at e1
    rw [e1, upN_eq, doneTn, show R.n + 1 = T.n + 1 by rw [h.same.n]]
    exact S1
  have hR : (skipR { R with i := R.i + 1, n := R.n + 1 }).R = X := (skipR_R _).trans (h.rx (by rw [hp]; decide) (by rw [hp]; decide))
  have h2 := h.h2 (.inr hp)
  have hL : ∀ (m : Nat) (x : Wr), T.L[m]? = some x → Hd g j T.most x.k := fun m x hx => h2 x (lastW_mem (by rw [← h.lw]; exact List.mem_of_getElem? hx))
  have hst := h.st (.inl hp)
  by_cases hd : T.i + 1 = T.R.length
  · have hT : upN 0 (doneT T T.R.length 4) = { T with ph := if T.W = [] then 5 else 4, i := 0, n := T.n + 1 } := by
      rw [upN_eq, doneTn]
      unfold doneT
      rw [if_pos hd]
      unfold toT phT
      rw [if_neg (by decide), if_neg (by decide), if_pos rfl]
    rw [hT] at S2 ⊢
    by_cases hw : T.W = []
    · rw [if_pos hw] at S2 ⊢
      exact ⟨S2, h.px, h.who, h.gw, h.gm, h.sm, ⟨by show T.n + 1 ≤ M; omega, by omega, by omega, by omega, by omega⟩, (by constructor <;> simp), by show T.W.length ≤ M; have := h.wl; omega, h.wk, h.nd, h.lw, fun _ _ => hR,
        fun e => absurd (show (5 : Int) = 1 from e) (by decide), fun e => absurd (show (5 : Int) = 3 from e) (by decide), fun e => absurd (show (5 : Int) = 4 from e) (by decide), fun e => absurd (show (5 : Int) = 1 from e) (by decide),
        fun _ => h2, fun e => absurd (show (5 : Int) = 4 from e) (by decide), fun _ => hst⟩
    · rw [if_neg hw] at S2 ⊢
      exact ⟨S2, h.px, h.who, h.gw, h.gm, h.sm, ⟨by show T.n + 1 ≤ M; omega, by omega, by omega, by omega, by omega⟩, (by constructor <;> simp), by show T.W.length ≤ M; have := h.wl; omega, h.wk, h.nd, h.lw, fun _ _ => hR,
        fun e => absurd (show (4 : Int) = 1 from e) (by decide), fun e => absurd (show (4 : Int) = 3 from e) (by decide), fun _ => List.length_pos_iff.2 hw, fun e => absurd (show (4 : Int) = 1 from e) (by decide),
        fun _ => h2, fun _ m x _ hx => hL m x hx, fun _ => hst⟩
  · have hT : upN 0 (doneT T T.R.length 4) = { T with i := T.i + 1, n := T.n + 1 } := by
      rw [upN_eq, doneTn]
      unfold doneT
      rw [if_neg hd]
    rw [hT] at S2 ⊢
    have h9 := h.i3 hp
    exact ⟨S2, h.px, h.who, h.gw, h.gm, h.sm, ⟨by show T.n + 1 ≤ M; omega, by omega, by omega, by omega, by omega⟩, h.ph, by show T.W.length ≤ M; have := h.wl; omega, h.wk, h.nd, h.lw, fun _ _ => hR,
      fun e => absurd (hp.symm.trans e) (by decide), fun _ => by show T.i + 1 < T.R.length; omega, fun e => absurd (hp.symm.trans e) (by decide), fun e => absurd (hp.symm.trans e) (by decide),
      fun _ => h2, fun e => absurd (hp.symm.trans e) (by decide), fun _ => hst⟩
theorem Tv.install (h : Tv g j T P R X N) (hp : T.ph = 4) {x : Wr} (hx : T.L[T.i]? = some x) (c : Option Cl) (hN : N + 1 ≤ M) :
    Tv (setG g x.k c) j (upN 0 (doneT T T.W.length 5)) P (skipR { R with i := R.i + 1, n := R.n + 1 }) X M := by
  obtain ⟨n1, n2, n3, n4, n5⟩ := h.n
  have S1 := (h.same.install hp).setn (T.n + 1)
  have S2 : SameT (upN 0 (doneT T T.W.length 5)) (skipR { R with i := R.i + 1, n := R.n + 1 }) := by
    have e1 := skipR_n { R with i := R.i + 1 } (R.n + 1)
    rw [show ({ ({ R with i := R.i + 1 } : Rn) with n := R.n + 1 } : Rn) = { R with i := R.i + 1, n := R.n + 1 } from rfl] at e1
    rw [e1, upN_eq, doneTn, show R.n + 1 = T.n + 1 by rw [h.same.n]]
    exact S1
  have hR : (skipR { R with i := R.i + 1, n := R.n + 1 }).R = X := (skipR_R _).trans (h.rx (by rw [hp]; decide) (by rw [hp]; decide))
  have hst := h.st (.inr hp)
  have hLn : (T.L.map Wr.k).Nodup := by rw [h.lw]; exact lastW_nd h.nd
  by_cases hd : T.i + 1 = T.W.length
  · have hT : upN 0 (doneT T T.W.length 5) = { T with ph := 5, i := 0, n := T.n + 1 } := by
      rw [upN_eq, doneTn]
      unfold doneT
      rw [if_pos hd]
      rfl
    rw [hT] at S2 ⊢
    exact ⟨S2, h.px, h.who, h.gw, h.gm, h.sm, ⟨by show T.n + 1 ≤ M; omega, by omega, by omega, by omega, by omega⟩, (by constructor <;> simp), by show T.W.length ≤ M; have := h.wl; omega, h.wk, h.nd, h.lw, fun _ _ => hR,
      fun e => absurd (show (5 : Int) = 1 from e) (by decide), fun e => absurd (show (5 : Int) = 3 from e) (by decide), fun e => absurd (show (5 : Int) = 4 from e) (by decide), fun e => absurd (show (5 : Int) = 1 from e) (by decide),
      fun e => by rcases e with e | e; exact absurd (show (5 : Int) = 2 from e) (by decide); exact absurd (show (5 : Int) = 3 from e) (by decide), fun e => absurd (show (5 : Int) = 4 from e) (by decide), fun _ => hst⟩
  · have hT : upN 0 (doneT T T.W.length 5) = { T with i := T.i + 1, n := T.n + 1 } := by
      rw [upN_eq, doneTn]
      unfold doneT
      rw [if_neg hd]
    rw [hT] at S2 ⊢
    have h9 := h.i4 hp
    exact ⟨S2, h.px, h.who, h.gw, h.gm, h.sm, ⟨by show T.n + 1 ≤ M; omega, by omega, by omega, by omega, by omega⟩, h.ph, by show T.W.length ≤ M; have := h.wl; omega, h.wk, h.nd, h.lw, fun _ _ => hR,
      fun e => absurd (hp.symm.trans e) (by decide), fun e => absurd (hp.symm.trans e) (by decide), fun _ => by show T.i + 1 < T.W.length; omega, fun e => absurd (hp.symm.trans e) (by decide),
      fun e => by rcases e with e | e <;> exact absurd (hp.symm.trans e) (by decide), fun _ m y hm hy => (h.h4 hp m y (by have : T.i + 1 ≤ m := hm; omega) hy).set (nd_at hLn hy hx (by have : T.i + 1 ≤ m := hm; omega)), fun _ => hst⟩
end
end Go.Proofs.YtkhkdedjffkhdaaGreat
namespace Go.Proofs.YtkhkdedjffkhdaaGreat
open Go.RowKit Go.Maps

structure Gv (g : Ky → Option Cl) (cnt c : Nat) (L : List (Ky × Cl)) (room N : Nat) : Prop where
  sr : SR g cnt L
  ok : ∀ k y, g k = some y → k.Ok ∧ Sm y.st ∧ (y.ab = true → y.text = ⟨#[]⟩)
  cnt : cnt ≤ room
  room : room ≤ 19
  c : c ≤ 20 * N
theorem held_okL {g : Ky → Option Cl} {who : Int} {ks : List Ky} (hs : KySorted ks) (hm : ∀ k, k ∈ ks ↔ ∃ c, g k = some c ∧ heldC who c = true) : unlockOk g who ks ks.length := fun i k _ hk => by
  obtain ⟨c, h1, h2⟩ := (hm k).1 (List.mem_of_getElem? hk)
  refine ⟨by rw [h1]; exact h2, fun hmem => ?_⟩
  obtain ⟨j, hj⟩ := List.mem_iff_getElem?.1 hmem
  rw [List.getElem?_take] at hj
  split at hj
  · rename_i hji
    have h3 := List.pairwise_iff_getElem.1 hs j i (List.getElem?_eq_some_iff.1 hj).1 (List.getElem?_eq_some_iff.1 hk).1 hji
    rw [(List.getElem?_eq_some_iff.1 hj).2, (List.getElem?_eq_some_iff.1 hk).2] at h3
    have := (Ky.cmp_zero k k).2 rfl
    omega
  · cases hj
theorem unStep_other {p : (Ky → Option Cl) × Nat} {k k' : Ky} (h : k' ≠ k) : (Go.Proofs.YtkhkdedjffkhdaaGreat.unStep p k).1 k' = p.1 k' := by
  unfold Go.Proofs.YtkhkdedjffkhdaaGreat.unStep
  split
  · rfl
  · split
    · exact setG_other _ _ h
    · exact setG_other _ _ h
theorem unF_other {k' : Ky} : ∀ (ks : List Ky) (p : (Ky → Option Cl) × Nat), k' ∉ ks → (ks.foldl Go.Proofs.YtkhkdedjffkhdaaGreat.unStep p).1 k' = p.1 k'
  | [], _, _ => rfl
  | k :: ks, p, h => by
    have h1 : k' ≠ k := fun e => h (by simp [e])
    have h2 : k' ∉ ks := fun e => h (by simp [e])
    show (ks.foldl Go.Proofs.YtkhkdedjffkhdaaGreat.unStep (Go.Proofs.YtkhkdedjffkhdaaGreat.unStep p k)).1 k' = _
    rw [unF_other ks _ h2, unStep_other h1]
theorem unStep_val {p : (Ky → Option Cl) × Nat} {k k' : Ky} {y : Cl} (h : (Go.Proofs.YtkhkdedjffkhdaaGreat.unStep p k).1 k' = some y) : ∃ z, p.1 k' = some z ∧ y.st = z.st ∧ y.ab = z.ab ∧ y.text = z.text := by
  unfold Go.Proofs.YtkhkdedjffkhdaaGreat.unStep at h
  split at h
  · exact ⟨y, h, rfl, rfl, rfl⟩
  · rename_i x hx
    by_cases e : k' = k
    · subst e
      split at h
      · have h : setG p.1 k' none k' = some y := h
        rw [setG_same] at h; cases h
      · have h : setG p.1 k' (some { x with lk := false }) k' = some y := h
        rw [setG_same] at h
        cases h
        exact ⟨x, hx, rfl, rfl, rfl⟩
    · split at h
      · have h : setG p.1 k none k' = some y := h
        rw [setG_other _ _ e] at h; exact ⟨y, h, rfl, rfl, rfl⟩
      · have h : setG p.1 k (some { x with lk := false }) k' = some y := h
        rw [setG_other _ _ e] at h; exact ⟨y, h, rfl, rfl, rfl⟩
theorem unF_val {k' : Ky} {y : Cl} : ∀ (ks : List Ky) (p : (Ky → Option Cl) × Nat), (ks.foldl Go.Proofs.YtkhkdedjffkhdaaGreat.unStep p).1 k' = some y → ∃ z, p.1 k' = some z ∧ y.st = z.st ∧ y.ab = z.ab ∧ y.text = z.text
  | [], _, h => ⟨y, h, rfl, rfl, rfl⟩
  | k :: ks, p, h => by
    obtain ⟨z, h1, h2, h3, h4⟩ := unF_val ks (Go.Proofs.YtkhkdedjffkhdaaGreat.unStep p k) h
    obtain ⟨u, g1, g2, g3, g4⟩ := unStep_val h1
    exact ⟨u, g1, h2.trans g2, h3.trans g3, h4.trans g4⟩
theorem unF_cnt : ∀ (ks : List Ky) (p : (Ky → Option Cl) × Nat), (ks.foldl Go.Proofs.YtkhkdedjffkhdaaGreat.unStep p).2 ≤ p.2 + ks.length
  | [], _ => Nat.le_refl _
  | k :: ks, p => by
    have h1 := unF_cnt ks (Go.Proofs.YtkhkdedjffkhdaaGreat.unStep p k)
    have h2 : (Go.Proofs.YtkhkdedjffkhdaaGreat.unStep p k).2 ≤ p.2 + 1 := by
      unfold Go.Proofs.YtkhkdedjffkhdaaGreat.unStep
      split
      · exact Nat.le_succ _
      · split
        · exact Nat.le_refl _
        · exact Nat.le_succ _
    show (ks.foldl Go.Proofs.YtkhkdedjffkhdaaGreat.unStep (Go.Proofs.YtkhkdedjffkhdaaGreat.unStep p k)).2 ≤ p.2 + (ks.length + 1)
    omega
section
variable {g g' : Ky → Option Cl} {cnt c room i j mo N M : Nat} {L : List (Ky × Cl)} {k : Ky} {x y : Cl}
theorem Gv.mono (h : Gv g cnt c L room N) (hN : N ≤ M) : Gv g cnt c L room M := ⟨h.sr, h.ok, h.cnt, h.room, by have := h.c; omega⟩
theorem Gv.keys (h : Gv g cnt c L room N) : ∀ q ∈ L, q.1.Ok := fun q hq => (h.ok q.1 q.2 (by rw [h.sr.g]; exact mem_look h.sr.nd hq)).1
theorem Gv.len (h : Gv g cnt c L room N) : L.length ≤ 19 := by have h1 := h.sr.cnt; have h2 := h.cnt; have h3 := h.room; omega
theorem Gv.look (h : Gv g cnt c L room N) (k : Ky) : lookL L k = g k := by rw [h.sr.g]
theorem Gv.seen (h : Gv g cnt c L room N) (k : Ky) : (snOf (g k)).val.size = 0 ∨ (snOf (g k)).has = true := by
  cases hg : g k with
  | none => exact .inl rfl
  | some y =>
    cases ha : y.ab with
    | true =>
      refine .inl ?_
      show y.text.size = 0
      rw [(h.ok k y hg).2.2 ha]
      rfl
    | false => refine .inr ?_; unfold snOf; simp [ha]
theorem Gv.lockNew (h : Gv g cnt c L room N) (hk : k.Ok) (hg : g k = none) (hc : cnt < room) (who : Int) :
    Gv (setG g k (some ⟨0, true, true, ⟨#[]⟩, who⟩)) (cnt + 1) c (lockL room L k who).2.2 room N ∧ (lockL room L k who).1 = 0 ∧ (lockL room L k who).2.1 = 0 := by
  have hl : lookL L k = none := (h.look k).trans hg
  have e : lockL room L k who = (0, 0, L ++ [(k, lockT noCl who)]) := by
    unfold lockL
    rw [hl]
    simp only
    rw [if_neg (by have := h.sr.cnt; omega)]
  rw [e]
  refine ⟨⟨h.sr.app hl, fun k' y' hy => ?_, hc, h.room, h.c⟩, rfl, rfl⟩
  by_cases e : k' = k
  · subst e
    rw [setG_same] at hy
    cases hy
    exact ⟨hk, by show 0 < _; decide, fun _ => rfl⟩
  · rw [setG_other _ _ e] at hy
    exact h.ok k' y' hy
theorem Gv.lockFree (h : Gv g cnt c L room N) (hg : g k = some y) (hl : y.lk = false) (who : Int) :
    Gv (setG g k (some { y with lk := true, who := who })) cnt c (lockL room L k who).2.2 room N ∧ (lockL room L k who).1 = y.st ∧ (lockL room L k who).2.1 = 0 := by
  have h1 : lookL L k = some y := (h.look k).trans hg
  have e : lockL room L k who = (y.st, 0, updL k (lockT y who) L) := by
    unfold lockL
    rw [h1]
    simp [hl]
  rw [e]
  refine ⟨⟨h.sr.upd h1, fun k' y' hy => ?_, h.cnt, h.room, h.c⟩, rfl, rfl⟩
  by_cases e : k' = k
  · subst e
    rw [setG_same] at hy
    cases hy
    exact h.ok k' y hg
  · rw [setG_other _ _ e] at hy
    exact h.ok k' y' hy
theorem Gv.lockBusy (h : Gv g cnt c L room N) (hg : g k = some y) (hl : y.lk = true) (who : Int) : (lockL room L k who).2.1 = 60 := by
  have h1 : lookL L k = some y := (h.look k).trans hg
  unfold lockL
  rw [h1]
  simp [hl]
theorem Gv.lockFull (h : Gv g cnt c L room N) (hg : g k = none) (hc : cnt = room) (who : Int) : (lockL room L k who).2.1 = 50 := by
  have h1 : lookL L k = none := (h.look k).trans hg
  unfold lockL
  rw [h1]
  simp only
  rw [if_pos (by have := h.sr.cnt; omega)]
theorem Gv.inst (h : Gv g cnt c L room N) (hg : g k = some y) (hl : y.lk = true) {who : Int} (hw : y.who = who) {t : Nat} (ht : Sm t) (hst : y.st < t) {vs : ByteArray} {vh : Bool} (hv : vh = false → vs = ⟨#[]⟩) :
    Gv (setG g k (some { y with st := t, lk := false, ab := !vh, text := vs })) cnt c (instL L k who t vs vh).2 room N := by
  have h1 : lookL L k = some y := (h.look k).trans hg
  have e : (instL L k who t vs vh).2 = updL k ⟨t, false, !vh, vs, y.who⟩ L := by
    unfold instL
    rw [h1]
    simp only
    rw [if_pos (by unfold holdsV; simp [hl, hw]), if_neg (by
      unfold Sm at ht
      intro hb
      rcases hb with hb | hb | hb
      · omega
      · omega
      · rw [hv hb.2] at hb
        exact hb.1 (by rw [ByteArray.toList_eq]))]
  rw [e]
  refine ⟨h.sr.upd h1, fun k' y' hy => ?_, h.cnt, h.room, h.c⟩
  by_cases e : k' = k
  · subst e
    rw [setG_same] at hy
    cases hy
    refine ⟨(h.ok _ _ hg).1, ht, fun ha => hv ?_⟩
    cases vh
    · rfl
    · exact absurd (show (!true) = true from ha) (by decide)
  · rw [setG_other _ _ e] at hy
    exact h.ok k' y' hy
theorem Gv.over (h : Gv g cnt c L room N) {ks : List Ky} (hs : KySorted ks) (hm : ∀ k, k ∈ ks ↔ ∃ c, g k = some c ∧ heldC (j : Int) c = true) (hN : N + 1 ≤ M) :
    Gv (unG g ks).1 (cnt - (unG g ks).2) (c + (unG g ks).2) (ovL L j) room M ∧ Keeps g (unG g ks).1 j := by
  have e1 : ks = keysL (heldC (j : Int)) L := h.sr.keys hs hm
  have hl : ks.length ≤ 19 := by
    have h1 := keysL_len (heldC (j : Int)) L
    rw [← e1] at h1
    have := h.len
    omega
  have hu : ovL L j = unL L ks := by
    unfold ovL unlL
    rw [← e1, if_pos (held_okL hs (fun k => by rw [hm, h.sr.g]))]
  have hc := unF_cnt ks (g, 0)
  rw [hu]
  refine ⟨⟨h.sr.un ks, fun k y hy => ?_, by have := h.cnt; omega, h.room, ?_⟩, fun k y hy hlk hw => ?_⟩
  · obtain ⟨z, h1, h2, h3, h4⟩ := unF_val ks (g, 0) hy
    have h9 := h.ok k z h1
    rw [h2, h3, h4]
    exact h9
  · have h9 := h.c
    have h8 : (unG g ks).2 ≤ 0 + ks.length := hc
    omega
  · refine (unF_other ks (g, 0) (fun hk => ?_)).trans hy
    obtain ⟨c0, h1, h2⟩ := (hm k).1 hk
    rw [hy] at h1
    cases h1
    unfold heldC at h2
    simp at h2
    exact hw h2.2
theorem Keeps.set {o : Option Cl} (h : g k = none ∨ ∃ y, g k = some y ∧ (y.lk = false ∨ y.who = (j : Int))) : Keeps g (setG g k o) j := fun k' y' hy hl hw => by
  by_cases e : k' = k
  · subst e
    rcases h with h | ⟨y, h, h2⟩
    · rw [h] at hy; cases hy
    · rw [h] at hy
      cases hy
      rcases h2 with h2 | h2
      · rw [h2] at hl; cases hl
      · exact absurd h2 hw
  · rw [setG_other _ _ e]; exact hy
end
theorem nextW_ok {x : Nat} {ep : Int} {st : Nat} {code : Int} (h : nextW x ep = (st, code)) (hc : code = 0) : x < st ∧ Sm st := by
  unfold nextW at h
  split at h
  · injection h with h1 h2
    omega
  · split at h
    · injection h with h1 h2
      omega
    · injection h with h1 h2
      unfold Sm
      omega
end Go.Proofs.YtkhkdedjffkhdaaGreat
namespace Go.Proofs.YtkhkdedjffkhdaaGreat
open Go.RowKit Go.Maps

/-- whose a block is -/
inductive Co where
  | st
  | tx (j : Nat)
  | rs
  | rx (j : Nat)
  | pt
def updN {α : Type} (f : Nat → α) (j : Nat) (x : α) : Nat → α := fun i => if i = j then x else f i
theorem updN_same {α : Type} (f : Nat → α) (j : Nat) (x : α) : updN f j x j = x := if_pos rfl
theorem updN_other {α : Type} (f : Nat → α) {i j : Nat} (x : α) (h : i ≠ j) : updN f j x i = f i := if_neg h
/-- where all lies -/
structure W3 where
  a : Nat → Ta
  s : Sto
  b : Nat → Ra
  rb : Nat
  room : Nat
  v : Value
  tp : Nat
  rp : Nat
def W3.own (m : W3) : Co → Nat → Prop
  | .st => m.s.fp
  | .tx j => fun i => j < 3 ∧ (m.a j).fp i
  | .rs => RF m.rb m.v
  | .rx j => fun i => j < 3 ∧ (m.b j).fp i
  | .pt => fun i => i = m.tp ∨ i = m.rp
/-- what all say -/
structure S3 where
  T : Nat → Tn
  P : Nat → Ps
  R : Nat → Rn
  X : Nat → List Rx
  L : List (Ky × Cl)
def W3.tx (m : W3) (j : Nat) (a : Ta) (s : Sto) : W3 := { m with a := updN m.a j a, s := s }
def W3.rx (m : W3) (j : Nat) (b : Ra) (v : Value) : W3 := { m with b := updN m.b j b, v := v }
def S3.tx (p : S3) (j : Nat) (T : Tn) (P : Ps) : S3 := { p with T := updN p.T j T, P := updN p.P j P }
def S3.rx (p : S3) (j : Nat) (R : Rn) (X : List Rx) (L : List (Ky × Cl)) : S3 := { p with R := updN p.R j R, X := updN p.X j X, L := L }
structure M3 (w0 w : World) (m : W3) (p : S3) : Prop where
  tx : ∀ j, j < 3 → OcM w (m.a j) (p.T j) (p.P j)
  st : StC w m.s
  cb : ∀ j, j < 3 → m.s.sb = (m.a j).m.cb
  rx : ∀ j, j < 3 → RqM w (m.b j) (p.R j) (p.X j)
  rs : RO w m.rb 0 m.room m.v p.L
  rcb : ∀ j, j < 3 → (m.b j).m.cb = m.rb
  ap : ∀ c d i, c ≠ d → m.own c i → ¬ m.own d i
  new : ∀ c i, m.own c i → w0.heap.size ≤ i
  tc : ∀ j, j < 3 → w.cell? ⟨m.tp, j, none⟩ = some (.pointer (some ⟨(m.a j).m.tb, 0, none⟩))
  rc : ∀ j, j < 3 → w.cell? ⟨m.rp, j, none⟩ = some (.pointer (some ⟨(m.b j).m.tb, 0, none⟩))
  pl : m.tp < w.heap.size ∧ m.rp < w.heap.size
/-- what calls change -/
structure Kp (w w' : World) (m m' : W3) : Prop where
  chg : Chg w w' (fun i => ∃ c, c ≠ .pt ∧ m.own c i)
  new : ∀ c i, m'.own c i → m.own c i ∨ w.heap.size ≤ i
section
variable {w0 w w' w2 : World} {m m' m2 : W3} {p p' : S3} {j : Nat}
theorem M3.lt (h : M3 w0 w m p) {c : Co} {i : Nat} (hi : m.own c i) : i < w.heap.size := by
  cases c with
  | st => exact h.st.lt hi
  | tx j => exact (h.tx j hi.1).lt hi.2
  | rs => exact rf_lt h.rs hi
  | rx j => exact (h.rx j hi.1).lt hi.2
  | pt => rcases hi with rfl | rfl; exact h.pl.1; exact h.pl.2
theorem Kp.below (hb : Below w.heap.size w w') (m : W3) : Kp w w' m m := ⟨Chg.of_below hb _, fun _ _ h => .inl h⟩
theorem Kp.trans (h : Kp w w' m m') (k : Kp w' w2 m' m2) : Kp w w2 m m2 := by
  refine ⟨h.chg.trans k.chg (fun i hi hh => ?_), fun c i hi => ?_⟩
  · obtain ⟨c, hp, hc⟩ := hh
    rcases h.new c i hc with e | e
    · exact ⟨c, hp, e⟩
    · omega
  · rcases k.new c i hi with e | e
    · exact h.new c i e
    · exact .inr (Nat.le_trans h.chg.size e)
/-- a block that is nobody's stays -/
theorem Kp.stay (h : Kp w w' m m') {i : Nat} {X : Obj} (hb : w.heap[i]? = some X) (hn : ∀ c, ¬ m.own c i) : w'.heap[i]? = some X ∧ ∀ c, ¬ m'.own c i := by
  have hl := (Array.getElem?_eq_some_iff.1 hb).1
  refine ⟨(h.chg.block i hl (fun ⟨c, _, hc⟩ => hn c hc)).trans hb, fun c hc => ?_⟩
  rcases h.new c i hc with e | e
  · exact hn c e
  · omega
theorem M3.below (h : M3 w0 w m p) (hb : Below w.heap.size w w') : M3 w0 w' m p := by
  have hc : ∀ b o, b < w.heap.size → w'.cell? ⟨b, o, none⟩ = w.cell? ⟨b, o, none⟩ := fun b o hl => World.cell?_of_block (a := ⟨b, o, none⟩) (hb.block b hl)
  exact ⟨fun j hj => (h.tx j hj).below hb, h.st.stay hb, h.cb, fun j hj => (h.rx j hj).below hb, h.rs.below hb, h.rcb, h.ap, h.new, fun j hj => (hc _ _ h.pl.1).trans (h.tc j hj), fun j hj => (hc _ _ h.pl.2).trans (h.rc j hj), by have := hb.size; have := h.pl; omega⟩
theorem W3.own_tx {a : Ta} {s : Sto} {c : Co} {i : Nat} (hj : j < 3) (haf : ∀ i, a.fp i → (m.a j).fp i ∨ w.heap.size ≤ i) (hsf : ∀ i, s.fp i → m.s.fp i ∨ w.heap.size ≤ i) (h : (m.tx j a s).own c i) : m.own c i ∨ (w.heap.size ≤ i ∧ (c = .st ∨ c = .tx j)) := by
  cases c with
  | st =>
    rcases hsf i h with e | e
    · exact .inl e
    · exact .inr ⟨e, .inl rfl⟩
  | tx q =>
    by_cases e : q = j
    · subst e
      have h2 : a.fp i := by have := h.2; rw [show (m.tx q a s).a q = a from updN_same _ _ _] at this; exact this
      rcases haf i h2 with e | e
      · exact .inl ⟨hj, e⟩
      · exact .inr ⟨e, .inr rfl⟩
    · have h2 := h.2
      rw [show (m.tx j a s).a q = m.a q from updN_other _ _ e] at h2
      exact .inl ⟨h.1, h2⟩
  | rs => exact .inl h
  | rx q => exact .inl h
  | pt => exact .inl h
theorem W3.own_rx {b : Ra} {v : Value} {c : Co} {i : Nat} (hj : j < 3) (haf : ∀ i, b.fp i → (m.b j).fp i ∨ w.heap.size ≤ i) (hsf : ∀ i, v.ownBlock = some i → m.v.ownBlock = some i ∨ w.heap.size ≤ i) (h : (m.rx j b v).own c i) : m.own c i ∨ (w.heap.size ≤ i ∧ (c = .rs ∨ c = .rx j)) := by
  cases c with
  | rs =>
    rcases h with e | e
    · exact .inl (.inl e)
    · rcases hsf i e with e | e
      · exact .inl (.inr e)
      · exact .inr ⟨e, .inl rfl⟩
  | rx q =>
    by_cases e : q = j
    · subst e
      have h2 : b.fp i := by have := h.2; rw [show (m.rx q b v).b q = b from updN_same _ _ _] at this; exact this
      rcases haf i h2 with e | e
      · exact .inl ⟨hj, e⟩
      · exact .inr ⟨e, .inr rfl⟩
    · have h2 := h.2
      rw [show (m.rx j b v).b q = m.b q from updN_other _ _ e] at h2
      exact .inl ⟨h.1, h2⟩
  | st => exact .inl h
  | tx q => exact .inl h
  | pt => exact .inl h
/-- a turn of the program's transaction -/
theorem M3.turn (h : M3 w0 w m p) (hj : j < 3) {a : Ta} {s : Sto} {T : Tn} {P : Ps} (hA : OcA w' a T P s) (hT : OcT w w' (m.a j) a m.s s) : M3 w0 w' (m.tx j a s) (p.tx j T P) ∧ Kp w w' m (m.tx j a s) := by
  have hown : ∀ c i, (m.tx j a s).own c i → m.own c i ∨ (w.heap.size ≤ i ∧ (c = .st ∨ c = .tx j)) := fun c i => W3.own_tx hj hT.af hT.sf
  have hS : Chg w w' (fun i => m.own (.tx j) i ∨ m.own .st i) := hT.chg.mono (fun i _ e => by rcases e with e | e; exact .inl ⟨hj, e⟩; exact .inr e)
  have hno : ∀ c, c ≠ .tx j → c ≠ .st → ∀ i, m.own c i → ¬ (m.own (.tx j) i ∨ m.own .st i) := fun c h1 h2 i hi e => by
    rcases e with e | e
    · exact h.ap c _ i h1 hi e
    · exact h.ap c _ i h2 hi e
  have hcell : ∀ b o, m.own .pt b → w'.cell? ⟨b, o, none⟩ = w.cell? ⟨b, o, none⟩ := fun b o hb => World.cell?_of_block (a := ⟨b, o, none⟩) (hS.block b (h.lt hb) (hno .pt (by intro e; cases e) (by intro e; cases e) b hb))
  refine ⟨⟨fun q hq => ?_, hA.st, fun q hq => ?_, fun q hq => ?_, ?_, h.rcb, fun c d i hcd hc hd => ?_, fun c i hi => ?_, fun q hq => ?_, fun q hq => ?_, by have := hS.size; have := h.pl; exact ⟨by show m.tp < _; omega, by show m.rp < _; omega⟩⟩, ⟨hS.mono (fun i _ e => by rcases e with e | e; exact ⟨_, (by intro e2; cases e2), e⟩; exact ⟨_, (by intro e2; cases e2), e⟩), fun c i hi => by rcases hown c i hi with e | e; exact .inl e; exact .inr e.1⟩⟩
  · by_cases e : q = j
    · subst e
      show OcM w' (updN m.a q a q) (updN p.T q T q) (updN p.P q P q)
      rw [updN_same, updN_same, updN_same]
      exact hA.mm
    · show OcM w' (updN m.a j a q) (updN p.T j T q) (updN p.P j P q)
      rw [updN_other _ _ e, updN_other _ _ e, updN_other _ _ e]
      exact (h.tx q hq).keep hS (fun i hi => hno (.tx q) (by intro e2; injection e2 with e2; exact e e2) (by intro e2; cases e2) i ⟨hq, hi⟩)
  · show s.sb = (updN m.a j a q).m.cb
    by_cases e : q = j
    · subst e
      rw [updN_same]
      exact hA.cb
    · rw [updN_other _ _ e, hT.sb]
      exact h.cb q hq
  · exact (h.rx q hq).keep hS (fun i hi => hno (.rx q) (by intro e2; cases e2) (by intro e2; cases e2) i ⟨hq, hi⟩)
  · exact ro_keep h.rs hS (fun i hi => hno .rs (by intro e2; cases e2) (by intro e2; cases e2) i hi)
  · rcases hown c i hc with e1 | e1
    · rcases hown d i hd with e2 | e2
      · exact h.ap c d i hcd e1 e2
      · have := h.lt e1; omega
    · rcases hown d i hd with e2 | e2
      · have := h.lt e2; omega
      · have hfp : ∀ i, (m.tx j a s).own (.tx j) i → a.fp i := fun i hi => by have := hi.2; rw [show (m.tx j a s).a j = a from updN_same _ _ _] at this; exact this
        rcases e1.2 with rfl | rfl
        · rcases e2.2 with rfl | rfl
          · exact hcd rfl
          · exact hA.ap i (hfp i hd) hc
        · rcases e2.2 with rfl | rfl
          · exact hA.ap i (hfp i hc) hd
          · exact hcd rfl
  · rcases hown c i hi with e | e
    · exact h.new c i e
    · have := e.1
      have h9 := h.new .pt m.tp (.inl rfl)
      have := h.pl.1
      omega
  · show w'.cell? ⟨m.tp, q, none⟩ = some (.pointer (some ⟨(updN m.a j a q).m.tb, 0, none⟩))
    rw [hcell _ _ (.inl rfl), h.tc q hq]
    by_cases e : q = j
    · subst e
      rw [updN_same, hT.tb]
    · rw [updN_other _ _ e]
  · show w'.cell? ⟨m.rp, q, none⟩ = some (.pointer (some ⟨(m.b q).m.tb, 0, none⟩))
    rw [hcell _ _ (.inr rfl), h.rc q hq]
/-- a turn of the reference's transaction -/
theorem M3.rturn (h : M3 w0 w m p) (hj : j < 3) {b : Ra} {v : Value} {R : Rn} {X : List Rx} {L : List (Ky × Cl)} (hA : RqA w' b R X m.rb m.room v L) (hT : RqT w w' (m.b j) b m.rb m.v v) : M3 w0 w' (m.rx j b v) (p.rx j R X L) ∧ Kp w w' m (m.rx j b v) := by
  have hown : ∀ c i, (m.rx j b v).own c i → m.own c i ∨ (w.heap.size ≤ i ∧ (c = .rs ∨ c = .rx j)) := fun c i => W3.own_rx hj hT.af hT.vf
  have hS : Chg w w' (fun i => m.own (.rx j) i ∨ m.own .rs i) := hT.chg.mono (fun i _ e => by rcases e with e | e; exact .inl ⟨hj, e⟩; exact .inr e)
  have hno : ∀ c, c ≠ .rx j → c ≠ .rs → ∀ i, m.own c i → ¬ (m.own (.rx j) i ∨ m.own .rs i) := fun c h1 h2 i hi e => by
    rcases e with e | e
    · exact h.ap c _ i h1 hi e
    · exact h.ap c _ i h2 hi e
  have hcell : ∀ b o, m.own .pt b → w'.cell? ⟨b, o, none⟩ = w.cell? ⟨b, o, none⟩ := fun b o hb => World.cell?_of_block (a := ⟨b, o, none⟩) (hS.block b (h.lt hb) (hno .pt (by intro e; cases e) (by intro e; cases e) b hb))
  refine ⟨⟨fun q hq => ?_, ?_, h.cb, fun q hq => ?_, hA.st, fun q hq => ?_, fun c d i hcd hc hd => ?_, fun c i hi => ?_, fun q hq => ?_, fun q hq => ?_, by have := hS.size; have := h.pl; exact ⟨by show m.tp < _; omega, by show m.rp < _; omega⟩⟩, ⟨hS.mono (fun i _ e => by rcases e with e | e; exact ⟨_, (by intro e2; cases e2), e⟩; exact ⟨_, (by intro e2; cases e2), e⟩), fun c i hi => by rcases hown c i hi with e | e; exact .inl e; exact .inr e.1⟩⟩
  · exact (h.tx q hq).keep hS (fun i hi => hno (.tx q) (by intro e2; cases e2) (by intro e2; cases e2) i ⟨hq, hi⟩)
  · exact h.st.keep (fun i hi => hS.block i (h.st.lt hi) (hno .st (by intro e2; cases e2) (by intro e2; cases e2) i hi))
  · by_cases e : q = j
    · subst e
      show RqM w' (updN m.b q b q) (updN p.R q R q) (updN p.X q X q)
      rw [updN_same, updN_same, updN_same]
      exact hA.mm
    · show RqM w' (updN m.b j b q) (updN p.R j R q) (updN p.X j X q)
      rw [updN_other _ _ e, updN_other _ _ e, updN_other _ _ e]
      exact (h.rx q hq).keep hS (fun i hi => hno (.rx q) (by intro e2; injection e2 with e2; exact e e2) (by intro e2; cases e2) i ⟨hq, hi⟩)
  · show (updN m.b j b q).m.cb = m.rb
    by_cases e : q = j
    · subst e
      rw [updN_same]
      exact hA.cb
    · rw [updN_other _ _ e]
      exact h.rcb q hq
  · rcases hown c i hc with e1 | e1
    · rcases hown d i hd with e2 | e2
      · exact h.ap c d i hcd e1 e2
      · have := h.lt e1; omega
    · rcases hown d i hd with e2 | e2
      · have := h.lt e2; omega
      · have hfp : ∀ i, (m.rx j b v).own (.rx j) i → b.fp i := fun i hi => by have := hi.2; rw [show (m.rx j b v).b j = b from updN_same _ _ _] at this; exact this
        rcases e1.2 with rfl | rfl
        · rcases e2.2 with rfl | rfl
          · exact hcd rfl
          · exact hA.mm.apart hA.st (hfp i hd) hc
        · rcases e2.2 with rfl | rfl
          · exact hA.mm.apart hA.st (hfp i hc) hd
          · exact hcd rfl
  · rcases hown c i hi with e | e
    · exact h.new c i e
    · have := e.1
      have h9 := h.new .pt m.tp (.inl rfl)
      have := h.pl.1
      omega
  · show w'.cell? ⟨m.tp, q, none⟩ = some (.pointer (some ⟨(m.a q).m.tb, 0, none⟩))
    rw [hcell _ _ (.inl rfl), h.tc q hq]
  · show w'.cell? ⟨m.rp, q, none⟩ = some (.pointer (some ⟨(updN m.b j b q).m.tb, 0, none⟩))
    rw [hcell _ _ (.inr rfl), h.rc q hq]
    by_cases e : q = j
    · subst e
      rw [updN_same, hT.tb]
    · rw [updN_other _ _ e]
/-- the rows of pointers stay -/
theorem Kp.rows (h : Kp w w' m m') (hM : M3 w0 w m p) (o : Nat) : w'.cell? ⟨m.tp, o, none⟩ = w.cell? ⟨m.tp, o, none⟩ ∧ w'.cell? ⟨m.rp, o, none⟩ = w.cell? ⟨m.rp, o, none⟩ :=
  ⟨World.cell?_of_block (a := ⟨m.tp, o, none⟩) (h.chg.block m.tp hM.pl.1 (fun ⟨c, hc, ho⟩ => hM.ap c .pt m.tp hc ho (.inl rfl))), World.cell?_of_block (a := ⟨m.rp, o, none⟩) (h.chg.block m.rp hM.pl.2 (fun ⟨c, hc, ho⟩ => hM.ap c .pt m.rp hc ho (.inr rfl)))⟩
theorem Kp.bel (h : Kp w w' m m') (hM : M3 w0 w m p) (hb : Below w0.heap.size w0 w) : Below w0.heap.size w0 w' := chg_fresh h.chg hb (Nat.le_refl _) (fun i ⟨c, _, hc⟩ => hM.new c i hc)
/-- one transaction beside its store -/
theorem M3.oca (h : M3 w0 w m p) (hj : j < 3) : OcA w (m.a j) (p.T j) (p.P j) m.s := ⟨h.tx j hj, h.st, h.cb j hj, fun i hi hs => h.ap (.tx j) .st i (by intro e; cases e) ⟨hj, hi⟩ hs⟩
theorem M3.rqa (h : M3 w0 w m p) (hj : j < 3) : RqA w (m.b j) (p.R j) (p.X j) m.rb m.room m.v p.L := ⟨h.rx j hj, h.rs, h.rcb j hj⟩
end
end Go.Proofs.YtkhkdedjffkhdaaGreat
namespace Go.Proofs.YtkhkdedjffkhdaaGreat
open Go.RowKit Go.Maps

/-- what the program's call leaves -/
def PP (w0 u : World) (m : W3) (p : S3) (j : Nat) (vf : Tn → Value) (G : Tn → Ps → Sto → Prop) (e : Ending) (u' : World) : Prop :=
  ∃ a' s' T' P', e = .returned (vf T') ∧ G T' P' s' ∧ (s'.ar.room = m.s.ar.room ∧ s'.sb = m.s.sb ∧ a'.m.tb = (m.a j).m.tb ∧ a'.m.sb = (m.a j).m.sb) ∧ M3 w0 u' (m.tx j a' s') (p.tx j T' P') ∧ Kp u u' m (m.tx j a' s')
/-- what the reference's call leaves -/
def RP (w0 u : World) (m : W3) (p : S3) (j : Nat) (v : Value) (H : Rn → List Rx → List (Ky × Cl) → Prop) (e : Ending) (u' : World) : Prop :=
  e = .returned v ∧ ∃ b' v' R' X' L', H R' X' L' ∧ (b'.m.tb = (m.b j).m.tb ∧ b'.m.sb = (m.b j).m.sb) ∧ M3 w0 u' (m.rx j b' v') (p.rx j R' X' L') ∧ Kp u u' m (m.rx j b' v')
/-- all that is plain -/
structure V3 (m : W3) (p : S3) (N : Nat) : Prop where
  room : m.s.ar.room = m.room
  g : Gv m.s.g m.s.cnt m.s.c p.L m.room N
  v : ∀ j, j < 3 → Tv m.s.g j (p.T j) (p.P j) (p.R j) (p.X j) N
/-- the two calls' outcome, plainly -/
def Vj (m : W3) (j N : Nat) (T' : Tn) (P' : Ps) (s' : Sto) (R' : Rn) (X' : List Rx) (L' : List (Ky × Cl)) : Prop :=
  Gv s'.g s'.cnt s'.c L' m.room (N + 1) ∧ Keeps m.s.g s'.g j ∧ Tv s'.g j T' P' R' X' (N + 1)
theorem V3.next {m : W3} {p : S3} {j N : Nat} {a' : Ta} {s' : Sto} {T' : Tn} {P' : Ps} {b' : Ra} {v' : Value} {R' : Rn} {X' : List Rx} {L' : List (Ky × Cl)} (h : V3 m p N) (hr : s'.ar.room = m.s.ar.room) (hv : Vj m j N T' P' s' R' X' L') :
    V3 ((m.tx j a' s').rx j b' v') ((p.tx j T' P').rx j R' X' L') (N + 1) := by
  obtain ⟨h1, h2, h3⟩ := hv
  refine ⟨hr.trans h.room, h1, fun i hi => ?_⟩
  show Tv s'.g i (updN p.T j T' i) (updN p.P j P' i) (updN p.R j R' i) (updN p.X j X' i) (N + 1)
  by_cases e : i = j
  · subst e
    rw [updN_same, updN_same, updN_same, updN_same]
    exact h3
  · rw [updN_other _ _ e, updN_other _ _ e, updN_other _ _ e, updN_other _ _ e]
    exact (h.v i hi).other h2 e (Nat.le_succ _)
/-- calls of the program and of the reference that leave the same -/
structure Duo (w0 : World) (m : W3) (p : S3) (j N : Nat) (f1 : Nat) (x1 : Array Value) (vf : Tn → Value) (f2 : Nat) (x2 : Array Value) (v2 : Value) (G : Tn → Ps → Sto → Prop) (H : Rn → List Rx → List (Ky × Cl) → Prop) : Prop where
  pr : ∀ u m' p', M3 w0 u m' p' → m'.a j = m.a j → m'.s = m.s → p'.T j = p.T j → p'.P j = p.P j → Calls Tryz.prog f1 x1 u (PP w0 u m' p' j vf G)
  rf : ∀ u m' p', M3 w0 u m' p' → m'.b j = m.b j → m'.rb = m.rb → m'.room = m.room → m'.v = m.v → p'.R j = p.R j → p'.X j = p.X j → p'.L = p.L → Calls Tryz.prog f2 x2 u (RP w0 u m' p' j v2 H)
  pl : ∀ T' P' s' R' X' L', G T' P' s' → H R' X' L' → Vj m j N T' P' s' R' X' L'
section
variable {w0 w u u' : World} {m m' : W3} {p p' : S3} {j N : Nat} {vf : Tn → Value} {v2 : Value} {G : Tn → Ps → Sto → Prop} {H : Rn → List Rx → List (Ky × Cl) → Prop} {e : Ending} {k : Ky}
theorem pp_of {a a' : Ta} {s s' : Sto} {T' : Tn} {P' : Ps} (h : M3 w0 u m' p') (hj : j < 3) (e1 : m'.a j = a) (e2 : m'.s = s) (hA : OcA u' a' T' P' s') (hT : OcT u u' a a' s s') (hG : G T' P' s') (he : e = .returned (vf T')) (hsb : a'.m.sb = a.m.sb := by rfl) : PP w0 u m' p' j vf G e u' := by
  have hT2 : OcT u u' (m'.a j) a' m'.s s' := by rw [e1, e2]; exact hT
  exact ⟨a', s', T', P', he, hG, ⟨hT2.room, hT2.sb, hT2.tb, by rw [e1]; exact hsb⟩, h.turn hj hA hT2⟩
theorem rp_of {b : Ra} {v0 : Value} {rb room : Nat} {R' : Rn} {X' : List Rx} {L' : List (Ky × Cl)} (h : M3 w0 u m' p') (hj : j < 3) (e1 : m'.b j = b) (e2 : m'.rb = rb) (e3 : m'.room = room) (e4 : m'.v = v0) (hP : RqP u b R' X' rb room v0 L' u') (hH : H R' X' L') (he : e = .returned v2) : RP w0 u m' p' j v2 H e u' := by
  subst e1 e2 e3 e4
  obtain ⟨b', v', hA, hT⟩ := hP
  exact ⟨he, b', v', R', X', L', hH, ⟨hT.tb, hT.sb⟩, h.rturn hj hA hT⟩
theorem rq_same {b : Ra} {v0 : Value} {rb room : Nat} {R : Rn} {X : List Rx} {L : List (Ky × Cl)} (h : RqA u b R X rb room v0 L) (hb : Below u.heap.size u u') : RqP u b R X rb room v0 L u' := ⟨b, v0, h.below hb, RqT.below hb b rb v0⟩
/-- nothing has changed: the state once more -/
theorem V3.same (h : V3 m p N) (hj : j < 3) : Vj m j N (p.T j) (p.P j) m.s (p.R j) (p.X j) p.L := ⟨h.g.mono (Nat.le_succ _), Keeps.refl _ _, (h.v j hj).mono (Nat.le_succ _)⟩
def GSame (m : W3) (p : S3) (j : Nat) (T : Tn) (P : Ps) (s : Sto) : Prop := T = p.T j ∧ P = p.P j ∧ s = m.s
def HSame (p : S3) (j : Nat) (R : Rn) (X : List Rx) (L : List (Ky × Cl)) : Prop := R = p.R j ∧ X = p.X j ∧ L = p.L
theorem V3.sames (h : V3 m p N) (hj : j < 3) {T' : Tn} {P' : Ps} {s' : Sto} {R' : Rn} {X' : List Rx} {L' : List (Ky × Cl)} (hG : GSame m p j T' P' s') (hH : HSame p j R' X' L') : Vj m j N T' P' s' R' X' L' := by
  obtain ⟨rfl, rfl, rfl⟩ := hG
  obtain ⟨rfl, rfl, rfl⟩ := hH
  exact h.same hj
theorem duo_fetch (hV : V3 m p N) (hj : j < 3) (hk : k.Ok) (hN : N ≤ 1000) :
    ∃ (code : Int) (G : Tn → Ps → Sto → Prop) (H : Rn → List Rx → List (Ky × Cl) → Prop), Duo w0 m p j N 18 #[.pointer (some ⟨(m.a j).m.tb, 0, none⟩), .agg #[.int .i64 k.kind, .int .i64 k.a, .int .i64 k.b, .string k.s]] (fun _ => .int .i64 code) 26 #[.pointer (some ⟨(m.b j).m.tb, 0, none⟩), .agg #[.int .i64 k.kind, .int .i64 k.a, .int .i64 k.b, .string k.s]] (.int .i64 code) G H := by
  have hv := hV.v j hj
  obtain ⟨n1, n2, n3, n4, n5⟩ := hv.n
  have hlk : lookL p.L k = m.s.g k := hV.g.look k
  have hP : ∀ u m' p', M3 w0 u m' p' → m'.a j = m.a j → m'.s = m.s → p'.T j = p.T j → p'.P j = p.P j → Calls Tryz.prog 18 #[.pointer (some ⟨(m.a j).m.tb, 0, none⟩), .agg #[.int .i64 k.kind, .int .i64 k.a, .int .i64 k.b, .string k.s]] u (FtPost u (m.a j) (p.T j) (p.P j) m.s k) := fun u m' p' h e1 e2 e3 e4 => by
    have hA := h.oca hj
    rw [e1, e2, e3, e4] at hA
    exact fetch_a hA hk hv.sm.1 (fun x hx => (hV.g.ok k x hx).2.1) (by omega) (by omega) (hV.g.seen k)
  have hR : ∀ u m' p', M3 w0 u m' p' → m'.b j = m.b j → m'.rb = m.rb → m'.room = m.room → m'.v = m.v → p'.R j = p.R j → p'.X j = p.X j → p'.L = p.L → RqA u (m.b j) (p.R j) (p.X j) m.rb m.room m.v p.L ∧ Calls Tryz.prog 26 #[.pointer (some ⟨(m.b j).m.tb, 0, none⟩), .agg #[.int .i64 k.kind, .int .i64 k.a, .int .i64 k.b, .string k.s]] u (FeR u (m.b j) (p.R j) (p.X j) m.rb m.room m.v p.L k (m.s.g k)) := fun u m' p' h e1 e2 e3 e4 e5 e6 e7 => by
    have hA := h.rqa hj
    rw [e1, e2, e3, e4, e5, e6, e7] at hA
    have h9 := r20Fetch_any (k := k) hA (by omega) hv.px.ok (by rw [hv.same.n]; omega) (by rw [hlk]; exact hV.g.seen k)
    rw [hlk] at h9
    exact ⟨hA, h9⟩
  have hph := hv.same.ph
  by_cases h0 : (p.T j).ph = 0
  case neg =>
    refine ⟨200, GSame m p j, HSame p j, ⟨fun u m' p' h e1 e2 e3 e4 => (hP u m' p' h e1 e2 e3 e4).mono (fun e u' hp => ?_), fun u m' p' h e1 e2 e3 e4 e5 e6 e7 => (hR u m' p' h e1 e2 e3 e4 e5 e6 e7).2.mono (fun e u' hp => ?_), fun T' P' s' R' X' L' hG hH => hV.sames hj hG hH⟩⟩
    · rcases hp with ⟨a, _⟩ | ⟨a, _⟩ | ⟨_, he, hA, hT⟩ | ⟨a, _⟩
      · exact absurd a h0
      · exact absurd a h0
      · exact pp_of h hj e1 e2 hA hT ⟨rfl, rfl, rfl⟩ he
      · exact absurd a h0
    · rcases hp with ⟨_, he, hb⟩ | ⟨a, _⟩ | ⟨a, _⟩ | ⟨a, _⟩
      · exact rp_of h hj e1 e2 e3 e4 (rq_same (hR u m' p' h e1 e2 e3 e4 e5 e6 e7).1 hb) ⟨rfl, rfl, rfl⟩ he
      · exact absurd (hph.symm.trans a) h0
      · exact absurd (hph.symm.trans a) h0
      · exact absurd (hph.symm.trans a) h0
  have h0r : (p.R j).ph = 0 := hph.trans h0
  by_cases hin : ((p.P j).gs k).isSome = true
  case pos =>
    have hx : ∃ x ∈ p.X j, x.k = k := (hv.px.isSome k).1 hin
    refine ⟨31, GSame m p j, HSame p j, ⟨fun u m' p' h e1 e2 e3 e4 => (hP u m' p' h e1 e2 e3 e4).mono (fun e u' hp => ?_), fun u m' p' h e1 e2 e3 e4 e5 e6 e7 => (hR u m' p' h e1 e2 e3 e4 e5 e6 e7).2.mono (fun e u' hp => ?_), fun T' P' s' R' X' L' hG hH => hV.sames hj hG hH⟩⟩
    · rcases hp with ⟨_, _, he, hA, hT⟩ | ⟨_, a, _⟩ | ⟨a, _⟩ | ⟨_, a, _⟩
      · exact pp_of h hj e1 e2 hA hT ⟨rfl, rfl, rfl⟩ he
      · rw [a] at hin; cases hin
      · exact absurd h0 a
      · rw [a] at hin; cases hin
    · obtain ⟨x, hx1, hx2⟩ := hx
      rcases hp with ⟨a, _⟩ | ⟨_, _, he, hb⟩ | ⟨_, a, _⟩ | ⟨_, a, _⟩
      · exact absurd h0r a
      · exact rp_of h hj e1 e2 e3 e4 (rq_same (hR u m' p' h e1 e2 e3 e4 e5 e6 e7).1 hb) ⟨rfl, rfl, rfl⟩ he
      · exact absurd hx2 (a x hx1)
      · exact absurd hx2 (a x hx1)
  have hno : ∀ x ∈ p.X j, x.k ≠ k := fun x hx e => hin ((hv.px.isSome k).2 ⟨x, hx, e⟩)
  by_cases hl : lkOf (m.s.g k) = true
  case pos =>
    refine ⟨60, GSame m p j, HSame p j, ⟨fun u m' p' h e1 e2 e3 e4 => (hP u m' p' h e1 e2 e3 e4).mono (fun e u' hp => ?_), fun u m' p' h e1 e2 e3 e4 e5 e6 e7 => (hR u m' p' h e1 e2 e3 e4 e5 e6 e7).2.mono (fun e u' hp => ?_), fun T' P' s' R' X' L' hG hH => hV.sames hj hG hH⟩⟩
    · rcases hp with ⟨_, a, _⟩ | ⟨_, _, a, _⟩ | ⟨a, _⟩ | ⟨_, _, _, he, hA, hT⟩
      · exact absurd a hin
      · rw [a] at hl; cases hl
      · exact absurd h0 a
      · exact pp_of h hj e1 e2 hA hT ⟨rfl, rfl, rfl⟩ he
    · rcases hp with ⟨a, _⟩ | ⟨_, ⟨x, hx1, hx2⟩, _⟩ | ⟨_, _, _, he, hb⟩ | ⟨_, _, a, _⟩
      · exact absurd h0r a
      · exact absurd hx2 (hno x hx1)
      · exact rp_of h hj e1 e2 e3 e4 (rq_same (hR u m' p' h e1 e2 e3 e4 e5 e6 e7).1 hb) ⟨rfl, rfl, rfl⟩ he
      · rw [a] at hl; cases hl
  case neg =>
    refine ⟨0, fun T P s => T = { p.T j with most := max (p.T j).most (snOf (m.s.g k)).word, n := (p.T j).n + 1 } ∧ (∃ ns', ns' ≤ (p.P j).ns + 1 ∧ P = { p.P j with ns := ns', gs := updK (p.P j).gs k (some (snOf (m.s.g k))) }) ∧ s = m.s,
      fun R X L => R = { p.R j with most := max (p.R j).most (snOf (m.s.g k)).word, n := (p.R j).n + 1 } ∧ (∃ n, AtX (p.X j) k n ∧ X = insX (p.X j) n (Rx.of k (snOf (m.s.g k)))) ∧ L = p.L,
      ⟨fun u m' p' h e1 e2 e3 e4 => (hP u m' p' h e1 e2 e3 e4).mono (fun e u' hp => ?_), fun u m' p' h e1 e2 e3 e4 e5 e6 e7 => (hR u m' p' h e1 e2 e3 e4 e5 e6 e7).2.mono (fun e u' hp => ?_), fun T' P' s' R' X' L' hG hH => ?_⟩⟩
    · rcases hp with ⟨_, a, _⟩ | ⟨_, _, _, he, ns', hns, hA, hT⟩ | ⟨a, _⟩ | ⟨_, _, a, _⟩
      · exact absurd a hin
      · exact pp_of h hj e1 e2 hA hT ⟨rfl, ⟨ns', hns, rfl⟩, rfl⟩ he
      · exact absurd h0 a
      · exact absurd a hl
    · rcases hp with ⟨a, _⟩ | ⟨_, ⟨x, hx1, hx2⟩, _⟩ | ⟨_, _, a, _⟩ | ⟨_, _, _, he, n, hat, hq⟩
      · exact absurd h0r a
      · exact absurd hx2 (hno x hx1)
      · exact absurd a hl
      · exact rp_of h hj e1 e2 e3 e4 hq ⟨rfl, ⟨n, hat, rfl⟩, rfl⟩ he
    · obtain ⟨rfl, ⟨ns', hns, rfl⟩, rfl⟩ := hG
      obtain ⟨rfl, ⟨n, hat, rfl⟩, rfl⟩ := hH
      have hw : Sm (snOf (m.s.g k)).word := by
        cases hg : m.s.g k with
        | none => show 0 < _; decide
        | some y => exact (hV.g.ok k y hg).2.1
      refine ⟨hV.g.mono (Nat.le_succ _), Keeps.refl _ _, hv.idle (Nat.le_succ _) ⟨hv.same.who, hv.same.ph, hv.same.W, hv.same.st, fun e => by show max _ _ = max _ _; rw [hv.same.most e], by show (p.R j).n + 1 = (p.T j).n + 1; rw [hv.same.n], hv.same.ks, hv.same.i⟩ (hv.px.see hk hno hat _) rfl rfl rfl ⟨?_, hv.sm.2⟩ hv.gw hv.gm ⟨by show (p.T j).n + 1 ≤ N + 1; omega, by show ns' ≤ N + 1; omega, by show (p.P j).nw ≤ N + 1; omega, by show (p.P j).nm ≤ N + 1; omega, ?_⟩ (.inl h0)⟩
      · have h1 := hv.sm.1
        show Sm (max _ _)
        unfold Sm at *
        omega
      · have h1 := hat.1
        unfold insX
        simp only [List.length_append, List.length_take, List.length_drop, List.length_singleton]
        omega
theorem duo_commit (hV : V3 m p N) (hj : j < 3) (hN : N ≤ 1000) :
    ∃ (code : Int) (G : Tn → Ps → Sto → Prop) (H : Rn → List Rx → List (Ky × Cl) → Prop), Duo w0 m p j N 21 #[.pointer (some ⟨(m.a j).m.tb, 0, none⟩)] (fun _ => .int .i64 code) 28 #[.pointer (some ⟨(m.b j).m.tb, 0, none⟩)] (.int .i64 code) G H := by
  have hv := hV.v j hj
  obtain ⟨n1, n2, n3, n4, n5⟩ := hv.n
  have hP : ∀ u m' p', M3 w0 u m' p' → m'.a j = m.a j → m'.s = m.s → p'.T j = p.T j → p'.P j = p.P j → Calls Tryz.prog 21 #[.pointer (some ⟨(m.a j).m.tb, 0, none⟩)] u (CtPost u (m.a j) (p.T j) (p.P j) m.s) := fun u m' p' h e1 e2 e3 e4 => by
    have hA := h.oca hj
    rw [e1, e2, e3, e4] at hA
    exact commit_a hA (by omega) (by omega)
  have hR : ∀ u m' p', M3 w0 u m' p' → m'.b j = m.b j → m'.rb = m.rb → m'.room = m.room → m'.v = m.v → p'.R j = p.R j → p'.X j = p.X j → p'.L = p.L → RqA u (m.b j) (p.R j) (p.X j) m.rb m.room m.v p.L := fun u m' p' h e1 e2 e3 e4 e5 e6 e7 => by
    have hA := h.rqa hj
    rw [e1, e2, e3, e4, e5, e6, e7] at hA
    exact hA
  have hph := hv.same.ph
  by_cases h0 : (p.T j).ph = 0
  case neg =>
    refine ⟨200, GSame m p j, HSame p j, ⟨fun u m' p' h e1 e2 e3 e4 => (hP u m' p' h e1 e2 e3 e4).mono (fun e u' hp => ?_), fun u m' p' h e1 e2 e3 e4 e5 e6 e7 => (r20Commit_any (hR u m' p' h e1 e2 e3 e4 e5 e6 e7)).mono (fun e u' hp => ?_), fun T' P' s' R' X' L' hG hH => hV.sames hj hG hH⟩⟩
    · rcases hp with ⟨_, he, hA, hT⟩ | ⟨a, _⟩
      · exact pp_of h hj e1 e2 hA hT ⟨rfl, rfl, rfl⟩ he
      · exact absurd a h0
    · rcases hp with ⟨_, he, hb⟩ | ⟨a, _⟩
      · exact rp_of h hj e1 e2 e3 e4 (rq_same (hR u m' p' h e1 e2 e3 e4 e5 e6 e7) hb) ⟨rfl, rfl, rfl⟩ he
      · exact absurd (hph.symm.trans a) h0
  case pos =>
    refine ⟨0, fun T P s => (∃ kw kr, KsG (p.P j).gw (p.P j).nw kw ∧ KsG (p.P j).gs (p.P j).ns kr ∧ T = toT { p.T j with W := wrOut (p.P j).gs (p.P j).gw kw, L := lastW (wrOut (p.P j).gs (p.P j).gw kw), R := kr } 1) ∧ P = p.P j ∧ s = m.s,
      fun R X L => R = skipR { p.R j with W := outX (p.X j), R := p.X j, ph := 1, i := 0 } ∧ X = p.X j ∧ L = p.L,
      ⟨fun u m' p' h e1 e2 e3 e4 => (hP u m' p' h e1 e2 e3 e4).mono (fun e u' hp => ?_), fun u m' p' h e1 e2 e3 e4 e5 e6 e7 => (r20Commit_any (hR u m' p' h e1 e2 e3 e4 e5 e6 e7)).mono (fun e u' hp => ?_), fun T' P' s' R' X' L' hG hH => ?_⟩⟩
    · rcases hp with ⟨a, _⟩ | ⟨_, he, kw, kr, a', h1, h2, h3, hA, hT⟩
      · exact absurd h0 a
      · exact pp_of h hj e1 e2 hA hT ⟨⟨kw, kr, h1, h2, rfl⟩, rfl, rfl⟩ he h3
    · rcases hp with ⟨a, _⟩ | ⟨_, he, hq⟩
      · exact absurd (hph.trans h0) a
      · exact rp_of h hj e1 e2 e3 e4 hq ⟨rfl, rfl, rfl⟩ he
    · obtain ⟨⟨kw, kr, h1, h2, rfl⟩, rfl, rfl⟩ := hG
      obtain ⟨rfl, rfl, rfl⟩ := hH
      exact ⟨hV.g.mono (Nat.le_succ _), Keeps.refl _ _, hv.commit h0 h1 h2 (Nat.le_succ _)⟩
end
end Go.Proofs.YtkhkdedjffkhdaaGreat
namespace Go.Proofs.YtkhkdedjffkhdaaGreat
open Go.RowKit Go.Maps

section
variable {w w' : World} {a : Ta} {T : Tn} {P : Ps} {s : Sto}
/-- what over leaves -/
def OvG (s : Sto) (who : Int) (s' : Sto) : Prop := ∃ ks, KySorted ks ∧ (∀ k, k ∈ ks ↔ ∃ c, s.g k = some c ∧ heldC who c = true) ∧ s'.g = (unG s.g ks).1 ∧ s'.cnt = s.cnt - (unG s.g ks).2 ∧ s'.c = s.c + (unG s.g ks).2
theorem step_over (h : OcA w a T P s) (last : Nat) (ep : Int) {code : Int} (hi : InC T.ph a.m.tb last ep w (OvE code w a T P s)) (hc : code ≠ 0) (hn : T.n ≤ 1000000) :
    Calls Tryz.prog 22 #[.pointer (some ⟨a.m.tb, 0, none⟩), .int .u64 last, .int .i64 ep] w (SdPost w a P s { T with ph := 6 } code (OvG s T.who)) := by
  have h9 := step_of h last ep hi code { T with ph := 6 } (OvG s T.who) (fun e w' hq => by
    obtain ⟨h1, _, ks, s', h2, h3, _, h5, h6, h7, h8, h9⟩ := hq
    exact ⟨h1, s', ⟨ks, h2, h3, h7, h8, h9⟩, h5, h6⟩) hn
  unfold upN at h9
  rw [if_neg hc] at h9
  exact h9
theorem step_busy (h : OcA w a T P s) (last : Nat) (ep : Int) (hp : T.ph = 1) {x : Wr} (hx : T.W[T.i]? = some x) (hk : x.k.Ok) {y : Cl} (hg : s.g x.k = some y) (hlk : y.lk = true) (hn : T.n ≤ 1000000) :
    Calls Tryz.prog 22 #[.pointer (some ⟨a.m.tb, 0, none⟩), .int .u64 last, .int .i64 ep] w (SdPost w a P s T 60 (fun s' => s' = s)) := by
  have h9 := step_of h last ep (.inl ⟨hp, oclock_busy h hx hk hg hlk⟩) 60 T (fun s' => s' = s) (fun e w' hq => ⟨hq.1, s, rfl, hq.2.1, hq.2.2⟩) hn
  unfold upN at h9
  rw [if_neg (by decide)] at h9
  exact h9
end
section
variable {w0 w u u' : World} {m m' : W3} {p p' : S3} {j N : Nat} {e : Ending} {k : Ky}
def GOv (m : W3) (p : S3) (j : Nat) (T : Tn) (P : Ps) (s : Sto) : Prop := T = { p.T j with ph := 6 } ∧ P = p.P j ∧ OvG m.s (j : Int) s
def HOv (p : S3) (j : Nat) (mo : Nat) (R : Rn) (X : List Rx) (L : List (Ky × Cl)) : Prop := R = { p.R j with ph := 6, most := mo } ∧ X = p.X j ∧ L = ovL p.L (j : Int)
theorem V3.overs (h : V3 m p N) (hj : j < 3) {mo : Nat} {T' : Tn} {P' : Ps} {s' : Sto} {R' : Rn} {X' : List Rx} {L' : List (Ky × Cl)} (hG : GOv m p j T' P' s') (hH : HOv p j mo R' X' L') : Vj m j N T' P' s' R' X' L' := by
  obtain ⟨rfl, rfl, ks, h1, h2, h3, h4, h5⟩ := hG
  obtain ⟨rfl, rfl, rfl⟩ := hH
  have h9 := h.g.over h1 h2 (Nat.le_refl (N + 1))
  unfold Vj
  rw [h3, h4, h5]
  exact ⟨h9.1, h9.2, (h.v j hj).over (Nat.le_succ _) mo⟩
/-- a step's value -/
def stV (code : Int) (T : Tn) : Value := .tuple #[.int .i64 T.ph, .int .i64 code]
theorem pp_sd {a : Ta} {s : Sto} {T' : Tn} {P : Ps} {code : Int} {G0 : Sto → Prop} {G : Tn → Ps → Sto → Prop} (h : M3 w0 u m' p') (hj : j < 3) (e1 : m'.a j = a) (e2 : m'.s = s) (hp : SdPost u a P s T' code G0 e u') (hG : ∀ s', G0 s' → G T' P s') : PP w0 u m' p' j (stV code) G e u' := by
  obtain ⟨he, s', hg, hA, hT⟩ := hp
  exact pp_of h hj e1 e2 hA hT (hG s' hg) he
theorem duo_step (hV : V3 m p N) (hj : j < 3) (last : Nat) (ep : Int) (hlast : last < 18446744073709551616) (hN : N ≤ 1000) :
    ∃ (code : Int) (G : Tn → Ps → Sto → Prop) (H : Rn → List Rx → List (Ky × Cl) → Prop), Duo w0 m p j N 22 #[.pointer (some ⟨(m.a j).m.tb, 0, none⟩), .int .u64 last, .int .i64 ep] (stV code) 29 #[.pointer (some ⟨(m.b j).m.tb, 0, none⟩), .int .u64 last, .int .i64 ep] (.int .i64 code) G H := by
  have hv := hV.v j hj
  obtain ⟨n1, n2, n3, n4, n5⟩ := hv.n
  have hwl := hv.wl
  have hcn : m.s.cnt ≤ 1000 := by have := hV.g.cnt; have := hV.g.room; omega
  have hcc : m.s.c ≤ 1000000 := by have := hV.g.c; omega
  have hLl : p.L.length ≤ 1000 := by have := hV.g.len; omega
  have hLk := hV.g.keys
  have hwho : (p.T j).who = (j : Int) := hv.who
  have hwR : (p.R j).who = (j : Int) := hv.same.who.trans hv.who
  have hRn : (p.R j).n ≤ 1000000 := by rw [hv.same.n]; omega
  have e8 : ovL p.L (p.R j).who = ovL p.L (j : Int) := by rw [hwR]
  have hph := hv.same.ph
  have hA : ∀ u m' p', M3 w0 u m' p' → m'.a j = m.a j → m'.s = m.s → p'.T j = p.T j → p'.P j = p.P j → OcA u (m.a j) (p.T j) (p.P j) m.s := fun u m' p' h e1 e2 e3 e4 => by
    have hA := h.oca hj
    rw [e1, e2, e3, e4] at hA
    exact hA
  have hR : ∀ u m' p', M3 w0 u m' p' → m'.b j = m.b j → m'.rb = m.rb → m'.room = m.room → m'.v = m.v → p'.R j = p.R j → p'.X j = p.X j → p'.L = p.L → RqA u (m.b j) (p.R j) (p.X j) m.rb m.room m.v p.L := fun u m' p' h e1 e2 e3 e4 e5 e6 e7 => by
    have hA := h.rqa hj
    rw [e1, e2, e3, e4, e5, e6, e7] at hA
    exact hA
  by_cases h1 : (p.T j).ph = 1
  · have h1r : (p.R j).ph = 1 := hph.trans h1
    have hi := hv.i1 h1
    obtain ⟨x, hx⟩ : ∃ x, (p.T j).W[(p.T j).i]? = some x := ⟨_, List.getElem?_eq_getElem hi⟩
    have hiR : (p.R j).i = (p.T j).i := hv.same.i (.inl h1r)
    have hxR : (p.R j).W[(p.R j).i]? = some x := by rw [hv.same.W, hiR]; exact hx
    have hk := (hv.wk x (List.mem_of_getElem? hx)).1
    have e9 : lockL m.room p.L x.k (p.R j).who = lockL m.room p.L x.k (j : Int) := by rw [hwR]
    have hRR : ∀ u m' p', M3 w0 u m' p' → m'.b j = m.b j → m'.rb = m.rb → m'.room = m.room → m'.v = m.v → p'.R j = p.R j → p'.X j = p.X j → p'.L = p.L → Calls Tryz.prog 29 #[.pointer (some ⟨(m.b j).m.tb, 0, none⟩), .int .u64 last, .int .i64 ep] u (LkR u (m.b j) (p.R j) (p.X j) m.rb m.room m.v p.L x.k) := fun u m' p' h e1 e2 e3 e4 e5 e6 e7 =>
      r20step_lock (hR u m' p' h e1 e2 e3 e4 e5 e6 e7) last ep h1r hxR (by omega) hRn hLk hLl
    cases hg : m.s.g x.k with
    | none =>
      by_cases hc : m.s.cnt < m.room
      · have hlk := hV.g.lockNew hk hg hc (j : Int)
        refine ⟨0, fun T P s => T = upN 0 (doneT { p.T j with most := max (p.T j).most 0 } (p.T j).W.length 2) ∧ P = p.P j ∧ s.g = setG m.s.g x.k (some ⟨0, true, true, ⟨#[]⟩, (j : Int)⟩) ∧ s.cnt = m.s.cnt + 1 ∧ s.c = m.s.c,
          fun R X L => R = skipR { p.R j with most := max (p.R j).most 0, i := (p.R j).i + 1, n := (p.R j).n + 1 } ∧ X = p.X j ∧ L = (lockL m.room p.L x.k (j : Int)).2.2,
          ⟨fun u m' p' h e1 e2 e3 e4 => ((step_lock (hA u m' p' h e1 e2 e3 e4) last ep h1 hx hk (by rw [hwho]; exact ⟨by omega, by omega⟩) hv.sm.1 (by omega) (by omega)).1 hg (by rw [hV.room]; exact hc)).mono (fun e u' hp => pp_sd h hj e1 e2 hp (fun s' hs => ⟨rfl, rfl, by rw [hs.1, hwho], hs.2.1, hs.2.2⟩)),
           fun u m' p' h e1 e2 e3 e4 e5 e6 e7 => (hRR u m' p' h e1 e2 e3 e4 e5 e6 e7).mono (fun e u' hp => ?_), fun T' P' s' R' X' L' hG hH => ?_⟩⟩
        · unfold LkR at hp
          rw [e9, hlk.2.1, hlk.2.2] at hp
          rcases hp with ⟨_, he, hq⟩ | ⟨a, _⟩ | ⟨a, _⟩
          · exact rp_of h hj e1 e2 e3 e4 hq ⟨rfl, rfl, rfl⟩ he
          · exact absurd a (by decide)
          · exact absurd a (by decide)
        · obtain ⟨rfl, rfl, g1, g2, g3⟩ := hG
          obtain ⟨rfl, rfl, rfl⟩ := hH
          unfold Vj
          rw [g1, g2, g3]
          exact ⟨hlk.1.mono (Nat.le_succ _), Keeps.set (.inl hg), hv.lock h1 hx ⟨rfl, rfl, Nat.le_refl _⟩ (by show 0 < _; decide) (Nat.le_refl _)⟩
      · have hcr : m.s.cnt = m.room := by have := hV.g.cnt; omega
        have hlk := hV.g.lockFull hg hcr (j : Int)
        refine ⟨50, GOv m p j, HOv p j (p.R j).most, ⟨fun u m' p' h e1 e2 e3 e4 => (step_over (hA u m' p' h e1 e2 e3 e4) last ep (.inl ⟨h1, oclock_full (hA u m' p' h e1 e2 e3 e4) hx hk hg (by rw [hV.room]; exact hcr) hcn hcc⟩) (by decide) (by omega)).mono (fun e u' hp => pp_sd h hj e1 e2 hp (fun s' hs => ⟨rfl, rfl, by rw [← hwho]; exact hs⟩)),
          fun u m' p' h e1 e2 e3 e4 e5 e6 e7 => (hRR u m' p' h e1 e2 e3 e4 e5 e6 e7).mono (fun e u' hp => ?_), fun T' P' s' R' X' L' hG hH => hV.overs hj hG hH⟩⟩
        unfold LkR at hp
        rw [e9, e8, hlk] at hp
        rcases hp with ⟨a, _⟩ | ⟨_, he, hq⟩ | ⟨a, _⟩
        · exact absurd a (by decide)
        · exact rp_of h hj e1 e2 e3 e4 hq ⟨rfl, rfl, rfl⟩ he
        · exact absurd a (by decide)
    | some y =>
      cases hl : y.lk with
      | true =>
        have hlk := hV.g.lockBusy hg hl (j : Int)
        refine ⟨60, GSame m p j, HSame p j, ⟨fun u m' p' h e1 e2 e3 e4 => (step_busy (hA u m' p' h e1 e2 e3 e4) last ep h1 hx hk hg hl (by omega)).mono (fun e u' hp => pp_sd h hj e1 e2 hp (fun s' hs => ⟨rfl, rfl, hs⟩)),
          fun u m' p' h e1 e2 e3 e4 e5 e6 e7 => (hRR u m' p' h e1 e2 e3 e4 e5 e6 e7).mono (fun e u' hp => ?_), fun T' P' s' R' X' L' hG hH => hV.sames hj hG hH⟩⟩
        unfold LkR at hp
        rw [e9, e8, hlk] at hp
        rcases hp with ⟨a, _⟩ | ⟨a, _⟩ | ⟨_, he, hq⟩
        · exact absurd a (by decide)
        · exact absurd a (by decide)
        · exact rp_of h hj e1 e2 e3 e4 hq ⟨rfl, rfl, rfl⟩ he
      | false =>
        have hlk := hV.g.lockFree hg hl (j : Int)
        have hys := (hV.g.ok _ _ hg).2.1
        refine ⟨0, fun T P s => T = upN 0 (doneT { p.T j with most := max (p.T j).most y.st } (p.T j).W.length 2) ∧ P = p.P j ∧ s.g = setG m.s.g x.k (some { y with lk := true, who := (j : Int) }) ∧ s.cnt = m.s.cnt ∧ s.c = m.s.c,
          fun R X L => R = skipR { p.R j with most := max (p.R j).most y.st, i := (p.R j).i + 1, n := (p.R j).n + 1 } ∧ X = p.X j ∧ L = (lockL m.room p.L x.k (j : Int)).2.2,
          ⟨fun u m' p' h e1 e2 e3 e4 => ((step_lock (hA u m' p' h e1 e2 e3 e4) last ep h1 hx hk (by rw [hwho]; exact ⟨by omega, by omega⟩) hv.sm.1 (by omega) (by omega)).2 y hg hl hys).mono (fun e u' hp => pp_sd h hj e1 e2 hp (fun s' hs => ⟨rfl, rfl, by rw [hs.1, hwho], hs.2.1, hs.2.2⟩)),
           fun u m' p' h e1 e2 e3 e4 e5 e6 e7 => (hRR u m' p' h e1 e2 e3 e4 e5 e6 e7).mono (fun e u' hp => ?_), fun T' P' s' R' X' L' hG hH => ?_⟩⟩
        · unfold LkR at hp
          rw [e9, hlk.2.1, hlk.2.2] at hp
          rcases hp with ⟨_, he, hq⟩ | ⟨a, _⟩ | ⟨a, _⟩
          · exact rp_of h hj e1 e2 e3 e4 hq ⟨rfl, rfl, rfl⟩ he
          · exact absurd a (by decide)
          · exact absurd a (by decide)
        · obtain ⟨rfl, rfl, g1, g2, g3⟩ := hG
          obtain ⟨rfl, rfl, rfl⟩ := hH
          unfold Vj
          rw [g1, g2, g3]
          exact ⟨hlk.1.mono (Nat.le_succ _), Keeps.set (.inr ⟨y, hg, .inl hl⟩), hv.lock h1 hx ⟨rfl, rfl, Nat.le_refl _⟩ hys (Nat.le_refl _)⟩
  by_cases h2 : (p.T j).ph = 2
  · have h2r : (p.R j).ph = 2 := hph.trans h2
    have hmo : (p.R j).most = (p.T j).most := hv.same.most (by rw [h2r]; decide)
    have hst : stN (p.T j) last ep = nextW (max (p.R j).most (mo last)) ep := by unfold stN; rw [hmo, Nat.max_comm]
    obtain ⟨mx, hmx⟩ : ∃ mx, mx = max (p.R j).most (mo last) := ⟨_, rfl⟩
    obtain ⟨st, code, hq⟩ : ∃ st code, nextW mx ep = (st, code) := ⟨_, _, rfl⟩
    have hRR : ∀ u m' p', M3 w0 u m' p' → m'.b j = m.b j → m'.rb = m.rb → m'.room = m.room → m'.v = m.v → p'.R j = p.R j → p'.X j = p.X j → p'.L = p.L → Calls Tryz.prog 29 #[.pointer (some ⟨(m.b j).m.tb, 0, none⟩), .int .u64 last, .int .i64 ep] u (TkR u (m.b j) (p.R j) (p.X j) m.rb m.room m.v p.L mx (st, code)) := fun u m' p' h e1 e2 e3 e4 e5 e6 e7 => by
      have h9 := r20step_take (hR u m' p' h e1 e2 e3 e4 e5 e6 e7) last ep hlast h2r (by rw [hmo]; exact hv.sm.1) hRn hLk hLl
      rw [← hmx, hq] at h9
      exact h9
    have hst2 : stN (p.T j) last ep = (st, code) := by rw [hst, ← hmx, hq]
    by_cases hc : code = 0
    · have hok := nextW_ok hq hc
      have hlt : (p.T j).most < st := by have := hok.1; rw [hmx, hmo] at this; omega
      refine ⟨0, fun T P s => T = upN 0 (toT { p.T j with st := st } 3) ∧ P = p.P j ∧ s = m.s, fun R X L => R = skipR { p.R j with most := mx, st := st, ph := 3, i := 0, n := (p.R j).n + 1 } ∧ X = p.X j ∧ L = p.L,
        ⟨fun u m' p' h e1 e2 e3 e4 => ((step_take (hA u m' p' h e1 e2 e3 e4) last ep h2 hlast hv.sm.1 (by omega)).1 (by rw [hst2]; exact hc)).mono (fun e u' hp => ?_), fun u m' p' h e1 e2 e3 e4 e5 e6 e7 => (hRR u m' p' h e1 e2 e3 e4 e5 e6 e7).mono (fun e u' hp => ?_), fun T' P' s' R' X' L' hG hH => ?_⟩⟩
      · rw [hst2] at hp
        exact pp_sd h hj e1 e2 hp (fun s' hs => ⟨rfl, rfl, hs⟩)
      · rcases hp with ⟨_, he, hq⟩ | ⟨a, _⟩
        · exact rp_of h hj e1 e2 e3 e4 hq ⟨rfl, rfl, rfl⟩ he
        · exact absurd hc a
      · obtain ⟨rfl, rfl, rfl⟩ := hG
        obtain ⟨rfl, rfl, rfl⟩ := hH
        exact ⟨hV.g.mono (Nat.le_succ _), Keeps.refl _ _, hv.take h2 hlt hok.2 (Nat.le_refl _)⟩
    · refine ⟨code, GOv m p j, HOv p j mx, ⟨fun u m' p' h e1 e2 e3 e4 => (step_over (hA u m' p' h e1 e2 e3 e4) last ep (.inr (.inl ⟨h2, octake_bad (hA u m' p' h e1 e2 e3 e4) last ep hlast hv.sm.1 (by rw [hst2]) hc hcn hcc⟩)) hc (by omega)).mono (fun e u' hp => pp_sd h hj e1 e2 hp (fun s' hs => ⟨rfl, rfl, by rw [← hwho]; exact hs⟩)),
        fun u m' p' h e1 e2 e3 e4 e5 e6 e7 => (hRR u m' p' h e1 e2 e3 e4 e5 e6 e7).mono (fun e u' hp => ?_), fun T' P' s' R' X' L' hG hH => hV.overs hj hG hH⟩⟩
      rcases hp with ⟨a, _⟩ | ⟨_, he, hq⟩
      · exact absurd a hc
      · rw [e8] at hq
        exact rp_of h hj e1 e2 e3 e4 hq ⟨rfl, rfl, rfl⟩ he
  by_cases h3 : (p.T j).ph = 3
  · have h3r : (p.R j).ph = 3 := hph.trans h3
    have hi := hv.i3 h3
    have hRX : (p.R j).R = p.X j := hv.rx (by rw [h3]; decide) (by rw [h3]; decide)
    have hiR : (p.R j).i = (p.T j).i := hv.same.i (.inr (.inl h3r))
    have hlen := hv.same.len
    obtain ⟨x, hx⟩ : ∃ x, (p.R j).R[(p.R j).i]? = some x := ⟨_, List.getElem?_eq_getElem (by omega)⟩
    have hxm : x ∈ p.X j := by rw [← hRX]; exact List.mem_of_getElem? hx
    have hxT : (p.T j).R[(p.T j).i]? = some x.k := by rw [← hv.same.ks, List.getElem?_map, ← hiR, hx]; rfl
    have hk := hv.px.ok x hxm
    have hs := hv.px.s x hxm
    have hil : (p.T j).i ≤ 1000000 := by rw [hRX] at hlen; omega
    obtain ⟨q, hq⟩ : ∃ q, q = stillV (m.s.g x.k) (j : Int) x.s.word x.s.has := ⟨_, rfl⟩
    have hRR : ∀ u m' p', M3 w0 u m' p' → m'.b j = m.b j → m'.rb = m.rb → m'.room = m.room → m'.v = m.v → p'.R j = p.R j → p'.X j = p.X j → p'.L = p.L → Calls Tryz.prog 29 #[.pointer (some ⟨(m.b j).m.tb, 0, none⟩), .int .u64 last, .int .i64 ep] u (ChR u (m.b j) (p.R j) (p.X j) m.rb m.room m.v p.L q) := fun u m' p' h e1 e2 e3 e4 e5 e6 e7 => by
      have h9 := r20step_check (hR u m' p' h e1 e2 e3 e4 e5 e6 e7) last ep h3r hx (by omega) hRn hLk hLl
      rw [hwR, hV.g.look, ← hq] at h9
      exact h9
    have hPP : ∀ u m' p', M3 w0 u m' p' → m'.a j = m.a j → m'.s = m.s → p'.T j = p.T j → p'.P j = p.P j → Calls Tryz.prog 50 #[.pointer (some ⟨(m.a j).m.tb, 0, none⟩)] u (ChPost u (m.a j) (p.T j) (p.P j) m.s q) := fun u m' p' h e1 e2 e3 e4 => by
      have h9 := occheck_any (hA u m' p' h e1 e2 e3 e4) hxT hk hs hil hcn hcc
      rw [hwho, ← hq] at h9
      exact h9
    cases q with
    | true =>
      refine ⟨0, fun T P s => T = upN 0 (doneT (p.T j) (p.T j).R.length 4) ∧ P = p.P j ∧ s = m.s, fun R X L => R = skipR { p.R j with i := (p.R j).i + 1, n := (p.R j).n + 1 } ∧ X = p.X j ∧ L = p.L,
        ⟨fun u m' p' h e1 e2 e3 e4 => (step_of (hA u m' p' h e1 e2 e3 e4) last ep (.inr (.inr (.inl ⟨h3, hPP u m' p' h e1 e2 e3 e4⟩))) 0 (doneT (p.T j) (p.T j).R.length 4) (fun s' => s' = m.s) (fun e w' hq => by
            rcases hq with ⟨_, a, b, c⟩ | ⟨a, _⟩
            · exact ⟨a, m.s, rfl, b, c⟩
            · cases a) (by rw [doneT_n]; omega)).mono (fun e u' hp => pp_sd h hj e1 e2 hp (fun s' hs => ⟨rfl, rfl, hs⟩)),
         fun u m' p' h e1 e2 e3 e4 e5 e6 e7 => (hRR u m' p' h e1 e2 e3 e4 e5 e6 e7).mono (fun e u' hp => ?_), fun T' P' s' R' X' L' hG hH => ?_⟩⟩
      · rcases hp with ⟨_, he, hq⟩ | ⟨a, _⟩
        · exact rp_of h hj e1 e2 e3 e4 hq ⟨rfl, rfl, rfl⟩ he
        · cases a
      · obtain ⟨rfl, rfl, rfl⟩ := hG
        obtain ⟨rfl, rfl, rfl⟩ := hH
        exact ⟨hV.g.mono (Nat.le_succ _), Keeps.refl _ _, hv.check h3 (Nat.le_refl _)⟩
    | false =>
      refine ⟨201, GOv m p j, HOv p j (p.R j).most, ⟨fun u m' p' h e1 e2 e3 e4 => (step_over (hA u m' p' h e1 e2 e3 e4) last ep (.inr (.inr (.inl ⟨h3, (hPP u m' p' h e1 e2 e3 e4).mono (fun e u' hq => by
            rcases hq with ⟨a, _⟩ | ⟨_, a⟩
            · cases a
            · exact a)⟩))) (by decide) (by omega)).mono (fun e u' hp => pp_sd h hj e1 e2 hp (fun s' hs => ⟨rfl, rfl, by rw [← hwho]; exact hs⟩)),
        fun u m' p' h e1 e2 e3 e4 e5 e6 e7 => (hRR u m' p' h e1 e2 e3 e4 e5 e6 e7).mono (fun e u' hp => ?_), fun T' P' s' R' X' L' hG hH => hV.overs hj hG hH⟩⟩
      rcases hp with ⟨a, _⟩ | ⟨_, he, hq⟩
      · cases a
      · rw [e8] at hq
        exact rp_of h hj e1 e2 e3 e4 hq ⟨rfl, rfl, rfl⟩ he
  by_cases h4 : (p.T j).ph = 4
  · have h4r : (p.R j).ph = 4 := hph.trans h4
    have hi := hv.i4 h4
    have hiR : (p.R j).i = (p.T j).i := hv.same.i (.inr (.inr h4r))
    have hLl2 : (p.T j).L.length = (p.T j).W.length := by rw [hv.lw]; exact lastW_len _
    obtain ⟨x, hx⟩ : ∃ x, (p.T j).L[(p.T j).i]? = some x := ⟨_, List.getElem?_eq_getElem (by omega)⟩
    have hxR : (lastW (p.R j).W)[(p.R j).i]? = some x := by rw [hv.same.W, ← hv.lw, hiR]; exact hx
    have hxm : x ∈ (p.T j).W := lastW_mem (by rw [← hv.lw]; exact List.mem_of_getElem? hx)
    obtain ⟨hk, hx1, hx2⟩ := hv.wk x hxm
    obtain ⟨y, hg, hyl, hyw, hys⟩ := hv.h4 h4 _ x (Nat.le_refl _) hx
    have hst := hv.st (.inr h4)
    have hin := hV.g.inst hg hyl hyw hv.sm.2 (show y.st < (p.T j).st by omega) hx2
    refine ⟨0, fun T P s => T = upN 0 (doneT (p.T j) (p.T j).W.length 5) ∧ P = p.P j ∧ s.g = setG m.s.g x.k (some { y with st := (p.T j).st, lk := false, ab := !x.has, text := x.val }) ∧ s.cnt = m.s.cnt ∧ s.c = m.s.c,
      fun R X L => R = skipR { p.R j with i := (p.R j).i + 1, n := (p.R j).n + 1 } ∧ X = p.X j ∧ L = (instL p.L x.k (j : Int) (p.T j).st x.val x.has).2,
      ⟨fun u m' p' h e1 e2 e3 e4 => (step_install (hA u m' p' h e1 e2 e3 e4) last ep h4 hx hk hg hyl (by rw [hwho]; exact hyw) hv.sm.2 (by omega) (by
          cases hh : x.has
          · exact .inr ⟨rfl, hx2 hh⟩
          · exact .inl rfl) (by unfold maxLen; have h9 : x.val.size ≤ 200 := hx1; omega) (by omega) (by omega)).mono (fun e u' hp => pp_sd h hj e1 e2 hp (fun s' hs => ⟨rfl, rfl, hs.1, hs.2.1, hs.2.2⟩)),
       fun u m' p' h e1 e2 e3 e4 e5 e6 e7 => (r20step_install (hR u m' p' h e1 e2 e3 e4 e5 e6 e7) last ep h4r hxR (by omega) hRn (by rw [hv.same.W]; omega)).mono (fun e u' hp => ?_), fun T' P' s' R' X' L' hG hH => ?_⟩⟩
    · obtain ⟨he, hq⟩ := hp
      rw [show (instL p.L x.k (p.R j).who (p.R j).st x.val x.has) = (instL p.L x.k (j : Int) (p.T j).st x.val x.has) by rw [hwR, hv.same.st]] at hq
      exact rp_of h hj e1 e2 e3 e4 hq ⟨rfl, rfl, rfl⟩ he
    · obtain ⟨rfl, rfl, g1, g2, g3⟩ := hG
      obtain ⟨rfl, rfl, rfl⟩ := hH
      unfold Vj
      rw [g1, g2, g3]
      exact ⟨hin.mono (Nat.le_succ _), Keeps.set (.inr ⟨y, hg, .inr hyw⟩), hv.install h4 hx _ (Nat.le_refl _)⟩
  · refine ⟨200, GSame m p j, HSame p j, ⟨fun u m' p' h e1 e2 e3 e4 => (ocstep_state (hA u m' p' h e1 e2 e3 e4).mm.t last ep ⟨h1, h2, h3, h4⟩).mono (fun e u' hp => ?_), fun u m' p' h e1 e2 e3 e4 e5 e6 e7 => (r20step_late (hR u m' p' h e1 e2 e3 e4 e5 e6 e7) last ep (by rw [hph]; exact h1) (by rw [hph]; exact h2) (by rw [hph]; exact h3) (by rw [hph]; exact h4)).mono (fun e u' hp => ?_), fun T' P' s' R' X' L' hG hH => hV.sames hj hG hH⟩⟩
    · obtain ⟨he, rfl⟩ := hp
      exact pp_of h hj e1 e2 (hA u m' p' h e1 e2 e3 e4) (OcT.below (Below.refl _ _) _ _) ⟨rfl, rfl, rfl⟩ he
    · obtain ⟨he, rfl⟩ := hp
      exact rp_of h hj e1 e2 e3 e4 (rq_same (hR u m' p' h e1 e2 e3 e4 e5 e6 e7) (Below.refl _ _)) ⟨rfl, rfl, rfl⟩ he
theorem duo_abort (hV : V3 m p N) (hj : j < 3) (hN : N ≤ 1000) :
    ∃ (code : Int) (G : Tn → Ps → Sto → Prop) (H : Rn → List Rx → List (Ky × Cl) → Prop), Duo w0 m p j N 30 #[.pointer (some ⟨(m.a j).m.tb, 0, none⟩)] (fun _ => .int .i64 code) 31 #[.pointer (some ⟨(m.b j).m.tb, 0, none⟩)] (.int .i64 code) G H := by
  have hv := hV.v j hj
  have hcn : m.s.cnt ≤ 1000 := by have := hV.g.cnt; have := hV.g.room; omega
  have hcc : m.s.c ≤ 1000000 := by have := hV.g.c; omega
  have hLl : p.L.length ≤ 1000 := by have := hV.g.len; omega
  have hLk := hV.g.keys
  have hwho : (p.T j).who = (j : Int) := hv.who
  have hwR : (p.R j).who = (j : Int) := hv.same.who.trans hv.who
  have hph := hv.same.ph
  have hA : ∀ u m' p', M3 w0 u m' p' → m'.a j = m.a j → m'.s = m.s → p'.T j = p.T j → p'.P j = p.P j → OcA u (m.a j) (p.T j) (p.P j) m.s := fun u m' p' h e1 e2 e3 e4 => by
    have hA := h.oca hj
    rw [e1, e2, e3, e4] at hA
    exact hA
  have hR : ∀ u m' p', M3 w0 u m' p' → m'.b j = m.b j → m'.rb = m.rb → m'.room = m.room → m'.v = m.v → p'.R j = p.R j → p'.X j = p.X j → p'.L = p.L → RqA u (m.b j) (p.R j) (p.X j) m.rb m.room m.v p.L := fun u m' p' h e1 e2 e3 e4 e5 e6 e7 => by
    have hA := h.rqa hj
    rw [e1, e2, e3, e4, e5, e6, e7] at hA
    exact hA
  by_cases h4 : 4 ≤ (p.T j).ph
  · refine ⟨200, GSame m p j, HSame p j, ⟨fun u m' p' h e1 e2 e3 e4 => (ocabort_late (hA u m' p' h e1 e2 e3 e4).mm.t h4).mono (fun e u' hp => ?_), fun u m' p' h e1 e2 e3 e4 e5 e6 e7 => (r20abort_late (hR u m' p' h e1 e2 e3 e4 e5 e6 e7) (by rw [hph]; exact h4)).mono (fun e u' hp => ?_), fun T' P' s' R' X' L' hG hH => hV.sames hj hG hH⟩⟩
    · obtain ⟨he, rfl⟩ := hp
      exact pp_of h hj e1 e2 (hA u m' p' h e1 e2 e3 e4) (OcT.below (Below.refl _ _) _ _) ⟨rfl, rfl, rfl⟩ he
    · obtain ⟨he, rfl⟩ := hp
      exact rp_of h hj e1 e2 e3 e4 (rq_same (hR u m' p' h e1 e2 e3 e4 e5 e6 e7) (Below.refl _ _)) ⟨rfl, rfl, rfl⟩ he
  · refine ⟨0, GOv m p j, HOv p j (p.R j).most, ⟨fun u m' p' h e1 e2 e3 e4 => (ocabort_ok (hA u m' p' h e1 e2 e3 e4) (by omega) hcn hcc).mono (fun e u' hp => ?_), fun u m' p' h e1 e2 e3 e4 e5 e6 e7 => (r20abort_ok (hR u m' p' h e1 e2 e3 e4 e5 e6 e7) (by rw [hph]; omega) hLk hLl).mono (fun e u' hp => ?_), fun T' P' s' R' X' L' hG hH => hV.overs hj hG hH⟩⟩
    · obtain ⟨he, _, ks, s', h2, h3, _, h5, h6, h7, h8, h9⟩ := hp
      exact pp_of h hj e1 e2 h5 h6 ⟨rfl, rfl, by rw [← hwho]; exact ⟨ks, h2, h3, h7, h8, h9⟩⟩ he
    · obtain ⟨he, hq⟩ := hp
      rw [show ovL p.L (p.R j).who = ovL p.L (j : Int) by rw [hwR]] at hq
      exact rp_of h hj e1 e2 e3 e4 hq ⟨rfl, rfl, rfl⟩ he
end
end Go.Proofs.YtkhkdedjffkhdaaGreat
namespace Go.Proofs.YtkhkdedjffkhdaaGreat
open Go.RowKit Go.Maps

theorem mbX_true : mbX true = backX := by funext x; rfl
theorem mbX_false : mbX false = markX := by funext x; rfl
theorem get13_same {X : List Rx} {gs : Ky → Option Sn} {gw gm : Ky → Option Tx} (h : PX X gs gw gm) {k : Ky} {w w' : World} {e : Ending} (hg : Get13 X k w e w') : e = .returned (.tuple #[.string (getX gs gw k).1, .bool (getX gs gw k).2.1, .bool (getX gs gw k).2.2]) ∧ Below w.heap.size w w' := by
  obtain ⟨hg, hb⟩ := hg
  refine ⟨?_, hb⟩
  rcases hg with ⟨hno, he⟩ | ⟨j, x, hx, rfl, he⟩
  · obtain ⟨h1, h2, _⟩ := h.no k hno
    rw [he]
    unfold getX
    rw [h2, h1]
    rfl
  · have hm := List.mem_of_getElem? hx
    rw [he]
    unfold getX Rx.tx
    rw [h.w x hm, h.s x hm]
    by_cases hq : x.wrote = true
    · rw [if_pos hq, if_pos hq]; rfl
    · rw [if_neg hq, if_neg hq]
section
variable {w0 w u u' w' : World} {m m' : W3} {p p' : S3} {j N : Nat} {e : Ending} {k : Ky}
/-- a key of one's own lies there -/
def KyAt (kb : Nat) (k : Ky) (u : World) (m : W3) : Prop := u.heap[kb]? = some (.cells #[.int .i64 k.kind, .int .i64 k.a, .int .i64 k.b, .string k.s] 47 (0, 0)) ∧ ∀ c, ¬ m.own c kb
theorem KyAt.v {kb : Nat} (h : KyAt kb k u m) : kK.V u (some ⟨kb, 0, none⟩) [k] := fun _ => ⟨kb, 0, rfl, RowK.new_at (k := kK) (l := [k]) h.1 rfl⟩
theorem KyAt.keep {kb : Nat} (h : KyAt kb k u m) (hk : Kp u u' m m') : KyAt kb k u' m' := hk.stay h.1 h.2
/-- calls that leave the same, where keys lie -/
structure DuoK (w0 : World) (m : W3) (p : S3) (j N : Nat) (K1 K2 : World → W3 → Prop) (f1 : Nat) (x1 : Array Value) (v1 : Value) (f2 : Nat) (x2 : Array Value) (v2 : Value) (G : Tn → Ps → Sto → Prop) (H : Rn → List Rx → List (Ky × Cl) → Prop) : Prop where
  pr : ∀ u m' p', K1 u m' → M3 w0 u m' p' → m'.a j = m.a j → m'.s = m.s → p'.T j = p.T j → p'.P j = p.P j → Calls Tryz.prog f1 x1 u (PP w0 u m' p' j (fun _ => v1) G)
  rf : ∀ u m' p', K2 u m' → M3 w0 u m' p' → m'.b j = m.b j → m'.rb = m.rb → m'.room = m.room → m'.v = m.v → p'.R j = p.R j → p'.X j = p.X j → p'.L = p.L → Calls Tryz.prog f2 x2 u (RP w0 u m' p' j v2 H)
  pl : ∀ T' P' s' R' X' L', G T' P' s' → H R' X' L' → Vj m j N T' P' s' R' X' L' ∧ T'.ph = 0
theorem rw_same {b : Ra} {v0 : Value} {rb room : Nat} {R : Rn} {X X' : List Rx} {L : List (Ky × Cl)} (h : RqA u b R X rb room v0 L) (hs : SrV u' b.m.sb b.sa b.sc X') (hc : Chg u u' (fun j => ownB b.sa j)) : RqP u b R X' rb room v0 L u' := ⟨b, v0, h.wrote hs hc⟩
/-- new maps for what was put -/
theorem Tv.wrote (hv : Tv m.s.g j (p.T j) (p.P j) (p.R j) (p.X j) N) (h0 : (p.T j).ph = 0) (hin : ∃ x ∈ p.X j, x.k = k) {t : Tx} (ht : TxOk t) {nw' : Nat} (hn : nw' ≤ (p.P j).nw + 1) :
    Tv m.s.g j (p.T j) { p.P j with nw := nw', gw := updK (p.P j).gw k (some t) } (p.R j) ((p.X j).map (setX k t)) (N + 1) := by
  obtain ⟨n1, n2, n3, n4, n5⟩ := hv.n
  refine hv.idle (Nat.le_succ _) hv.same (hv.px.set hin t) rfl rfl rfl hv.sm (fun k' t' h => ?_) hv.gm ⟨by omega, by show (p.P j).ns ≤ N + 1; omega, by show nw' ≤ N + 1; omega, by show (p.P j).nm ≤ N + 1; omega, by rw [List.length_map]; omega⟩ (.inl h0)
  have h : updK (p.P j).gw k (some t) k' = some t' := h
  unfold updK at h
  split at h
  · cases h; exact ht
  · exact hv.gw k' t' h
def GWr (m : W3) (p : S3) (j : Nat) (k : Ky) (t : Tx) (T : Tn) (P : Ps) (s : Sto) : Prop := T = p.T j ∧ (∃ nw', nw' ≤ (p.P j).nw + 1 ∧ P = { p.P j with nw := nw', gw := updK (p.P j).gw k (some t) }) ∧ s = m.s
noncomputable def HWr (p : S3) (j : Nat) (k : Ky) (t : Tx) (R : Rn) (X : List Rx) (L : List (Ky × Cl)) : Prop := R = p.R j ∧ X = (p.X j).map (setX k t) ∧ L = p.L
theorem ref_write (hV : V3 m p N) (hj : j < 3) (hN : N ≤ 1000) {kb cap : Nat} (t : Tx) (hK : KyAt kb k u m') (h : M3 w0 u m' p') (e1 : m'.b j = m.b j) (e2 : m'.rb = m.rb) (e3 : m'.room = m.room) (e4 : m'.v = m.v) (e5 : p'.R j = p.R j) (e6 : p'.X j = p.X j) (e7 : p'.L = p.L) :
    RqA u (m.b j) (p.R j) (p.X j) m.rb m.room m.v p.L ∧ Calls Tryz.prog 58 #[.pointer (some ⟨(m.b j).m.sb, 0, none⟩), .slice (some ⟨kb, 0, none⟩) 1 cap, .string t.val, .bool t.has] u (WriteV u (m.b j).m.sb (m.b j).sa (m.b j).sc (p.X j) t [k]) := by
  have hA := h.rqa hj
  have hno : ¬ ownB (m'.b j).sa kb := fun e => hK.2 (.rx j) ⟨hj, .inr (.inr (.inr (.inr e)))⟩
  rw [e1, e2, e3, e4, e5, e6, e7] at hA
  rw [e1] at hno
  exact ⟨hA, r13Write_v hA.mm.s (hV.v j hj).px.sorted (some ⟨kb, 0, none⟩) cap [k] hK.v (by show 1 ≤ 1000000; decide) (fun _ b off e => by injection e with e; injection e with e; rw [← e]; exact hno) t⟩
theorem writes_pl (hV : V3 m p N) (hj : j < 3) (h0 : (p.T j).ph = 0) (hin : ∃ x ∈ p.X j, x.k = k) {t : Tx} (ht : TxOk t) {T' : Tn} {P' : Ps} {s' : Sto} {R' : Rn} {X' : List Rx} {L' : List (Ky × Cl)} (hG : GWr m p j k t T' P' s') (hH : HWr p j k t R' X' L') : Vj m j N T' P' s' R' X' L' ∧ T'.ph = 0 := by
  obtain ⟨rfl, ⟨nw', hn, rfl⟩, rfl⟩ := hG
  obtain ⟨rfl, rfl, rfl⟩ := hH
  exact ⟨⟨hV.g.mono (Nat.le_succ _), Keeps.refl _ _, (hV.v j hj).wrote h0 hin ht hn⟩, h0⟩
theorem sames0 (hV : V3 m p N) (hj : j < 3) (h0 : (p.T j).ph = 0) {T' : Tn} {P' : Ps} {s' : Sto} {R' : Rn} {X' : List Rx} {L' : List (Ky × Cl)} (hG : GSame m p j T' P' s') (hH : HSame p j R' X' L') : Vj m j N T' P' s' R' X' L' ∧ T'.ph = 0 := ⟨hV.sames hj hG hH, by rw [hG.1]; exact h0⟩
theorem duo_put (hV : V3 m p N) (hj : j < 3) (hN : N ≤ 1000) (h0 : (p.T j).ph = 0) (hk : k.Ok) {val : ByteArray} (hval : val.size ≤ 200) :
    ∃ (code : Int) (G : Tn → Ps → Sto → Prop) (H : Rn → List Rx → List (Ky × Cl) → Prop), ∀ kb cap : Nat, DuoK w0 m p j N (fun _ _ => True) (KyAt kb k) 20 #[.pointer (some ⟨(m.a j).m.sb, 0, none⟩), .agg #[.int .i64 k.kind, .int .i64 k.a, .int .i64 k.b, .string k.s], .string val] (.int .i64 code) 58 #[.pointer (some ⟨(m.b j).m.sb, 0, none⟩), .slice (some ⟨kb, 0, none⟩) 1 cap, .string val, .bool true] (.int .i64 code) G H := by
  have hv := hV.v j hj
  obtain ⟨n1, n2, n3, n4, n5⟩ := hv.n
  have hA : ∀ u m' p', M3 w0 u m' p' → m'.a j = m.a j → m'.s = m.s → p'.T j = p.T j → p'.P j = p.P j → OcA u (m.a j) (p.T j) (p.P j) m.s := fun u m' p' h e1 e2 e3 e4 => by
    have hA := h.oca hj
    rw [e1, e2, e3, e4] at hA
    exact hA
  by_cases hin : ∃ x ∈ p.X j, x.k = k
  · have hs : ((p.P j).gs k).isSome = true := (hv.px.isSome k).2 hin
    refine ⟨0, GWr m p j k ⟨val, true⟩, HWr p j k ⟨val, true⟩, fun kb cap => ⟨fun u m' p' _ h e1 e2 e3 e4 => (put_a (hA u m' p' h e1 e2 e3 e4) hk (by omega) val).mono (fun e u' hp => ?_), fun u m' p' hK h e1 e2 e3 e4 e5 e6 e7 => (ref_write hV hj hN ⟨val, true⟩ hK h e1 e2 e3 e4 e5 e6 e7).2.mono (fun e u' hp => ?_), fun T' P' s' R' X' L' hG hH => writes_pl hV hj h0 hin ⟨hval, fun e => by cases e⟩ hG hH⟩⟩
    · rcases hp with ⟨_, he, nw', hn, h1, h2⟩ | ⟨a, _⟩
      · exact pp_of h hj e1 e2 h1 h2 ⟨rfl, ⟨nw', hn, rfl⟩, rfl⟩ he
      · rw [a] at hs; cases hs
    · rcases hp with ⟨⟨k', hk', hno⟩, _⟩ | ⟨_, he, h1, h2⟩
      · rw [List.mem_singleton.1 hk'] at hno
        obtain ⟨x, hx, hxk⟩ := hin
        exact absurd hxk (hno x hx)
      · exact rp_of h hj e1 e2 e3 e4 (rw_same (ref_write (cap := cap) hV hj hN ⟨val, true⟩ hK h e1 e2 e3 e4 e5 e6 e7).1 h1 h2) ⟨rfl, rfl, rfl⟩ he
  · have hs : ¬ ((p.P j).gs k).isSome = true := fun e => hin ((hv.px.isSome k).1 e)
    refine ⟨101, GSame m p j, HSame p j, fun kb cap => ⟨fun u m' p' _ h e1 e2 e3 e4 => (put_a (hA u m' p' h e1 e2 e3 e4) hk (by omega) val).mono (fun e u' hp => ?_), fun u m' p' hK h e1 e2 e3 e4 e5 e6 e7 => (ref_write hV hj hN ⟨val, true⟩ hK h e1 e2 e3 e4 e5 e6 e7).2.mono (fun e u' hp => ?_), fun T' P' s' R' X' L' hG hH => sames0 hV hj h0 hG hH⟩⟩
    · rcases hp with ⟨a, _⟩ | ⟨_, he, h1, h2⟩
      · exact absurd a hs
      · exact pp_of h hj e1 e2 h1 h2 ⟨rfl, rfl, rfl⟩ he
    · rcases hp with ⟨_, he, hb⟩ | ⟨a, _⟩
      · exact rp_of h hj e1 e2 e3 e4 (rq_same (ref_write (cap := cap) hV hj hN ⟨val, true⟩ hK h e1 e2 e3 e4 e5 e6 e7).1 hb) ⟨rfl, rfl, rfl⟩ he
      · exact absurd (a k (by simp)) hin
theorem duo_drop (hV : V3 m p N) (hj : j < 3) (hN : N ≤ 1000) (h0 : (p.T j).ph = 0) (hk : k.Ok) :
    ∃ (code : Int) (G : Tn → Ps → Sto → Prop) (H : Rn → List Rx → List (Ky × Cl) → Prop), ∀ ka kb cap1 cap : Nat, DuoK w0 m p j N (KyAt ka k) (KyAt kb k) 59 #[.pointer (some ⟨(m.a j).m.sb, 0, none⟩), .slice (some ⟨ka, 0, none⟩) 1 cap1] (.int .i64 code) 58 #[.pointer (some ⟨(m.b j).m.sb, 0, none⟩), .slice (some ⟨kb, 0, none⟩) 1 cap, .string ⟨#[]⟩, .bool false] (.int .i64 code) G H := by
  have hv := hV.v j hj
  obtain ⟨n1, n2, n3, n4, n5⟩ := hv.n
  have hA : ∀ u m' p', M3 w0 u m' p' → m'.a j = m.a j → m'.s = m.s → p'.T j = p.T j → p'.P j = p.P j → OcA u (m.a j) (p.T j) (p.P j) m.s := fun u m' p' h e1 e2 e3 e4 => by
    have hA := h.oca hj
    rw [e1, e2, e3, e4] at hA
    exact hA
  have hD : ∀ (ka cap1 : Nat) u m' p', KyAt ka k u m' → M3 w0 u m' p' → m'.a j = m.a j → m'.s = m.s → p'.T j = p.T j → p'.P j = p.P j → Calls Tryz.prog 59 #[.pointer (some ⟨(m.a j).m.sb, 0, none⟩), .slice (some ⟨ka, 0, none⟩) 1 cap1] u (SxDropPost u (m.a j).m.sb (m.a j).bs (m.a j).bw (m.a j).bm (p.P j).ns (p.P j).nw (p.P j).nm (p.P j).gs (p.P j).gw (p.P j).gm [k]) := fun ka cap1 u m' p' hK h e1 e2 e3 e4 =>
    sxDrop_any (hA u m' p' h e1 e2 e3 e4).mm.x (by omega) (some ⟨ka, 0, none⟩) cap1 [k] hK.v (fun y hy => by rw [List.mem_singleton.1 hy]; exact hk) (by show 1 ≤ 1000000; decide)
  by_cases hin : ∃ x ∈ p.X j, x.k = k
  · have hs : ((p.P j).gs k).isSome = true := (hv.px.isSome k).2 hin
    refine ⟨0, GWr m p j k ⟨⟨#[]⟩, false⟩, HWr p j k ⟨⟨#[]⟩, false⟩, fun ka kb cap1 cap => ⟨fun u m' p' hK h e1 e2 e3 e4 => (hD ka cap1 u m' p' hK h e1 e2 e3 e4).mono (fun e u' hp => ?_), fun u m' p' hK h e1 e2 e3 e4 e5 e6 e7 => (ref_write hV hj hN ⟨⟨#[]⟩, false⟩ hK h e1 e2 e3 e4 e5 e6 e7).2.mono (fun e u' hp => ?_), fun T' P' s' R' X' L' hG hH => writes_pl hV hj h0 hin ⟨by decide, fun _ => rfl⟩ hG hH⟩⟩
    · unfold SxDropPost at hp
      rw [if_neg (by simp only [List.any_cons, hs, List.any_nil]; decide)] at hp
      obtain ⟨he, nw', hn, h1, h2⟩ := hp
      have h9 := (hA u m' p' h e1 e2 e3 e4).sets (P' := { p.P j with nw := nw', gw := updK (p.P j).gw k (some ⟨⟨#[]⟩, false⟩) }) h1 (.inr (.inl rfl)) h2
      exact pp_of h hj e1 e2 h9.1 h9.2 ⟨rfl, ⟨nw', hn, rfl⟩, rfl⟩ he
    · rcases hp with ⟨⟨k', hk', hno⟩, _⟩ | ⟨_, he, h1, h2⟩
      · rw [List.mem_singleton.1 hk'] at hno
        obtain ⟨x, hx, hxk⟩ := hin
        exact absurd hxk (hno x hx)
      · exact rp_of h hj e1 e2 e3 e4 (rw_same (ref_write (cap := cap) hV hj hN ⟨⟨#[]⟩, false⟩ hK h e1 e2 e3 e4 e5 e6 e7).1 h1 h2) ⟨rfl, rfl, rfl⟩ he
  · have hs : ((p.P j).gs k).isSome = false := by
      cases hq : ((p.P j).gs k).isSome
      · rfl
      · exact absurd ((hv.px.isSome k).1 hq) hin
    refine ⟨101, GSame m p j, HSame p j, fun ka kb cap1 cap => ⟨fun u m' p' hK h e1 e2 e3 e4 => (hD ka cap1 u m' p' hK h e1 e2 e3 e4).mono (fun e u' hp => ?_), fun u m' p' hK h e1 e2 e3 e4 e5 e6 e7 => (ref_write hV hj hN ⟨⟨#[]⟩, false⟩ hK h e1 e2 e3 e4 e5 e6 e7).2.mono (fun e u' hp => ?_), fun T' P' s' R' X' L' hG hH => sames0 hV hj h0 hG hH⟩⟩
    · unfold SxDropPost at hp
      rw [if_pos (by simp only [List.any_cons, hs, List.any_nil]; decide)] at hp
      exact pp_of h hj e1 e2 ((hA u m' p' h e1 e2 e3 e4).below hp.2) (OcT.below hp.2 _ _) ⟨rfl, rfl, rfl⟩ hp.1
    · rcases hp with ⟨_, he, hb⟩ | ⟨a, _⟩
      · exact rp_of h hj e1 e2 e3 e4 (rq_same (ref_write (cap := cap) hV hj hN ⟨⟨#[]⟩, false⟩ hK h e1 e2 e3 e4 e5 e6 e7).1 hb) ⟨rfl, rfl, rfl⟩ he
      · exact absurd (a k (by simp)) hin
/-- the sets' own block alone has changed, for new maps -/
theorem OcA.maps {a : Ta} {T : Tn} {P P' : Ps} {s : Sto} {bw bm : Nat} (h : OcA w a T P s) (hx : StX w' a.m.sb a.bs bw bm P'.ns P'.nw P'.nm P'.gs P'.gw P'.gm) (hc : Chg w w' (fun j => j = a.m.sb)) (h1 : bw = a.bw ∨ w.heap.size ≤ bw) (h2 : bm = a.bm ∨ w.heap.size ≤ bm) :
    OcA w' { a with bw := bw, bm := bm } T P' s ∧ OcT w w' a { a with bw := bw, bm := bm } s s := by
  have hty : Ty w a.m.sb 109 := ⟨_, _, h.mm.x.blk⟩
  have ht : TxC w' a.m T := by
    refine h.mm.t.keep (hc.block _ h.mm.t.lt (fun e => ?_)) (fun g cur hg => ?_)
    · have h9 : Ty w a.m.sb 71 := by rw [← e]; exact ⟨_, _, h.mm.t.blk⟩
      exact hty.ne h9 (by decide)
    · have hl : g < w.heap.size := by rcases hg with hg | hg <;> exact (Array.getElem?_eq_some_iff.1 hg).1
      refine hc.block g hl (fun e => ?_)
      have e2 : g = a.m.sb := e
      rcases hg with hg | hg
      · have h9 : Ty w a.m.sb 94 := by rw [← e2]; exact ⟨_, _, hg⟩
        exact hty.ne h9 (by decide)
      · have h9 : Ty w a.m.sb 47 := by rw [← e2]; exact ⟨_, _, hg⟩
        exact hty.ne h9 (by decide)
  have hfp : ∀ j, Ta.fp { a with bw := bw, bm := bm } j → a.fp j ∨ w.heap.size ≤ j := fun j hj => by
    rcases hj with e | e | e | e | e | e | e | e
    · exact .inl (.inl e)
    · exact .inl (.inr (.inl e))
    · exact .inl (.inr (.inr (.inl e)))
    · have e : j = bw := e
      rcases h1 with h1 | h1
      · exact .inl (.inr (.inr (.inr (.inl (e.trans h1)))))
      · exact .inr (by omega)
    · have e : j = bm := e
      rcases h2 with h2 | h2
      · exact .inl (.inr (.inr (.inr (.inr (.inl (e.trans h2))))))
      · exact .inr (by omega)
    · exact .inl (.inr (.inr (.inr (.inr (.inr (.inl e))))))
    · exact .inl (.inr (.inr (.inr (.inr (.inr (.inr (.inl e)))))))
    · exact .inl (.inr (.inr (.inr (.inr (.inr (.inr (.inr e)))))))
  exact ⟨⟨⟨ht, hx⟩, h.st.keep (fun i hi => hc.block i (h.st.lt hi) (fun e => h.ap i (.inr (.inl e)) hi)), h.cb, fun j hj hf => by
      rcases hfp j hj with e | e
      · exact h.ap j e hf
      · have := h.st.lt hf; omega⟩,
    ⟨hc.mono (fun _ _ e => .inl (.inr (.inl e))), hfp, fun _ h => .inl h, rfl, rfl, rfl⟩⟩
theorem duo_mark (hV : V3 m p N) (hj : j < 3) (h0 : (p.T j).ph = 0) :
    ∃ (G : Tn → Ps → Sto → Prop) (H : Rn → List Rx → List (Ky × Cl) → Prop), DuoK w0 m p j N (fun _ _ => True) (fun _ _ => True) 60 #[.pointer (some ⟨(m.a j).m.sb, 0, none⟩)] (.tuple #[]) 61 #[.pointer (some ⟨(m.b j).m.sb, 0, none⟩), .bool false] (.tuple #[]) G H := by
  have hv := hV.v j hj
  obtain ⟨n1, n2, n3, n4, n5⟩ := hv.n
  refine ⟨fun T P s => T = p.T j ∧ P = { p.P j with nm := (p.P j).nw, gm := (p.P j).gw } ∧ s = m.s, fun R X L => R = p.R j ∧ X = (p.X j).map (mbX false) ∧ L = p.L, ⟨fun u m' p' _ h e1 e2 e3 e4 => ?_, fun u m' p' _ h e1 e2 e3 e4 e5 e6 e7 => ?_, fun T' P' s' R' X' L' hG hH => ?_⟩⟩
  · have hA := h.oca hj
    rw [e1, e2, e3, e4] at hA
    refine (sxMark_any hA.mm.x).mono (fun e u' hp => ?_)
    obtain ⟨he, h1, h2⟩ := hp
    have h9 := hA.maps (P' := { p.P j with nm := (p.P j).nw, gm := (p.P j).gw }) h1 h2 (.inl rfl) (.inr (Nat.le_refl _))
    exact pp_of h hj e1 e2 h9.1 h9.2 ⟨rfl, rfl, rfl⟩ he
  · have hA := h.rqa hj
    rw [e1, e2, e3, e4, e5, e6, e7] at hA
    refine (r13Mark_v hA.mm.s false).mono (fun e u' hp => ?_)
    exact rp_of h hj e1 e2 e3 e4 (rw_same hA hp.2.1 hp.2.2) ⟨rfl, rfl, rfl⟩ hp.1
  · obtain ⟨rfl, rfl, rfl⟩ := hG
    obtain ⟨rfl, rfl, rfl⟩ := hH
    rw [mbX_false]
    exact ⟨⟨hV.g.mono (Nat.le_succ _), Keeps.refl _ _, hv.idle (Nat.le_succ _) hv.same hv.px.mark rfl rfl rfl hv.sm hv.gw hv.gw ⟨by omega, by show (p.P j).ns ≤ N + 1; omega, by show (p.P j).nw ≤ N + 1; omega, by show (p.P j).nw ≤ N + 1; omega, by rw [List.length_map]; omega⟩ (.inl h0)⟩, h0⟩
theorem duo_back (hV : V3 m p N) (hj : j < 3) (h0 : (p.T j).ph = 0) :
    ∃ (G : Tn → Ps → Sto → Prop) (H : Rn → List Rx → List (Ky × Cl) → Prop), DuoK w0 m p j N (fun _ _ => True) (fun _ _ => True) 62 #[.pointer (some ⟨(m.a j).m.sb, 0, none⟩)] (.tuple #[]) 61 #[.pointer (some ⟨(m.b j).m.sb, 0, none⟩), .bool true] (.tuple #[]) G H := by
  have hv := hV.v j hj
  obtain ⟨n1, n2, n3, n4, n5⟩ := hv.n
  refine ⟨fun T P s => T = p.T j ∧ P = { p.P j with nw := (p.P j).nm, gw := (p.P j).gm } ∧ s = m.s, fun R X L => R = p.R j ∧ X = (p.X j).map (mbX true) ∧ L = p.L, ⟨fun u m' p' _ h e1 e2 e3 e4 => ?_, fun u m' p' _ h e1 e2 e3 e4 e5 e6 e7 => ?_, fun T' P' s' R' X' L' hG hH => ?_⟩⟩
  · have hA := h.oca hj
    rw [e1, e2, e3, e4] at hA
    refine (sxBack_any hA.mm.x).mono (fun e u' hp => ?_)
    obtain ⟨he, h1, h2⟩ := hp
    have h9 := hA.maps (P' := { p.P j with nw := (p.P j).nm, gw := (p.P j).gm }) h1 h2 (.inr (Nat.le_refl _)) (.inl rfl)
    exact pp_of h hj e1 e2 h9.1 h9.2 ⟨rfl, rfl, rfl⟩ he
  · have hA := h.rqa hj
    rw [e1, e2, e3, e4, e5, e6, e7] at hA
    refine (r13Mark_v hA.mm.s true).mono (fun e u' hp => ?_)
    exact rp_of h hj e1 e2 e3 e4 (rw_same hA hp.2.1 hp.2.2) ⟨rfl, rfl, rfl⟩ hp.1
  · obtain ⟨rfl, rfl, rfl⟩ := hG
    obtain ⟨rfl, rfl, rfl⟩ := hH
    rw [mbX_true]
    exact ⟨⟨hV.g.mono (Nat.le_succ _), Keeps.refl _ _, hv.idle (Nat.le_succ _) hv.same hv.px.back rfl rfl rfl hv.sm hv.gm hv.gm ⟨by omega, by show (p.P j).ns ≤ N + 1; omega, by show (p.P j).nm ≤ N + 1; omega, by show (p.P j).nm ≤ N + 1; omega, by rw [List.length_map]; omega⟩ (.inl h0)⟩, h0⟩
/-- what both tell of a key -/
def GtPost (P : Ps) (k : Ky) (u : World) (e : Ending) (u' : World) : Prop := e = .returned (.tuple #[.string (getX P.gs P.gw k).1, .bool (getX P.gs P.gw k).2.1, .bool (getX P.gs P.gw k).2.2]) ∧ Below u.heap.size u u'
theorem get_p (h : M3 w0 u m p) (hj : j < 3) (hk : k.Ok) : Calls Tryz.prog 63 #[.pointer (some ⟨(m.a j).m.sb, 0, none⟩), .agg #[.int .i64 k.kind, .int .i64 k.a, .int .i64 k.b, .string k.s]] u (GtPost (p.P j) k u) := sxGet_any (h.tx j hj).x hk
theorem get_r (h : M3 w0 u m p) (hj : j < 3) (hx : PX (p.X j) (p.P j).gs (p.P j).gw (p.P j).gm) : Calls Tryz.prog 64 #[.pointer (some ⟨(m.b j).m.sb, 0, none⟩), .agg #[.int .i64 k.kind, .int .i64 k.a, .int .i64 k.b, .string k.s]] u (GtPost (p.P j) k u) := (r13Get_any (h.rx j hj).s.x k).mono (fun _ _ hp => get13_same hx hp)
theorem ws_own {g : Ky → Option Cl} {T : Tn} {P : Ps} {R : Rn} {X : List Rx} {B n c : Nat} {a : Option Addr} (hv : Tv g j T P R X N) (h : kW.Own w B (.slice a n c) (outX X)) : WsV w a (outX X) :=
  ws_of_row h.toV (fun x hx => by
    obtain ⟨y, hy, hy1, rfl⟩ := outX_of hx
    have h9 := hv.px.w y hy
    rw [if_pos hy1] at h9
    have h8 := (hv.gw _ _ h9).1
    refine ⟨by rw [hv.px.wk y hy hy1]; exact hv.px.ok y hy, ?_⟩
    have h7 : y.w.val.size ≤ 200 := h8
    unfold maxLen
    omega)
/-- a row of writes -/
def WsPost (W : List Wr) (u : World) (e : Ending) (u' : World) : Prop := ∃ a c, e = .returned (.slice a W.length c) ∧ WsV u' a W ∧ Below u.heap.size u u'
theorem writes_p (h : M3 w0 u m p) (hj : j < 3) (hV : V3 m p N) (hN : N ≤ 1000) : Calls Tryz.prog 41 #[.pointer (some ⟨(m.a j).m.sb, 0, none⟩)] u (WsPost (outX (p.X j)) u) := by
  have hv := hV.v j hj
  refine (sxWrites_any (h.tx j hj).x (by have := hv.n; omega)).mono ?_
  rintro e u' ⟨v, ks, rfl, h1, h2, h3⟩
  rw [hv.px.writes h1] at h2
  obtain ⟨a, c, rfl⟩ := h2.shape
  exact ⟨a, c, rfl, ws_own hv h2, h3⟩
theorem writes_r (h : M3 w0 u m p) (hj : j < 3) (hV : V3 m p N) : Calls Tryz.prog 65 #[.pointer (some ⟨(m.b j).m.sb, 0, none⟩)] u (WsPost (outX (p.X j)) u) := by
  refine (r13Writes_any (h.rx j hj).s.x).mono ?_
  rintro e u' ⟨v, rfl, h2, h3⟩
  obtain ⟨a, c, rfl⟩ := h2.shape
  exact ⟨a, c, rfl, ws_own (hV.v j hj) h2, h3⟩
end
end Go.Proofs.YtkhkdedjffkhdaaGreat
