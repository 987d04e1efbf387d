/- Reference 19: Way, plainly and in memory. Conditions: each lemma's own premises. -/
import Derived.Test.YtaanohgkdpohhaaRw1
namespace Go.Proofs.Ytaanohgkdpohhaa
open Go.RowKit Go.Maps

section
variable {R : Int → Int → Prop} {n k : Nat} {fr v : Int} {V : List Vt} {b r bu : List Int} {x : Vt}
theorem Best.congr {S T : List Int → Prop} (h : Best S r) (he : ∀ w, S w ↔ T w) : Best T r := by
  rcases h with ⟨h1, h2⟩ | ⟨h1, h2⟩
  · exact .inl ⟨h1, fun w hw => h2 w ((he w).2 hw)⟩
  · exact .inr ⟨(he r).1 h1, fun w hw => h2 w ((he w).2 hw)⟩
/-- candidates among the first k -/
def Cand (R : Int → Int → Prop) (n : Nat) (fr v : Int) (V : List Vt) (k : Nat) (w : List Int) : Prop := ∃ j x bu, j < k ∧ V[j]? = some x ∧ R x.id v ∧ Least R n fr x.id bu ∧ Dist R n fr x.id ∧ w = bu ++ [v]
def BstK (R : Int → Int → Prop) (n : Nat) (fr v : Int) (V : List Vt) (k : Nat) (b r : List Int) : Prop := (b ≠ [] → r = b) ∧ (b = [] → Best (Cand R n fr v V k) r)
theorem Cand.len {w : List Int} (h : Cand R n fr v V k w) : w.length = n + 1 + 1 := by
  obtain ⟨j, x, bu, _, _, _, h1, _, rfl⟩ := h
  rw [List.length_append, h1.1.len]; rfl
theorem BstK.start : BstK R n fr v V 0 b b := ⟨fun _ => rfl, fun e => .inl ⟨e, fun _ ⟨_, _, _, hj, _⟩ => absurd hj (Nat.not_lt_zero _)⟩⟩
theorem BstK.skip (h : BstK R n fr v V k b r) (hno : b ≠ [] ∨ ∀ x, V[k]? = some x → ¬ (R x.id v ∧ Dist R n fr x.id)) : BstK R n fr v V (k + 1) b r := by
  refine ⟨h.1, fun e => (h.2 e).congr fun w => ⟨?_, ?_⟩⟩
  · rintro ⟨j, x, bu, hj, h1⟩
    exact ⟨j, x, bu, by omega, h1⟩
  · rintro ⟨j, x, bu, hj, h1, h2, h3, h4, h5⟩
    by_cases hjk : j < k
    · exact ⟨j, x, bu, hjk, h1, h2, h3, h4, h5⟩
    · obtain rfl : j = k := by omega
      rcases hno with hno | hno
      · exact absurd e hno
      · exact absurd ⟨h2, h4⟩ (hno x h1)
theorem BstK.take (h : BstK R n fr v V k [] r) (hx : V[k]? = some x) (hR : R x.id v) (hL : Least R n fr x.id bu) (hD : Dist R n fr x.id) : BstK R n fr v V (k + 1) [] (pick r (bu ++ [v])) := by
  refine ⟨fun e => absurd rfl e, fun _ => (Best.pick (h.2 rfl) (fun w hw => hw.len) (by rw [List.length_append, hL.1.len]; rfl)).congr fun w => ⟨?_, ?_⟩⟩
  · rintro (⟨j, y, bv, hj, h1⟩ | rfl)
    · exact ⟨j, y, bv, by omega, h1⟩
    · exact ⟨k, x, bu, by omega, hx, hR, hL, hD, rfl⟩
  · rintro ⟨j, y, bv, hj, h1, h2, h3, h4, rfl⟩
    by_cases hjk : j < k
    · exact .inl ⟨j, y, bv, hjk, h1, h2, h3, h4, rfl⟩
    · obtain rfl : j = k := by omega
      rw [hx] at h1
      injection h1 with h1
      subst h1
      exact .inr (by rw [h3.uniq hL])
theorem BstK.len (h : BstK R n fr v V k [] r) (hr : r ≠ []) : r.length = n + 1 + 1 := by
  rcases h.2 rfl with ⟨h1, _⟩ | ⟨h1, _⟩
  · exact absurd h1 hr
  · exact h1.len
theorem RowOk.far (h : RowOk R n fr v b) (hd : Dist R n fr v) : b.length = n + 1 ∧ Least R n fr v b := by
  rcases h with ⟨_, h2⟩ | ⟨d, _, h2, h3⟩
  · exact absurd hd (h2 n (Nat.le_refl _))
  · obtain rfl := h2.uniq hd
    exact ⟨h3.1.len, h3⟩
theorem BstK.done (h : BstK R n fr v V V.length b r) (hb : RowOk R n fr v b) (hV : ∀ u, R u v → HasV V u) (rows : Nat → List Int) (hrow : ∀ i x, V[i]? = some x → RowOk R n fr x.id (rows i)) : RowOk R (n + 1) fr v r := by
  refine hb.step (fun u hu hd => ?_) h.1 (fun e => (h.2 e).congr fun w => ⟨?_, ?_⟩)
  · obtain ⟨x, hx, rfl⟩ := hV u hu
    obtain ⟨i, hi⟩ := List.getElem?_of_mem hx
    exact ⟨_, ((hrow i x hi).far hd).2⟩
  · rintro ⟨j, x, bu, _, _, h2, h3, h4, rfl⟩
    exact ⟨x.id, bu, h2, h3, h4, rfl⟩
  · rintro ⟨u, bu, h2, h3, h4, rfl⟩
    obtain ⟨x, hx, rfl⟩ := hV u h2
    obtain ⟨i, hi⟩ := List.getElem?_of_mem hx
    exact ⟨i, x, bu, (List.getElem?_eq_some_iff.1 hi).1, hi, h2, h3, h4, rfl⟩
theorem RowOk.zero (R : Int → Int → Prop) (fr v : Int) : RowOk R 0 fr v (if v = fr then [fr] else []) := by
  by_cases e : v = fr
  · subst e
    rw [if_pos rfl]
    exact .inr ⟨0, Nat.le_refl _, (dist_zero _ _).2 rfl, Least.zero _⟩
  · rw [if_neg e]
    refine .inl ⟨rfl, fun d hd h => ?_⟩
    obtain rfl : d = 0 := by omega
    exact e ((dist_zero _ _).1 h).symm
end
/-- a slice of numbers, as an element -/
structure Ws where
  a : Option Addr
  c : Nat
  l : List Int
theorem infoWs : (Try.prog.info? 22).map (fun i => (i.zero, i.size, i.bytes)) = some (some (.slice none 0 0), 1, 24) := by kernel_rfl
def kW2 : RowK Try.prog Ws where
  t := 203
  e := 22
  size := 1
  bytes := 24
  z := .slice none 0 0
  enc := fun x => [.slice x.a x.l.length x.c]
  ht := Try.underlying203
  info := infoWs
  hz := rfl
  pos := by decide
  small := by decide
  len := fun _ => rfl
  one := fun x u hu => by
    simp at hu
    rw [hu]
    rfl
/-- rows of numbers in memory -/
structure RowsI (u : World) (B : Nat) (bv : Value) (R : List Ws) : Prop where
  o : kW2.Own u B bv R
  e : ∀ x ∈ R, kI.Own u 0 (.slice x.a x.l.length x.c) x.l
theorem own_own_ne {P : Program} {α β : Type} {k1 : RowK P α} {k2 : RowK P β} {w : World} {B B' : Nat} {v1 v2 : Value} {l1 : List α} {l2 : List β} (h : k1.Own w B v1 l1) (k : k2.Own w B' v2 l2) (hne : k1.e ≠ k2.e) : ∀ j, v1.ownBlock = some j → v2.ownBlock ≠ some j := fun j hj hk => by
  rcases h.2 with ⟨h1, _⟩ | ⟨g, cp, cur, h1, _, hg, _⟩
  · rw [h1] at hj; cases hj
  · rcases k.2 with ⟨k1, _⟩ | ⟨g', cp', cur', k1, _, kg, _⟩
    · rw [k1] at hk; cases hk
    · rw [h1] at hj
      rw [k1] at hk
      injection hj with hj
      injection hk with hk
      subst hj
      subst hk
      rw [hg] at kg
      injection kg with kg
      injection kg with e1 e2 e3
      exact hne e2
section
variable {u u' : World} {B Bn : Nat} {bv nv nv' : Value} {R N : List Ws} {x : Ws}
theorem RowsI.below (h : RowsI u B bv R) (hb : Below u.heap.size u u') : RowsI u' B bv R := ⟨h.o.below hb, fun x hx => (h.e x hx).below hb⟩
theorem RowsI.nil (u : World) (B : Nat) : RowsI u B (.slice none 0 0) [] := ⟨RowK.Own.nil kW2 _ _, fun x hx => by cases hx⟩
/-- numbers' rows are not touched by an append to a row of slices -/
theorem ints_kept {v : Value} {l : List Int} {B2 : Nat} (h : kI.Own u B2 v l) (hn : kW2.Own u Bn nv N) (hg : u.grownBy u' nv.ownBlock) : kI.Own u' B2 v l :=
  h.grown hg (fun j hj e => own_own_ne h hn (by decide) j hj e.symm)
theorem RowsI.app (h : RowsI u Bn nv N) (hx : kI.Own u 0 (.slice x.a x.l.length x.c) x.l) (hA : kW2.App u Bn nv (N ++ [x]) nv' u') : RowsI u' Bn nv' (N ++ [x]) := by
  obtain ⟨o1, g1, _⟩ := hA
  refine ⟨o1, fun y hy => ?_⟩
  rcases List.mem_append.1 hy with hy | hy
  · exact ints_kept (h.e y hy) h.o g1
  · obtain rfl : y = x := by simpa using hy
    exact ints_kept hx h.o g1
/-- another row of slices, made ahead -/
theorem RowsI.other (h : RowsI u B bv R) (hlt : ∀ j, bv.ownBlock = some j → j < Bn) (hn : kW2.Own u Bn nv N) (hg : u.grownBy u' nv.ownBlock) : RowsI u' B bv R :=
  ⟨h.o.grown hg (fun j hj e => by
    have h1 := hlt j hj
    have h2 := (hn.lt j e.symm).1
    omega), fun x hx => ints_kept (h.e x hx) hn hg⟩
end
end Go.Proofs.Ytaanohgkdpohhaa
