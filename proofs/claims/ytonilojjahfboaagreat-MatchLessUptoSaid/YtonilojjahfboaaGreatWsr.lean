/- Rows of rows of numbers in memory. Conditions: each lemma's own premises. -/
import Derived.Test.YtonilojjahfboaaGreatGrA
namespace Go.Proofs.YtonilojjahfboaaGreat
open Go.RowKit Go.Maps

/-- a slice of numbers, as an element -/
structure Ws where
  a : Option Addr
  c : Nat
  l : List Int
theorem infoWs : (Tryz.prog.info? 42).map (fun i => (i.zero, i.size, i.bytes)) = some (some (.slice none 0 0), 1, 24) := by kernel_rfl
def kW2 : RowK Tryz.prog Ws where
  t := 119
  e := 42
  size := 1
  bytes := 24
  z := .slice none 0 0
  enc := fun x => [.slice x.a x.l.length x.c]
  ht := Tryz.underlying119
  info := infoWs
  hz := rfl
  pos := by decide
  small := by decide
  len := fun _ => rfl
  one := fun x u hu => by
    simp at hu
    rw [hu]
    rfl
/-- rows of numbers in memory -/
structure RowsI (u : World) (B : Nat) (bv : Value) (R : List Ws) : Prop where
  o : kW2.Own u B bv R
  e : ∀ x ∈ R, kI.Own u 0 (.slice x.a x.l.length x.c) x.l
theorem own_own_ne {P : Program} {α β : Type} {k1 : RowK P α} {k2 : RowK P β} {w : World} {B B' : Nat} {v1 v2 : Value} {l1 : List α} {l2 : List β} (h : k1.Own w B v1 l1) (k : k2.Own w B' v2 l2) (hne : k1.e ≠ k2.e) : ∀ j, v1.ownBlock = some j → v2.ownBlock ≠ some j := fun j hj hk => by
  rcases h.2 with ⟨h1, _⟩ | ⟨g, cp, cur, h1, _, hg, _⟩
  · rw [h1] at hj; cases hj
  · rcases k.2 with ⟨k1, _⟩ | ⟨g', cp', cur', k1, _, kg, _⟩
    · rw [k1] at hk; cases hk
    · rw [h1] at hj
      rw [k1] at hk
      injection hj with hj
      injection hk with hk
      subst hj
      subst hk
      rw [hg] at kg
      injection kg with kg
      injection kg with e1 e2 e3
      exact hne e2
section
variable {u u' : World} {B Bn : Nat} {bv nv nv' : Value} {R N : List Ws} {x : Ws}
theorem RowsI.below (h : RowsI u B bv R) (hb : Below u.heap.size u u') : RowsI u' B bv R := ⟨h.o.below hb, fun x hx => (h.e x hx).below hb⟩
theorem RowsI.nil (u : World) (B : Nat) : RowsI u B (.slice none 0 0) [] := ⟨RowK.Own.nil kW2 _ _, fun x hx => by cases hx⟩
/-- numbers' rows are not touched by an append to a row of slices -/
theorem ints_kept {v : Value} {l : List Int} {B2 : Nat} (h : kI.Own u B2 v l) (hn : kW2.Own u Bn nv N) (hg : u.grownBy u' nv.ownBlock) : kI.Own u' B2 v l :=
  h.grown hg (fun j hj e => own_own_ne h hn (by decide) j hj e.symm)
theorem RowsI.app (h : RowsI u Bn nv N) (hx : kI.Own u 0 (.slice x.a x.l.length x.c) x.l) (hA : kW2.App u Bn nv (N ++ [x]) nv' u') : RowsI u' Bn nv' (N ++ [x]) := by
  obtain ⟨o1, g1, _⟩ := hA
  refine ⟨o1, fun y hy => ?_⟩
  rcases List.mem_append.1 hy with hy | hy
  · exact ints_kept (h.e y hy) h.o g1
  · obtain rfl : y = x := by simpa using hy
    exact ints_kept hx h.o g1
/-- another row of slices, made ahead -/
theorem RowsI.other (h : RowsI u B bv R) (hlt : ∀ j, bv.ownBlock = some j → j < Bn) (hn : kW2.Own u Bn nv N) (hg : u.grownBy u' nv.ownBlock) : RowsI u' B bv R :=
  ⟨h.o.grown hg (fun j hj e => by
    have h1 := hlt j hj
    have h2 := (hn.lt j e.symm).1
    omega), fun x hx => ints_kept (h.e x hx) hn hg⟩
end
end Go.Proofs.YtonilojjahfboaaGreat
