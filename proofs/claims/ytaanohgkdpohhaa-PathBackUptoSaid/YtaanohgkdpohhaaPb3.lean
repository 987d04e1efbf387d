/- Layer 19: the law's examples. Conditions: each contract's own premises. -/
import Derived.Test.YtaanohgkdpohhaaPb1
import Derived.Test.YtaanohgkdpohhaaPa9
import Derived.BigRegion
namespace Go.Proofs.Ytaanohgkdpohhaa
open Go.RowKit Go.Maps

def vA (k : Nat) : Vr := ⟨⟨(k : Int) + 1, ⟨#[97]⟩, []⟩, none, 0⟩
def VA (n : Nat) : List Vr := (List.range n).map vA
def fA : Nat → Int | 0 => 1 | 1 => 1 | 2 => 2 | _ => 3
def tA : Nat → Int | 0 => 2 | 1 => 3 | _ => 4
def eA (k : Nat) : Er := ⟨⟨k, ⟨#[120]⟩, fA k, tA k, []⟩, none, 0⟩
def EA (n : Nat) : List Er := (List.range n).map eA
theorem VA_succ (n : Nat) : VA (n + 1) = VA n ++ [vA n] := by unfold VA; rw [List.range_succ, List.map_append]; rfl
theorem EA_succ (n : Nat) : EA (n + 1) = EA n ++ [eA n] := by unfold EA; rw [List.range_succ, List.map_append]; rfl
theorem VA_len (n : Nat) : (VA n).length = n := by unfold VA; simp
theorem EA_len (n : Nat) : (EA n).length = n := by unfold EA; simp
theorem ve_ne {w : World} {B B' : Nat} {v1 v2 : Value} {l1 : List Vr} {l2 : List Er} (h : kVr.Own w B v1 l1) (k : kEr.Own w B' v2 l2) : ∀ j, v1.ownBlock = some j → v2.ownBlock ≠ some j := fun j hj hk => by
  rcases h.2 with ⟨h1, _⟩ | ⟨g, cp, cur, h1, _, hg, _⟩
  · rw [h1] at hj; cases hj
  · rcases k.2 with ⟨k1, _⟩ | ⟨g', cp', cur', k1, _, kg, _⟩
    · rw [k1] at hk; cases hk
    · rw [h1] at hj
      rw [k1] at hk
      injection hj with hj
      injection hk with hk
      subst hj
      subst hk
      rw [hg] at kg
      injection kg with kg
      injection kg with e1 e2 e3
      revert e2
      decide
theorem own_ty {P : Program} {α : Type} {k : RowK P α} {w : World} {B : Nat} {v : Value} {l : List α} (h : k.Own w B v l) {b : Nat} {c : Array Value} {t : TypeId} {z : Nat × Nat} (hb : w.heap[b]? = some (.cells c t z)) (ht : t ≠ k.e) : some b ≠ v.ownBlock := fun e => by
  rcases h.2 with ⟨h1, _⟩ | ⟨g, cp, cur, h1, _, hg, _⟩
  · rw [h1] at e; cases e
  · rw [h1] at e
    injection e with e
    subst e
    rw [hg] at hb
    injection hb with hb
    injection hb with e1 e2 e3
    exact ht e2.symm
/-- the law's own parts, so far -/
structure AwI (w : World) (pb : Nat) (u : World) (va : Option Addr) (vc n : Nat) (ea : Option Addr) (ec m : Nat) : Prop where
  box : u.heap[pb]? = some (.cells #[.slice va n vc, .slice ea m ec] 105 (0, 0))
  oV : kVr.Own u (pb + 1) (.slice va n vc) (VA n)
  oE : kEr.Own u (pb + 1) (.slice ea m ec) (EA m)
  bel : Below w.heap.size w u
  e : pb = w.heap.size
section
variable {w u u' : World} {pb vc n ec m vc' ec' : Nat} {va ea va' ea' : Option Addr}
theorem AwI.size (h : AwI w pb u va vc n ea ec m) : pb + 1 ≤ u.heap.size := (Array.getElem?_eq_some_iff.1 h.box).1
theorem AwI.alloc (h : AwI w pb u va vc n ea ec m) (X : Obj) : AwI w pb (u.alloc X) va vc n ea ec m :=
  ⟨(Below.heap_alloc _ _ _ h.size).trans h.box, h.oV.alloc X, h.oE.alloc X, h.bel.alloc h.bel.size X, h.e⟩
theorem AwI.drewN (h : AwI w pb u va vc n ea ec m) (q : Nat) : AwI w pb (u.drewN q) va vc n ea ec m :=
  ⟨h.box, ownsRow_of_block h.oV (fun _ _ => rfl), ownsRow_of_block h.oE (fun _ _ => rfl), below_drewN h.bel q, h.e⟩
theorem AwI.putV (h : AwI w pb u va vc n ea ec m) (hA : kVr.App u (pb + 1) (.slice va n vc) (VA n ++ [vA n]) (.slice va' (n + 1) vc') u') :
    u'.heap[pb]? = some (.cells #[.slice va n vc, .slice ea m ec] 105 (0, 0)) ∧ AwI w pb (u'.setCell ⟨pb, 0, none⟩ (.slice va' (n + 1) vc')) va' vc' (n + 1) ea ec m := by
  obtain ⟨o1, g1, _⟩ := hA
  have hne : some pb ≠ (Value.slice va n vc).ownBlock := fun e => by have := (h.oV.lt pb e.symm).1; omega
  have hb := (g1.block pb h.size hne).trans h.box
  have he := h.e
  have hc : Chg u' (u'.setCell ⟨pb, 0, none⟩ (.slice va' (n + 1) vc')) (fun i => i = pb) := (Chg.refl u' (fun i => i = pb)).setCell (p := ⟨pb, 0, none⟩) (fun _ => rfl) _
  refine ⟨hb, ⟨by rw [blk_setCell hb]; simp, ?_, ?_, ?_, he⟩⟩
  · rw [VA_succ]
    exact o1.chg hc (fun j hj e => by have := (o1.lt j hj).1; omega)
  · have h2 := h.oE.grown g1 (fun j hj e => ve_ne h.oV h.oE j e.symm hj)
    exact h2.chg hc (fun j hj e => by have := (h2.lt j hj).1; omega)
  · exact (h.bel.grown g1 h.bel.size (fun j hj => by have := (h.oV.lt j hj).1; omega)).setCell (by show w.heap.size ≤ pb; omega) _
theorem AwI.putE (h : AwI w pb u va vc n ea ec m) (hA : kEr.App u (pb + 1) (.slice ea m ec) (EA m ++ [eA m]) (.slice ea' (m + 1) ec') u') :
    u'.heap[pb]? = some (.cells #[.slice va n vc, .slice ea m ec] 105 (0, 0)) ∧ AwI w pb (u'.setCell ⟨pb, 1, none⟩ (.slice ea' (m + 1) ec')) va vc n ea' ec' (m + 1) := by
  obtain ⟨o1, g1, _⟩ := hA
  have hne : some pb ≠ (Value.slice ea m ec).ownBlock := fun e => by have := (h.oE.lt pb e.symm).1; omega
  have hb := (g1.block pb h.size hne).trans h.box
  have he := h.e
  have hc : Chg u' (u'.setCell ⟨pb, 1, none⟩ (.slice ea' (m + 1) ec')) (fun i => i = pb) := (Chg.refl u' (fun i => i = pb)).setCell (p := ⟨pb, 1, none⟩) (fun _ => rfl) _
  refine ⟨hb, ⟨by rw [blk_setCell hb]; simp, ?_, ?_, ?_, he⟩⟩
  · have h2 := h.oV.grown g1 (fun j hj e => ve_ne h.oV h.oE j hj e.symm)
    exact h2.chg hc (fun j hj e => by have := (h2.lt j hj).1; omega)
  · rw [EA_succ]
    exact o1.chg hc (fun j hj e => by have := (o1.lt j hj).1; omega)
  · exact (h.bel.grown g1 h.bel.size (fun j hj => by have := (h.oE.lt j hj).1; omega)).setCell (by show w.heap.size ≤ pb; omega) _
end
end Go.Proofs.Ytaanohgkdpohhaa
