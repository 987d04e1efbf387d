/- redo.lay; cobwebref14.num. Conditions: each contract's own premises. redo.body. Conditions: each contract's own premises. cobwebref14.Body. Conditions: each contract's own premises. redo.Commit, redo.Mark; cobwebref14.Mark. Conditions: each contract's own premises. -/
import Derived.Test.YtkhkdedjffkhdaaGreatRdA
namespace Go.Proofs.YtkhkdedjffkhdaaGreat
open Go.RowKit Go.Maps

/-- a step of one's own bytes, seen from an earlier world -/
def OwnR (V : World) (r0 : Option Nat) (v : Value) : Prop := v.ownBlock = r0 ∨ ∃ g, v.ownBlock = some g ∧ V.heap.size ≤ g
theorem OwnR.step {V w1 : World} {r0 : Option Nat} {v v' : Value} (h : OwnR V r0 v) (hs : V.heap.size ≤ w1.heap.size) (k : v'.ownBlock = v.ownBlock ∨ ∃ g, v'.ownBlock = some g ∧ w1.heap.size ≤ g) : OwnR V r0 v' := by
  rcases k with k | ⟨g, k, hl⟩
  · rcases h with h | ⟨g, h, hg⟩
    · exact .inl (k.trans h)
    · exact .inr ⟨g, k.trans h, hg⟩
  · exact .inr ⟨g, k, by omega⟩
end Go.Proofs.YtkhkdedjffkhdaaGreat
namespace Go.Proofs.YtkhkdedjffkhdaaGreat
open Go.RowKit Go.Maps

theorem BsO.grown {w w' : World} {B : Nat} {v : Value} {l : List UInt8} {r : Option Nat} (h : BsO w B v l) (hg : w.grownBy w' r) (hn : ∀ k, v.ownBlock = some k → some k ≠ r) : BsO w' B v l :=
  ownsRow_of_block h (fun k hk => hg.block k (h.lt k hk).2 (hn k hk))
theorem OwnR.next {V w1 : World} {r0 : Option Nat} {v v' : Value} (h : OwnR V r0 v) (hs : V.heap.size ≤ w1.heap.size) (k : v'.ownBlock = v.ownBlock ∨ v'.ownBlock = some w1.heap.size) : OwnR V r0 v' := h.step hs (k.imp id (fun e => ⟨_, e, Nat.le_refl _⟩))
end Go.Proofs.YtkhkdedjffkhdaaGreat
namespace Go.Proofs.YtkhkdedjffkhdaaGreat
open Go.RowKit Go.Maps

end Go.Proofs.YtkhkdedjffkhdaaGreat
namespace Go.Proofs.YtkhkdedjffkhdaaGreat
open Go.RowKit Go.Maps

end Go.Proofs.YtkhkdedjffkhdaaGreat
