/- Layer 19, plainly: what two runs say of one another. No program here beyond plain lists. -/
import Derived.Test.YtaanohgkdpohhaaPb4
namespace Go.Proofs.Ytaanohgkdpohhaa
open Go.RowKit Go.Maps

/-- with steps enough it is never spent -/
theorem RnM.rich {V : List Vt} {E : List Eg} {a : PA} {n : Nat} {f : Int} {m : List Int} (h : RnM V E a (some n) f m) (hn : 2 + 2 * (V.length + E.length) ≤ n) :
    (badA a ∧ f = 2 ∧ m = []) ∨ (¬ badA a ∧ ((f = 101 ∧ m = [] ∧ ¬ (HasV V a.fr ∧ HasV V a.t)) ∨
      (f = 190 ∧ m = [] ∧ HasV V a.fr ∧ HasV V a.t ∧ ∀ k, k ≤ a.most.toNat → ¬ Dist (edB E a.lab) k a.fr a.t) ∨
      (f = 0 ∧ HasV V a.fr ∧ HasV V a.t ∧ ∃ k, k ≤ a.most.toNat ∧ Dist (edB E a.lab) k a.fr a.t ∧ Least (edB E a.lab) k a.fr a.t m))) := by
  rcases h with h | ⟨hb, h⟩
  · exact .inl h
  · refine .inr ⟨hb, ?_⟩
    rcases h with h | ⟨_, _, h, _⟩ | h | h
    · exact .inl h
    · have := h n rfl
      omega
    · exact .inr (.inl h)
    · exact .inr (.inr h)
theorem RnM.len {V : List Vt} {E : List Eg} {a : PA} {st : Option Nat} {f : Int} {m : List Int} (h : RnM V E a st f m) : m.length ≤ 65 := by
  rcases h with ⟨_, _, rfl⟩ | ⟨nb, h⟩
  · exact Nat.zero_le _
  · have hm : a.most ≤ 64 := by unfold badA at nb; omega
    rcases h with ⟨_, rfl, _⟩ | ⟨_, rfl, _⟩ | ⟨_, rfl, _⟩ | ⟨_, _, _, k, h1, _, h2⟩
    · exact Nat.zero_le _
    · exact Nat.zero_le _
    · exact Nat.zero_le _
    · rw [h2.1.len]; omega
theorem steps_law {V : List Vt} {E : List Eg} {a : PA} {k : Nat} {e f : Int} {l m : List Int} (hV : V.length ≤ 20) (hE : E.length ≤ 60) (h1 : RnM V E a (some k) e l) (h2 : RnM V E a (some 1048576) f m) :
    (e = 41 → l = [] ∧ f ≠ 41 ∧ f ≠ 2 ∧ (k : Int) < boundI V.length E.length) ∧ (e ≠ 41 → e = f ∧ l = m) := by
  have h3 := h2.rich (by omega)
  have hB : boundI V.length E.length = 4 + 4 * (V.length : Int) + 2 * (E.length : Int) := by
    unfold boundI
    rw [if_neg (by omega)]
    omega
  rcases h1 with ⟨b, rfl, rfl⟩ | ⟨nb, h1⟩
  · refine ⟨fun h => absurd h (by decide), fun _ => ?_⟩
    rcases h3 with ⟨_, rfl, rfl⟩ | ⟨nb, _⟩
    · exact ⟨rfl, rfl⟩
    · exact absurd b nb
  · rcases h3 with ⟨b, _⟩ | ⟨_, h3⟩
    · exact absurd b nb
    · rcases h1 with ⟨rfl, rfl, c1⟩ | ⟨rfl, rfl, c1, _⟩ | ⟨rfl, rfl, c1, c2, c3⟩ | ⟨rfl, c1, c2, j, c3, c4, c5⟩
      · refine ⟨fun h => absurd h (by decide), fun _ => ?_⟩
        rcases h3 with ⟨rfl, rfl, _⟩ | ⟨_, _, d1, d2, _⟩ | ⟨_, d1, d2, _⟩
        · exact ⟨rfl, rfl⟩
        · exact absurd ⟨d1, d2⟩ c1
        · exact absurd ⟨d1, d2⟩ c1
      · refine ⟨fun _ => ⟨rfl, ?_, ?_, ?_⟩, fun h => absurd rfl h⟩
        · rcases h3 with ⟨rfl, _⟩ | ⟨rfl, _⟩ | ⟨rfl, _⟩ <;> decide
        · rcases h3 with ⟨rfl, _⟩ | ⟨rfl, _⟩ | ⟨rfl, _⟩ <;> decide
        · have := c1 k rfl
          omega
      · refine ⟨fun h => absurd h (by decide), fun _ => ?_⟩
        rcases h3 with ⟨_, _, d1⟩ | ⟨rfl, rfl, _⟩ | ⟨_, _, _, j, d1, d2, _⟩
        · exact absurd ⟨c1, c2⟩ d1
        · exact ⟨rfl, rfl⟩
        · exact absurd d2 (c3 j d1)
      · refine ⟨fun h => absurd h (by decide), fun _ => ?_⟩
        rcases h3 with ⟨_, _, d1⟩ | ⟨_, _, _, _, d1⟩ | ⟨rfl, _, _, i, _, d2, d3⟩
        · exact absurd ⟨c1, c2⟩ d1
        · exact absurd c4 (d1 j c3)
        · obtain rfl := d2.uniq c4
          exact ⟨rfl, c5.uniq d3⟩
end Go.Proofs.Ytaanohgkdpohhaa
