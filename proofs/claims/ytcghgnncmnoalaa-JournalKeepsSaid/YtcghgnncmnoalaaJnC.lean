/- Bytes as a string. Conditions: each lemma's own premises. -/
import Derived.Test.YtcghgnncmnoalaaJnA
import Derived.Test.YtcghgnncmnoalaaRdMem
namespace Go.Proofs.Ytcghgnncmnoalaa
open Go.RowKit Go.Maps

set_option maxRecDepth 100000 in
theorem convO {w : World} {B : Nat} {v : Value} {l : List UInt8} (h : BsO w B v l) : (convert 22 9 v).run Try.prog w = .ok (.string ⟨l.toArray⟩) w := by
  obtain ⟨a, c, rfl⟩ := h.shape
  rcases h.2 with ⟨e, hl⟩ | ⟨g, cp, cur, e, h2, h3, _⟩
  · injection e with e1 e2 e3
    subst e1 e3
    have : l = [] := List.eq_nil_of_length_eq_zero hl
    subst this
    exact conv_nil w
  · injection e with e1 e2 e3
    subst e1
    by_cases hl : l = []
    · subst hl
      refine run_convert_bytes_back (P := Try.prog) w 22 9 5 ⟨g, 0, none⟩ c [] Try.underlying22 Try.underlying5 Try.underlying9 ?_
      intro j hj
      exact absurd hj (by simp)
    · obtain ⟨b, off, e, hat⟩ := BsO.bsV h hl
      injection e with e
      injection e with e1 e2
      subst e1 e2
      exact conv_at hat
theorem conv_nilc (c : Nat) (w : World) : (convert 22 9 (.slice none 0 c)).run Try.prog w = .ok (.string ⟨#[]⟩) w := by kernel_rfl
set_option maxRecDepth 100000 in
theorem convV {w : World} {a : Option Addr} {c : Nat} {l : List UInt8} (h : BsV w a l) : (convert 22 9 (.slice a l.length c)).run Try.prog w = .ok (.string ⟨l.toArray⟩) w := by
  cases a with
  | none =>
    have : l = [] := Classical.byContradiction fun hn => by obtain ⟨_, _, e, _⟩ := h hn; cases e
    subst this
    exact conv_nilc c w
  | some x =>
    refine run_convert_bytes_back (P := Try.prog) w 22 9 5 x c l Try.underlying22 Try.underlying5 Try.underlying9 ?_
    intro j hj
    obtain ⟨b, off, e, hat⟩ := h (fun e => by rw [e] at hj; simp at hj)
    injection e with e
    subst e
    exact hat.conv j hj
end Go.Proofs.Ytcghgnncmnoalaa
