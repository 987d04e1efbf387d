/- Layer 20: keys and strings of an argument. Conditions: each lemma's own premises. -/
import Derived.Test.YtonilojjahfboaaOc22
import Derived.Test.YtonilojjahfboaaRdMem
namespace Go.Proofs.Ytonilojjahfboaa
open Go.RowKit Go.Maps Go.WideMaps

set_option maxRecDepth 100000 in
theorem strs20_in {w : World} {cs : List Value} (h : Mem Try.prog w 23 cs) : ∃ (a : Option Addr) (l : List ByteArray) (cap : Nat), cs = [.slice a l.length cap] ∧ StV20 w a l := by
  obtain ⟨a, n, cap, rfl, h1, h2, h3⟩ := h.slice Try.underlying23 (of_decide_eq_true (by kernel_rfl))
  have e6 : Try.prog.cellsOf 9 = 1 := by kernel_rfl
  rw [e6] at h3
  obtain ⟨xs, hlen, hx⟩ := list_of (n := n) (Q := fun i (x : ByteArray) => ∀ b off, a = some ⟨b, off, none⟩ → w.cell? ⟨b, off + i, none⟩ = some (.string x)) (fun i hi => by
    obtain ⟨b, off, rfl, _, hat⟩ := h3 (by omega)
    obtain ⟨es, hl, hc, hm⟩ := hat i hi
    obtain ⟨m, rfl, wm⟩ := hm.string Try.underlying9
    refine ⟨m, fun b' off' e => ?_⟩
    injection e with e
    injection e with e1 e2
    subst e1 e2
    have := hc 0 (by omega)
    rw [Nat.mul_one, Nat.add_zero] at this
    exact this)
  subst hlen
  refine ⟨a, xs, cap, rfl, fun hne => ?_⟩
  obtain ⟨b, off, rfl, hb, _⟩ := h3 (List.length_pos_iff.2 hne)
  exact ⟨b, off, rfl, hb, fun i x hi => hx i x hi b off rfl⟩
set_option maxRecDepth 100000 in
theorem keys20_in {w : World} {cs : List Value} (h : Mem Try.prog w 22 cs) : ∃ (a : Option Addr) (ks : List Ky) (cap : Nat), cs = [.slice a ks.length cap] ∧ ks.length ≤ maxLen ∧ kK.V w a ks ∧ (∀ k ∈ ks, k.Ok) ∧ ∀ b off, a = some ⟨b, off, none⟩ → ks ≠ [] → b < w.heap.size := by
  obtain ⟨a, n, cap, rfl, h1, h2, h3⟩ := h.slice Try.underlying22 (of_decide_eq_true (by kernel_rfl))
  have e6 : Try.prog.cellsOf 35 = 4 := by kernel_rfl
  rw [e6] at h3
  obtain ⟨xs, hlen, hx⟩ := list_of (n := n) (Q := fun i (x : Ky) => x.Ok ∧ ∀ b off, a = some ⟨b, off, none⟩ → ∀ (j : Nat) (v : Value), x.enc[j]? = some v → w.cell? ⟨b, off + i * 4 + j, none⟩ = some v) (fun i hi => by
    obtain ⟨b, off, rfl, _, hat⟩ := h3 (by omega)
    obtain ⟨es, hl, hc, hm⟩ := hat i hi
    obtain ⟨x, hx, rfl⟩ := key_in hm
    refine ⟨x, hx, fun b' off' e j v hv => ?_⟩
    injection e with e
    injection e with e1 e2
    subst e1 e2
    have hj : j < 4 := (List.getElem?_eq_some_iff.1 hv).1
    rw [hc j hj]
    exact hv)
  subst hlen
  refine ⟨a, xs, cap, rfl, by omega, fun hne => ?_, fun x hxm => ?_, fun b off e hne => ?_⟩
  · obtain ⟨b, off, rfl, hb, _⟩ := h3 (List.length_pos_iff.2 hne)
    exact ⟨b, off, rfl, ⟨fun i x hi => (hx i x hi).2 b off rfl, hb⟩⟩
  · obtain ⟨i, hi⟩ := List.getElem?_of_mem hxm
    exact (hx i x hi).1
  · obtain ⟨b', off', e', hb, _⟩ := h3 (List.length_pos_iff.2 hne)
    rw [e] at e'
    injection e' with e'
    injection e' with e1
    rw [e1]; exact hb
end Go.Proofs.Ytonilojjahfboaa
