/- Ints of an argument in memory. Conditions: each lemma's own premises. -/
import Derived.Test.YtaanohgkdpohhaaMem
import Derived.Test.YtaanohgkdpohhaaWb0
import Derived.IntWalk
namespace Go.Proofs.Ytaanohgkdpohhaa
open Go.RowKit Go.Maps

theorem listOf {α : Type} {n : Nat} {Q : Nat → α → Prop} (h : ∀ i, i < n → ∃ x, Q i x) : ∃ xs : List α, xs.length = n ∧ ∀ (i : Nat) (x : α), xs[i]? = some x → Q i x := by
  refine ⟨List.ofFn (fun i : Fin n => (h i.1 i.2).choose), by simp, fun i p hp => ?_⟩
  rw [List.getElem?_ofFn] at hp
  split at hp
  · rename_i hi
    injection hp with hp
    subst hp
    exact (h i hi).choose_spec
  · cases hp
/-- ints in memory, one behind the other -/
structure ZsAt (w : World) (b off : Nat) (l : List Int) : Prop where
  cells : ∀ (i : Nat) (x : Int), l[i]? = some x → w.cell? ⟨b, off + i, none⟩ = some (.int .i64 x)
  lt : b < w.heap.size
def ZsV (w : World) (a : Option Addr) (l : List Int) : Prop := l ≠ [] → ∃ b off, a = some ⟨b, off, none⟩ ∧ ZsAt w b off l
theorem ZsAt.below {w w' : World} {b off : Nat} {l : List Int} (h : ZsAt w b off l) (hb : Below w.heap.size w w') : ZsAt w' b off l :=
  ⟨fun i x hx => (hb.cell (p := ⟨b, off + i, none⟩) h.lt).trans (h.cells i x hx), Nat.lt_of_lt_of_le h.lt hb.size⟩
theorem ZsV.below {w w' : World} {a : Option Addr} {l : List Int} (h : ZsV w a l) (hb : Below w.heap.size w w') : ZsV w' a l := fun hn => by
  obtain ⟨b, off, e, hat⟩ := h hn
  exact ⟨b, off, e, hat.below hb⟩
set_option maxRecDepth 100000 in
theorem zs_in {w : World} {cs : List Value} (h : Mem Try.prog w 22 cs) : ∃ (a : Option Addr) (l : List Int) (cap : Nat), cs = [.slice a l.length cap] ∧ l.length ≤ cap ∧ cap ≤ maxLen ∧ ZsV w a l ∧ ∀ x ∈ l, I64 x := by
  obtain ⟨a, n, cap, rfl, h1, h2, h3⟩ := h.slice Try.underlying22 (of_decide_eq_true (by kernel_rfl))
  have e6 : Try.prog.cellsOf 3 = 1 := by kernel_rfl
  rw [e6] at h3
  obtain ⟨xs, hlen, hx⟩ := listOf (n := n) (Q := fun i (x : Int) => I64 x ∧ ∀ b off, a = some ⟨b, off, none⟩ → w.cell? ⟨b, off + i, none⟩ = some (.int .i64 x)) (fun i hi => by
    obtain ⟨b, off, rfl, _, hat⟩ := h3 (by omega)
    obtain ⟨es, hl, hc, hm⟩ := hat i hi
    obtain ⟨m, rfl, wm⟩ := hm.int Try.underlying3
    refine ⟨m, I64.of_wf wm, fun b' off' e => ?_⟩
    injection e with e
    injection e with e1 e2
    subst e1 e2
    have := hc 0 (by omega)
    rw [Nat.mul_one, Nat.add_zero] at this
    exact this)
  subst hlen
  refine ⟨a, xs, cap, rfl, h1, h2, fun hne => ?_, fun x hxm => ?_⟩
  · obtain ⟨b, off, rfl, hb, _⟩ := h3 (List.length_pos_iff.2 hne)
    exact ⟨b, off, rfl, fun i x hi => (hx i x hi).2 b off rfl, hb⟩
  · obtain ⟨i, hi⟩ := List.getElem?_of_mem hxm
    exact (hx i x hi).1
/-- ((r % c) + c) % c -/
theorem mod_n (r : Int) (c : Nat) (hc : 0 < c) (hc2 : c ≤ 1000000) : ∃ n : Nat, (wrap64 (r.tmod c + c)).tmod c = (n : Int) ∧ n < c := by
  have h1 := Int.lt_tmod_of_pos r (show (0 : Int) < (c : Int) by omega)
  have h2 := Int.tmod_lt_of_pos r (show (0 : Int) < (c : Int) by omega)
  rw [IntWalk.wrap64_in _ (by omega)]
  have h3 := Int.tmod_nonneg (c : Int) (show 0 ≤ r.tmod c + c by omega)
  have h4 := Int.tmod_lt_of_pos (r.tmod c + c) (show (0 : Int) < (c : Int) by omega)
  exact ⟨((r.tmod c + c).tmod c).toNat, by omega, by omega⟩
end Go.Proofs.Ytaanohgkdpohhaa
