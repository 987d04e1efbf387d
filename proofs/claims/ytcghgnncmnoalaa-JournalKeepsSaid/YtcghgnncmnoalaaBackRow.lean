/- RedoBack, of any arguments. Conditions: none. -/
import Derived.Test.YtcghgnncmnoalaaBackLaw
namespace Go.Proofs.Ytcghgnncmnoalaa
open Go.RowKit Go.Maps

set_option maxRecDepth 100000 in
theorem records_in {w : World} {cs : List Value} (h : Mem Try.prog w 24 cs) : ∃ (a : Option Addr) (l : List Rv) (cap : Nat), cs = [.slice a l.length cap] ∧ l.length ≤ cap ∧ cap ≤ maxLen ∧ RsM w a l := by
  obtain ⟨a, n, cap, rfl, h1, h2, h3⟩ := h.slice Try.underlying24 (of_decide_eq_true (by kernel_rfl))
  have e6 : Try.prog.cellsOf 35 = 2 := by kernel_rfl
  rw [e6] at h3
  obtain ⟨xs, hlen, hx⟩ := list_of (n := n) (Q := fun i (x : Rv) => (x.stamp < 18446744073709551616 ∧ WsV w x.a x.ws ∧ x.ws.length ≤ maxLen) ∧ ∀ b off, a = some ⟨b, off, none⟩ → w.cell? ⟨b, off + i * 2, none⟩ = some (.int .u64 x.stamp) ∧ w.cell? ⟨b, off + i * 2 + 1, none⟩ = some (.slice x.a x.ws.length x.cap)) (fun i hi => by
    obtain ⟨b, off, rfl, _, hat⟩ := h3 (by omega)
    obtain ⟨es, hl, hc, hm⟩ := hat i hi
    obtain ⟨st, ra, ws, rc, rfl, g1, g2, g3⟩ := record_in hm
    refine ⟨⟨st, ra, rc, ws⟩, ⟨g1, g3, g2⟩, fun b' off' e => ?_⟩
    injection e with e
    injection e with e1 e2
    subst e1 e2
    exact ⟨hc 0 (by omega), hc 1 (by omega)⟩)
  subst hlen
  refine ⟨a, xs, cap, rfl, h1, h2, fun hne => ?_⟩
  obtain ⟨b, off, rfl, hb, _⟩ := h3 (List.length_pos_iff.2 hne)
  exact ⟨b, off, rfl, hb, fun i x hi => ⟨(hx i x hi).1, (hx i x hi).2 b off rfl⟩⟩
set_option maxRecDepth 100000 in
theorem ints_in {w : World} {cs : List Value} (h : Mem Try.prog w 30 cs) : ∃ (a : Option Addr) (l : List Int) (cap : Nat), cs = [.slice a l.length cap] ∧ l.length ≤ cap ∧ cap ≤ maxLen ∧ IsV w a l ∧ ∀ x ∈ l, I64 x := by
  obtain ⟨a, n, cap, rfl, h1, h2, h3⟩ := h.slice Try.underlying30 (of_decide_eq_true (by kernel_rfl))
  have e6 : Try.prog.cellsOf 3 = 1 := by kernel_rfl
  rw [e6] at h3
  obtain ⟨xs, hlen, hx⟩ := list_of (n := n) (Q := fun i (x : Int) => I64 x ∧ ∀ b off, a = some ⟨b, off, none⟩ → w.cell? ⟨b, off + i, none⟩ = some (.int .i64 x)) (fun i hi => by
    obtain ⟨b, off, rfl, _, hat⟩ := h3 (by omega)
    obtain ⟨es, hl, hc, hm⟩ := hat i hi
    obtain ⟨m, rfl, wm⟩ := hm.int Try.underlying3
    refine ⟨m, I64.of_wf wm, fun b' off' e => ?_⟩
    injection e with e
    injection e with e1 e2
    subst e1 e2
    have := hc 0 (by omega)
    rw [Nat.mul_one, Nat.add_zero] at this
    exact this)
  subst hlen
  refine ⟨a, xs, cap, rfl, h1, h2, fun hne => ?_, fun x hxm => ?_⟩
  · obtain ⟨b, off, rfl, hb, _⟩ := h3 (List.length_pos_iff.2 hne)
    exact ⟨b, off, rfl, hb, fun i x hi => (hx i x hi).2 b off rfl⟩
  · obtain ⟨i, hi⟩ := List.getElem?_of_mem hxm
    exact (hx i x hi).1
end Go.Proofs.Ytcghgnncmnoalaa
