/- Records of the call's own that are resliced at the front and appended to. Conditions: each law's own premises. -/
import Derived.Test.YtcghgnncmnoalaaJnC
import Derived.ArgAppend
namespace Go.Proofs.Ytcghgnncmnoalaa
open Go.RowKit Go.Maps

/-- records in a block of the call's own, from some place on -/
def OffR (w : World) (B : Nat) (a : Option Addr) (n cap : Nat) (l : List Rv) : Prop :=
  n = l.length ∧ l.length ≤ cap ∧ cap ≤ maxLen ∧ (a = none → cap = 0) ∧ ∀ x, a = some x → ∃ g off cs, x = ⟨g, off, none⟩ ∧ B ≤ g ∧ w.heap[g]? = some (.cells cs 35 (0, 0)) ∧ off + cap * 2 ≤ cs.size ∧ ∀ j u, (kR.cells l)[j]? = some u → cs[off + j]? = some u
theorem OffR.nil (w : World) (B : Nat) : OffR w B none 0 0 [] := ⟨rfl, Nat.le_refl _, Nat.zero_le _, fun _ => rfl, fun x h => by cases h⟩
theorem OffR.chg {w w' : World} {B n cap : Nat} {a : Option Addr} {l : List Rv} {S : Nat → Prop} (h : OffR w B a n cap l) (hc : Chg w w' S) (hS : ∀ j cs, w.heap[j]? = some (.cells cs 35 (0, 0)) → B ≤ j → ¬ S j) : OffR w' B a n cap l := by
  obtain ⟨h1, h2, h3, h4, h5⟩ := h
  refine ⟨h1, h2, h3, h4, fun x hx => ?_⟩
  obtain ⟨g, off, cs, e, hB, hg, hs, hcc⟩ := h5 x hx
  exact ⟨g, off, cs, e, hB, (hc.block g (Array.getElem?_eq_some_iff.1 hg).1 (hS g cs hg hB)).trans hg, hs, hcc⟩
theorem OffR.below {w w' : World} {B n cap : Nat} {a : Option Addr} {l : List Rv} (h : OffR w B a n cap l) (hb : Below w.heap.size w w') : OffR w' B a n cap l :=
  h.chg (Chg.of_below hb (fun _ => False)) (fun _ _ _ _ e => e)
theorem OffR.of_own {w : World} {B : Nat} {v : Value} {l : List Rv} (h : kR.Own w B v l) : ∃ a cap, v = .slice a l.length cap ∧ OffR w B a l.length cap l := by
  have h0 := h
  rcases h.2 with ⟨e, hl⟩ | ⟨g, cap, cs, e, hB, hg, hn, hm, hs, ht⟩
  · have : l = [] := List.eq_nil_of_length_eq_zero (by simpa using hl)
    subst this
    exact ⟨none, 0, e, OffR.nil w B⟩
  · refine ⟨some ⟨g, 0, none⟩, cap, e, rfl, hn, hm, fun e => (by cases e), fun x hx => ?_⟩
    injection hx with hx
    subst hx
    refine ⟨g, 0, cs, rfl, hB, hg, by rw [hs]; show 0 + cap * 2 ≤ cap * 2; omega, fun j u hu => ?_⟩
    have hj : j < l.length * 2 := by
      have := (List.getElem?_eq_some_iff.1 hu).1
      rw [RowK.cells_len] at this
      exact this
    rw [Nat.zero_add, ← Array.getElem?_toList]
    have e2 := hu
    rw [← ht, List.getElem?_take_of_lt (show j < l.length * kR.size from hj)] at e2
    exact e2
/-- to read them -/
theorem OffR.at' {w : World} {B n cap : Nat} {a : Option Addr} {l : List Rv} (h : OffR w B a n cap l) (hl : l ≠ []) : ∃ g off, a = some ⟨g, off, none⟩ ∧ B ≤ g ∧ ∀ i x, l[i]? = some x → w.cell? ⟨g, off + i * 2, none⟩ = some (.int .u64 x.stamp) ∧ w.cell? ⟨g, off + i * 2 + 1, none⟩ = some (.slice x.a x.ws.length x.cap) := by
  obtain ⟨h1, h2, h3, h4, h5⟩ := h
  have hp : 0 < l.length := List.length_pos_iff.2 hl
  cases a with
  | none => have := h4 rfl; omega
  | some x =>
    obtain ⟨g, off, cs, rfl, hB, hg, hs, hcc⟩ := h5 x rfl
    refine ⟨g, off, rfl, hB, fun i x hx => ?_⟩
    have k0 := hcc _ _ (kR.cells_at hx (j := 0) rfl)
    have k1 := hcc _ _ (kR.cells_at hx (j := 1) rfl)
    refine ⟨?_, ?_⟩
    · rw [cell_of_blk hg]; simpa [kR] using k0
    · rw [cell_of_blk hg, Nat.add_assoc]; exact k1
/-- l[1:] -/
theorem OffR.tail {w : World} {B n cap : Nat} {a : Option Addr} {x : Rv} {l : List Rv} (h : OffR w B a n cap (x :: l)) : OffR w B (sfxR a cap 1) (n - 1) (cap - 1) l := by
  obtain ⟨h1, h2, h3, h4, h5⟩ := h
  simp only [List.length_cons] at h1 h2
  refine ⟨by omega, by omega, by omega, fun e => ?_, fun y hy => ?_⟩
  · unfold sfxR at e
    split at e
    · omega
    · cases a with
      | none => have := h4 rfl; omega
      | some a => cases e
  · unfold sfxR at hy
    cases a with
    | none => split at hy <;> cases hy
    | some a =>
      obtain ⟨g, off, cs, rfl, hB, hg, hs, hcc⟩ := h5 a rfl
      split at hy
      · rename_i h6
        injection hy with hy
        subst hy
        have : l = [] := List.eq_nil_of_length_eq_zero (by omega)
        subst this
        exact ⟨g, off, cs, rfl, hB, hg, by omega, fun j u hu => by simp [RowK.cells] at hu⟩
      · injection hy with hy
        subst hy
        refine ⟨g, off + 1 * 2, cs, rfl, hB, hg, by omega, fun j u hu => ?_⟩
        have := hcc (2 + j) u (by
          show (kR.enc x ++ kR.cells l)[2 + j]? = some u
          rw [List.getElem?_append_right (by rw [kR.len]; show 2 ≤ 2 + j; omega), kR.len]
          show (kR.cells l)[2 + j - 2]? = some u
          rw [Nat.add_sub_cancel_left]
          exact hu)
        rw [← this]
        congr 1
        omega
set_option maxRecDepth 100000 in
/-- append(l, x) -/
theorem run_appOff {w : World} {B n cap : Nat} {a : Option Addr} {l : List Rv} (ty : TypeId) (h : OffR w B a n cap l) (xb : Nat) (x : Rv) (hx : w.heap[xb]? = some (.cells #[.int .u64 x.stamp, .slice x.a x.ws.length x.cap] 35)) (hl : l.length ≤ 4000) (hB : B ≤ w.heap.size) :
    ∃ a' cap' w', (Builtin.append_ #[24, 24] ty #[.slice a n cap, .slice (some ⟨xb, 0, none⟩) 1 1]).run Try.prog w = .ok (.slice a' (n + 1) cap') w' ∧ OffR w' B a' (n + 1) cap' (l ++ [x]) ∧ Chg w w' (fun j => a.isSome ∧ (∃ cs, w.heap[j]? = some (.cells cs 35 (0, 0))) ∧ B ≤ j) := by
  have hsrc : ∀ u : World, u.heap[xb]? = some (.cells #[.int .u64 x.stamp, .slice x.a x.ws.length x.cap] 35) → Src Try.prog 2 24 (.slice (some ⟨xb, 0, none⟩) 1 1) 1 (kR.enc x) u := fun u hu => Src.ofSlice u Try.underlying24 ⟨xb, 0, none⟩ 1 1 _ (by rw [kR.len]; rfl) (fun j v hv => by
    rw [add_none, cell_of_blk hu, Nat.zero_add]
    have e : kR.enc x = (#[.int .u64 x.stamp, .slice x.a x.ws.length x.cap] : Array Value).toList := rfl
    rw [e, Array.getElem?_toList] at hv
    exact hv) (kR.one x)
  obtain ⟨i0, hi, hz0, hz1, hz2⟩ := info_parts kR.info
  have hz1 : i0.size = 2 := hz1
  obtain ⟨h1, h2, h3, h4, h5⟩ := h
  subst h1
  have ecl : kR.cells (l ++ [x]) = kR.cells l ++ kR.enc x := (RowK.cells_append kR l [x]).trans (congrArg (kR.cells l ++ ·) (List.append_nil _))
  have hll : (kR.cells l).length = l.length * 2 := RowK.cells_len kR l
  cases a with
  | none =>
    obtain rfl := h4 rfl
    have : l = [] := List.eq_nil_of_length_eq_zero (by omega)
    subst this
    obtain ⟨v', w', hr, ho, hg, hob⟩ := kR.run_app ty (RowK.Own.nil (k := kR) w B) (some ⟨xb, 0, none⟩) [x] 1 (fun _ => ⟨xb, 0, rfl, RowK.new_at (k := kR) (l := [x]) hx rfl⟩) (fun e => by cases e) (by simp) hB
    obtain ⟨a', cap', rfl, h⟩ := OffR.of_own ho
    exact ⟨a', cap', w', hr, h, (Chg.refl w _).grown hg (fun m hm => by cases hm)⟩
  | some a =>
    obtain ⟨g, off, cs, rfl, hBg, hg, hs, hcc⟩ := h5 a rfl
    have hs2 := hsrc w hx
    rw [← hz1] at hs2
    by_cases hroom : l.length + 1 ≤ cap
    · have hr := run_append_room_src (P := Try.prog) w 24 24 ty 35 i0 Try.underlying24 hi g off l.length cap _ 1 (kR.enc x) hs2 hroom (fun j hj => by
          rw [kR.len] at hj
          have hj2 : j < 2 := hj
          rw [cell_of_blk hg, hz1]
          show (cs[off + l.length * 2 + j]?).isSome = true
          rw [Array.getElem?_eq_getElem (by omega)]
          rfl) (fun j _ => frozen_of_blk hg _)
      rw [hz1] at hr
      obtain ⟨cs', e1, e2, e3, e4⟩ := setCells_blk g (kR.enc x) (off + l.length * 2) w cs 35 hg
      refine ⟨_, _, _, hr, ⟨by simp, by simpa using hroom, h3, fun e => (by cases e), fun y hy => ?_⟩, e4.mono (fun j _ hj => ⟨rfl, ⟨cs, by rw [hj]; exact hg⟩, by rw [hj]; exact hBg⟩)⟩
      injection hy with hy
      subst hy
      refine ⟨g, off, cs', rfl, hBg, e1, by rw [e3]; exact hs, fun j u hu => ?_⟩
      rw [ecl] at hu
      by_cases hj : j < (kR.cells l).length
      · rw [List.getElem?_append_left hj] at hu
        rw [e2 (off + j) (by omega)]
        exact hcc j u hu
      · rw [List.getElem?_append_right (by omega)] at hu
        obtain ⟨hj2, hju⟩ := List.getElem?_eq_some_iff.1 hu
        have hc := World.cell?_setCells_in g (kR.enc x) (off + l.length * 2) w (fun j hj => by
          rw [kR.len] at hj
          have hj2 : j < 2 := hj
          rw [cell_of_blk hg, Array.getElem?_eq_getElem (by omega)]
          rfl) (j - (kR.cells l).length) hj2
        rw [cell_of_blk e1, hju] at hc
        rw [← hc]
        congr 1
        omega
    · have hold := run_firstCells_some (P := Try.prog) w.drew i0.size l.length ⟨g, off, none⟩ l.length cap (kR.cells l) (by rw [hz1]; exact hll) (fun j v hv => by
        rw [add_none]
        show w.cell? ⟨g, off + j, none⟩ = some v
        rw [cell_of_blk hg]
        exact hcc j v hv)
      have hr := run_append_grow_src (P := Try.prog) w 24 24 ty 35 i0 _ Try.underlying24 hi hz0 (some ⟨g, off, none⟩) l.length cap (kR.cells l) hold (.slice (some ⟨xb, 0, none⟩) 1 1) 1 (kR.enc x) hs2 (by omega) (by omega) (growslice_fits (by omega) (by rw [hz2]; show (l.length + 1) * 32 ≤ _; omega))
      have hge := grownCap_ge w (l.length + 1) cap 35
      have hgm : grownCap w (l.length + 1) cap 35 ≤ maxLen := grownCap_le_maxLen w (l.length + 1) cap 35 (by unfold maxLen; omega)
      refine ⟨_, _, _, hr, ⟨by simp, by simpa using hge, hgm, fun e => (by cases e), fun y hy => ?_⟩, ?_⟩
      · injection hy with hy
        subst hy
        refine ⟨w.heap.size, 0, _, rfl, hB, heap_alloc_new w.drew _, ?_, fun j u hu => ?_⟩
        · simp only [Array.size_append, List.size_toArray, size_zeroCells, List.length_append, hll, kR.len]
          show 0 + grownCap w (l.length + 1) cap 35 * 2 ≤ l.length * 2 + 2 + (grownCap w (l.length + 1) cap 35 - (l.length + 1)) * 2
          omega
        · rw [ecl] at hu
          have hj := (List.getElem?_eq_some_iff.1 hu).1
          rw [Nat.zero_add, Array.getElem?_append_left (by simpa using hj)]
          simpa using hu
      · exact ((Chg.refl w _).drew).alloc _
end Go.Proofs.Ytcghgnncmnoalaa
