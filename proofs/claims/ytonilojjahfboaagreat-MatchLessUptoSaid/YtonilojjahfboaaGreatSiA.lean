/- Stable sort of numbers by any closure, 1: swapRangeCmpFunc, rotateCmpFunc, insertionSortCmpFunc, symMergeCmpFunc where a part is one. Conditions: each contract's own premises. (Printed by gen_si.py out of the sort of records.) Stable sort of numbers by any closure, 2: insertion, and merging where a part is one. Conditions: each contract's own premises. (Printed by gen_si.py out of the sort of records.) Stable sort of numbers by any closure, 3: merging. Conditions: each contract's own premises. (Printed by gen_si.py out of the sort of records.) Stable sort of numbers by any closure, 4: whole. Conditions: each contract's own premises. (Printed by gen_si.py out of the sort of records.) -/
import Derived.BigRegion
import Derived.Deep.RegionHeld3
import Derived.Shelf.Abstract
import Derived.Deep.Cut
import Derived.Test.YtonilojjahfboaaGreatGrA
import Derived.Test.YtonilojjahfboaaGreatRnA
import Derived.Test.YtonilojjahfboaaGreatSrtP
namespace Go.Proofs.YtonilojjahfboaaGreat
open Go.RowKit Go.Maps


/-- n numbers of a list, in the order s, in block b from off on -/
def IAt (w : World) (b off n : Nat) (L : List Int) (s : Nat → Nat) : Prop :=
  (∀ i, i < n → s i < n) ∧ ∃ cs, w.heap[b]? = some (.cells cs 3 (0, 0)) ∧ ∀ i, i < n → cs[off + i]? = some (.int .i64 L[s i]!)
theorem IAt.dom {w : World} {b off n : Nat} {L : List Int} {s : Nat → Nat} (h : IAt w b off n L s) {i : Nat} (hi : i < n) : s i < n := h.1 i hi
theorem IAt.cell0 {w : World} {b off n : Nat} {L : List Int} {s : Nat → Nat} (h : IAt w b off n L s) {i : Nat} (hi : i < n) : w.cell? ⟨b, off + i, none⟩ = some (.int .i64 L[s i]!) := by
  obtain ⟨_, cs, hb, hc⟩ := h
  rw [cell_of_blk hb]; exact hc i hi
theorem IAt.frozen {w : World} {b off n : Nat} {L : List Int} {s : Nat → Nat} (h : IAt w b off n L s) (i : Nat) : w.frozen? ⟨b, i, none⟩ = false := by
  obtain ⟨_, cs, hb, _⟩ := h
  exact frozen_of_blk hb i
theorem IAt.lt {w : World} {b off n : Nat} {L : List Int} {s : Nat → Nat} (h : IAt w b off n L s) : b < w.heap.size := by
  obtain ⟨_, cs, hb, _⟩ := h
  exact (Array.getElem?_eq_some_iff.1 hb).1
theorem IAt.of_block {w w' : World} {b off n : Nat} {L : List Int} {s : Nat → Nat} (h : IAt w b off n L s) (hb : w'.heap[b]? = w.heap[b]?) : IAt w' b off n L s := by
  obtain ⟨h0, cs, h1, h2⟩ := h
  exact ⟨h0, cs, hb.trans h1, h2⟩
theorem IAt.congr {w : World} {b off n : Nat} {L : List Int} {s t : Nat → Nat} (h : IAt w b off n L s) (e : ∀ i, i < n → t i = s i) : IAt w b off n L t := by
  obtain ⟨h0, cs, h1, h2⟩ := h
  exact ⟨fun i hi => by rw [e i hi]; exact h0 i hi, cs, h1, fun i hi => by rw [e i hi]; exact h2 i hi⟩
/-- two numbers change places -/
theorem IAt.swap {w : World} {b off n : Nat} {L : List Int} {s : Nat → Nat} (h : IAt w b off n L s) {x y : Nat} (hx : x < n) (hy : y < n) (hxy : x ≠ y) :
    IAt ((w.setCell ⟨b, off + x, none⟩ (.int .i64 L[s y]!)).setCell ⟨b, off + y, none⟩ (.int .i64 L[s x]!)) b off n L (Srt.swap2 s x y) := by
  obtain ⟨h0, cs, h1, h2⟩ := h
  have hz : ∀ i, i < n → off + i < cs.size := fun i hi => (Array.getElem?_eq_some_iff.1 (h2 i hi)).1
  have zx := hz x hx
  have zy := hz y hy
  refine ⟨fun i hi => ?_, _, blk_setCell (blk_setCell h1 _) _, fun i hi => ?_⟩
  · by_cases e1 : i = x
    · subst e1; rw [Srt.swap2_x]; exact h0 y hy
    · by_cases e2 : i = y
      · subst e2; rw [Srt.swap2_y]; exact h0 x hx
      · rw [Srt.swap2_o _ _ _ e1 e2]; exact h0 i hi
  have zi := hz i hi
  simp only [Array.getElem?_setIfInBounds, Array.size_setIfInBounds]
  by_cases e1 : i = x
  · subst e1
    rw [Srt.swap2_x]
    simp only [show ¬ off + y = off + i by omega, if_false, if_true, zi]
  · by_cases e2 : i = y
    · subst e2
      rw [Srt.swap2_y]
      simp only [if_true, zi]
    · rw [Srt.swap2_o _ _ _ e1 e2]
      simp only [show ¬ off + y = off + i by omega, show ¬ off + x = off + i by omega, if_false]
      exact h2 i hi
/-- two change places, as a region leaves it -/
theorem swapI_rel {w0 w : World} {b off n : Nat} {L : List Int} {s t : Nat → Nat} (h : IAt w b off n L s) (hc : Chg w0 w (fun k => k = b)) {x y : Nat} (hx : x < n) (hy : y < n) (hxy : x ≠ y) (ht : Srt.swap2 s x y = t) :
    IAt ((w.setCell ⟨b, off + x, none⟩ (.int .i64 L[s y]!)).setCell ⟨b, off + y, none⟩ (.int .i64 L[s x]!)).drew b off n L t ∧
    Chg w0 ((w.setCell ⟨b, off + x, none⟩ (.int .i64 L[s y]!)).setCell ⟨b, off + y, none⟩ (.int .i64 L[s x]!)).drew (fun k => k = b) := by
  subst ht
  exact ⟨(h.swap hx hy hxy).of_block rfl, ((hc.setCell (p := ⟨b, off + x, none⟩) (fun _ => rfl) _).setCell (p := ⟨b, off + y, none⟩) (fun _ => rfl) _).drew⟩
/-- what a function leaves that turns the row alone -/
def SriPost (w : World) (b off n : Nat) (L : List Int) (t : Nat → Nat) (e : Ending) (w' : World) : Prop := e = .returned (.tuple #[]) ∧ IAt w' b off n L t ∧ Chg w w' (fun k => k = b)
set_option maxRecDepth 100000 in
set_option maxHeartbeats 2000000 in
theorem swaI_any (b off cap n : Nat) (L : List Int) (s : Nat → Nat) (x y c : Nat) (g : Value) (w : World) (h : IAt w b off n L s) (hxy : x + c ≤ y) (hy : y + c ≤ n) (hn : n ≤ 1000000) :
    Calls Tryz.prog 399 #[.slice (some ⟨b, off, none⟩) n cap, .int .i64 x, .int .i64 y, .int .i64 c, g] w (SriPost w b off n L (fun k => s (Srt.swI x y c k))) := by
  have HS0 := Lib.hid h
  clear h
  go_enter Tryz.func399, Tryz.ntmps399
  go_wp2_with fail
  go_loopw [10] (fun i wr => ∃ k : Nat, k ≤ c ∧ i = .int .i64 k ∧ Hid (IAt wr b off n L (fun z => s (Srt.swI x y k z)) ∧ Chg w wr (fun k => k = b))) (fun i _ => c - (intOf i).toNat)
  case atStart => exact ⟨0, by omega, rfl, Lib.hid ⟨HS0.out.congr (fun i _ => by rw [Srt.swI_zero]), Chg.refl _ _⟩⟩
  case round =>
    obtain ⟨k, hk, rfl, HR⟩ := hrel
    by_cases hlt : k < c
    · obtain ⟨p, hp⟩ : ∃ p, p = x + k := ⟨_, rfl⟩
      obtain ⟨q, hq⟩ : ∃ q, q = y + k := ⟨_, rfl⟩
      have hpn : p < n := by omega
      have hqn : q < n := by omega
      have hpq : p ≠ q := by omega
      obtain ⟨A, hA⟩ : ∃ A, A = L[s (Srt.swI x y k p)]! := ⟨_, rfl⟩
      obtain ⟨B, hB⟩ : ∃ B, B = L[s (Srt.swI x y k q)]! := ⟨_, rfl⟩
      have a0 := HR.out.1.cell0 hpn
      have b0 := HR.out.1.cell0 hqn
      have f0 := HR.out.1.frozen (off + p)
      have f2 := HR.out.1.frozen (off + q)
      rw [← hA] at a0
      rw [← hB] at b0
      have w1 : IntKind.i64.wrap ((x : Int) + (k : Int)) = (p : Int) := by rw [IntKind.wrap_i64]; omega
      have w2 : IntKind.i64.wrap ((y : Int) + (k : Int)) = (q : Int) := by rw [IntKind.wrap_i64]; omega
      have hpz : (p : Int) < (n : Int) := by omega
      have hqz : (q : Int) < (n : Int) := by omega
      have HH := Lib.hid (And.intro hp (And.intro hq (And.intro hA hB)))
      clear hp hq hA hB HS0
      go_wp2_with fail
      go_big_region
      all_goals (
        go_wp2_with fail
        obtain ⟨hp, hq, hA, hB⟩ := HH.out
        refine ⟨⟨k + 1, by omega, by go_num, Lib.hid ?_⟩, by simp [intOf]; omega⟩
        rw [hA, hB]
        refine swapI_rel HR.out.1 HR.out.2 hpn hqn hpq ?_
        rw [hp, hq]
        exact Srt.swI_succ s x y k (by omega))
    · obtain rfl : k = c := by omega
      go_wp2_with fail
      go_end0
      exact ⟨rfl, HR.out.1, HR.out.2⟩

set_option maxRecDepth 100000 in
set_option maxHeartbeats 2000000 in
theorem rotI_any (b off cap n : Nat) (L : List Int) (s : Nat → Nat) (a m c : Nat) (g : Value) (w : World) (h : IAt w b off n L s) (ham : a < m) (hmc : m < c) (hc : c ≤ n) (hn : n ≤ 1000000) :
    Calls Tryz.prog 369 #[.slice (some ⟨b, off, none⟩) n cap, .int .i64 a, .int .i64 m, .int .i64 c, g] w (SriPost w b off n L (fun k => s (Srt.rotI a m c k))) := by
  have HS0 := Lib.hid h
  obtain ⟨i0, hi0⟩ : ∃ i0, m = a + i0 := ⟨m - a, by omega⟩
  obtain ⟨j0, hj0⟩ : ∃ j0, c = m + j0 := ⟨c - m, by omega⟩
  have e1 : IntKind.i64.wrap ((m : Int) - (a : Int)) = (i0 : Int) := by rw [IntKind.wrap_i64]; omega
  have e2 : IntKind.i64.wrap ((c : Int) - (m : Int)) = (j0 : Int) := by rw [IntKind.wrap_i64]; omega
  have E1 := Lib.hid (show (m : Int) - (a : Int) = (i0 : Int) by omega)
  have E2 := Lib.hid (show (c : Int) - (m : Int) = (j0 : Int) by omega)
  have HI := Lib.hid (And.intro hi0 hj0)
  clear h hi0 hj0
  go_enter Tryz.func369, Tryz.ntmps369
  go_wp2_with fail
  go_loopw [10, 11] (fun i j wr => ∃ p q : Nat, 0 < p ∧ 0 < q ∧ p ≤ m ∧ m + q ≤ n ∧ i = .int .i64 p ∧ j = .int .i64 q ∧ Hid (∃ t, IAt wr b off n L t ∧ Chg w wr (fun k => k = b) ∧ ∀ k, t (Srt.rotI (m - p) m (m + q) k) = s (Srt.rotI a m c k))) (fun i j _ => (intOf i).toNat + (intOf j).toNat)
  case atStart =>
    obtain ⟨h1, h2⟩ := HI.out
    exact ⟨i0, j0, by omega, by omega, by omega, by omega, by first | rfl | rw [E1.out], by first | rfl | rw [E2.out], Lib.hid ⟨s, HS0.out, Chg.refl _ _, fun k => by rw [show m - i0 = a by omega, h2]⟩⟩
  case round =>
    obtain ⟨p, q, hp0, hq0, hpm, hqn, rfl, rfl, HR⟩ := hrel
    obtain ⟨t, hR⟩ := HR.out
    have HT := Lib.hid hR
    clear hR HR e1 e2
    by_cases hpq : p = q
    · subst hpq
      have t1 : ((p : Int) != (p : Int)) = false := by simp
      obtain ⟨z, hz⟩ : ∃ z, z = m - p := ⟨_, rfl⟩
      have w1 : IntKind.i64.wrap ((m : Int) - (p : Int)) = (z : Int) := by rw [IntKind.wrap_i64]; omega
      have w2 : (m : Int) - (p : Int) = (z : Int) := by omega
      have HZ := Lib.hid hz
      clear hz
      go_wp2_with fail
      try rw [w2]
      refine (swaI_any b off cap n L t z m p g _ HT.out.1 (by have := HZ.out; omega) (by omega) hn).mono ?_
      rintro e w1' ⟨rfl, h1, h2⟩
      have HF := Lib.hid (And.intro h1 h2)
      clear h1 h2
      go_wp2_with fail
      go_end0
      refine ⟨rfl, HF.out.1.congr fun k _ => ?_, HT.out.2.1.trans HF.out.2 (fun _ _ h => h)⟩
      rw [HZ.out, Srt.rot_last p m k hpm, HT.out.2.2 k]
    · have t1 : ((p : Int) != (q : Int)) = true := by simp; omega
      by_cases hlt : q < p
      · have t2 : decide ((q : Int) < (p : Int)) = true := by simp; omega
        obtain ⟨z, hz⟩ : ∃ z, z = m - p := ⟨_, rfl⟩
        obtain ⟨r, hr⟩ : ∃ r, r = p - q := ⟨_, rfl⟩
        have w2 : (m : Int) - (p : Int) = (z : Int) := by omega
        have w3 : (p : Int) - (q : Int) = (r : Int) := by omega
        have HZ := Lib.hid hz
        have HRR := Lib.hid hr
        clear hz hr
        go_wp2_with fail
        try rw [w2]
        refine (swaI_any b off cap n L t z m q g _ HT.out.1 (by have := HZ.out; omega) (by omega) hn).mono ?_
        rintro e w1' ⟨rfl, h1, h2⟩
        have HF := Lib.hid (And.intro h1 h2)
        clear h1 h2
        go_wp2_with fail
        have hz := HZ.out
        have hr := HRR.out
        refine ⟨⟨r, q, by omega, hq0, by omega, hqn, by first | rfl | rw [w3], rfl, Lib.hid ⟨_, HF.out.1, HT.out.2.1.trans HF.out.2 (fun _ _ h => h), fun k => ?_⟩⟩, by simp [intOf]; omega⟩
        rw [hz, hr, Srt.rot_more p q m k hpm hlt, HT.out.2.2 k]
      · have t2 : decide ((q : Int) < (p : Int)) = false := by simp; omega
        obtain ⟨z, hz⟩ : ∃ z, z = m - p := ⟨_, rfl⟩
        obtain ⟨y, hy⟩ : ∃ y, y = m + q - p := ⟨_, rfl⟩
        obtain ⟨r, hr⟩ : ∃ r, r = q - p := ⟨_, rfl⟩
        have w2 : (m : Int) - (p : Int) = (z : Int) := by omega
        have w4 : (m : Int) + (q : Int) - (p : Int) = (y : Int) := by omega
        have w3 : (q : Int) - (p : Int) = (r : Int) := by omega
        have HZ := Lib.hid (And.intro hz hy)
        have HRR := Lib.hid hr
        clear hz hr hy
        go_wp2_with fail
        try rw [w2, w4]
        refine (swaI_any b off cap n L t z y p g _ HT.out.1 (by have := HZ.out; omega) (by have := HZ.out; omega) hn).mono ?_
        rintro e w1' ⟨rfl, h1, h2⟩
        have HF := Lib.hid (And.intro h1 h2)
        clear h1 h2
        go_wp2_with fail
        have hz := HZ.out
        have hr := HRR.out
        refine ⟨⟨p, r, hp0, by omega, hpm, by omega, rfl, by first | rfl | rw [w3], Lib.hid ⟨_, HF.out.1, HT.out.2.1.trans HF.out.2 (fun _ _ h => h), fun k => ?_⟩⟩, by simp [intOf]; omega⟩
        rw [hz.1, hz.2, hr, Srt.rot_less p q m k hpm (by omega), HT.out.2.2 k]
end Go.Proofs.YtonilojjahfboaaGreat
namespace Go.Proofs.YtonilojjahfboaaGreat
open Go.RowKit Go.Maps

/-- how two are compared: only whether the first is lower is asked -/
def CmpPostI (w : World) (q : Bool) (e : Ending) (w' : World) : Prop := ∃ c : Int, e = .returned (.int .i64 c) ∧ decide (c < 0) = q ∧ Below w.heap.size w w'
/-- a closure that compares the numbers of a list by their keys, whatever has been turned in block b -/
def CmpOk (g : Nat) (cb : Array Value) (b n : Nat) (L : List Int) (key : Nat → Nat) (w : World) : Prop :=
  ∀ u, Chg w u (fun k => k = b) → ∀ i j, i < n → j < n → Calls Tryz.prog g (#[.int .i64 L[i]!, .int .i64 L[j]!] ++ cb) u (CmpPostI u (decide (key i < key j)))
theorem CmpOk.chg {g : Nat} {cb : Array Value} {b n : Nat} {L : List Int} {key : Nat → Nat} {w w' : World} (h : CmpOk g cb b n L key w) (hc : Chg w w' (fun k => k = b)) : CmpOk g cb b n L key w' :=
  fun u hu => h u (hc.trans hu (fun _ _ h => h))
theorem CmpOk.at' {g : Nat} {cb : Array Value} {b n : Nat} {L : List Int} {key : Nat → Nat} {w wr u : World} (h : CmpOk g cb b n L key w) (hc : Chg w wr (fun k => k = b)) (hu : Below wr.heap.size wr u) {i j : Nat} (hi : i < n) (hj : j < n) :
    Calls Tryz.prog g (#[.int .i64 L[i]!, .int .i64 L[j]!] ++ cb) u (CmpPostI u (decide (key i < key j))) :=
  h u (hc.trans (Chg.of_below hu _) (fun _ _ h => h)) i j hi hj
theorem IAt.below {w w' : World} {b off n : Nat} {L : List Int} {s : Nat → Nat} (h : IAt w b off n L s) (hb : Below w.heap.size w w') : IAt w' b off n L s := h.of_block (hb.block b h.lt)
/-- what a function leaves that sorts a part of the row -/
def SriPostX (key : Nat → Nat) (w : World) (b off n : Nat) (L : List Int) (s : Nat → Nat) (a c : Nat) (e : Ending) (w' : World) : Prop :=
  e = .returned (.tuple #[]) ∧ ∃ t, IAt w' b off n L t ∧ Chg w w' (fun k => k = b) ∧ Srt.Into t s a c ∧ Srt.Srt key t a c
set_option maxRecDepth 100000 in
set_option maxHeartbeats 4000000 in
theorem insCI_any (g : Nat) (cb : Array Value) (key : Nat → Nat) (eg : ∀ args w, (callFunc g args).run Tryz.prog w = .ok (.enter g args) w) (b off cap n : Nat) (L : List Int) (s : Nat → Nat) (a c : Nat) (w : World) (h : IAt w b off n L s) (hcm : CmpOk g cb b n L key w) (hac : a ≤ c) (hc : c ≤ n) (hn : n ≤ 1000000) (hs : ∀ p q, a ≤ p → p < q → q < c → s p < s q) :
    Calls Tryz.prog 320 #[.slice (some ⟨b, off, none⟩) n cap, .int .i64 a, .int .i64 c, .func (.func g) #[] cb] w (SriPostX key w b off n L s a c) := by
  have HCM := Lib.hid hcm
  have HS0 := Lib.hid h
  have HS := Lib.hid hs
  clear hcm
  clear h hs
  go_enter Tryz.func320, Tryz.ntmps320
  go_wp2_with fail
  go_loopw [8] (fun i wr => ∃ k : Nat, a + 1 ≤ k ∧ (k ≤ c ∨ k ≤ a + 1) ∧ i = .int .i64 k ∧ Hid (∃ t, IAt wr b off n L t ∧ Chg w wr (fun k => k = b) ∧ Srt.InsO key t s a k ∧ (k ≤ a + 1 → t = s))) (fun i _ => c - (intOf i).toNat)
  case atStart => exact ⟨a + 1, by omega, by omega, by go_num, Lib.hid ⟨s, HS0.out, Chg.refl _ _, Srt.InsO.start s a, fun _ => rfl⟩⟩
  case round =>
    obtain ⟨k, hk, hkc, rfl, HR⟩ := hrel
    by_cases hlt : k < c
    · obtain ⟨wo, rfl⟩ : ∃ wo : World, wo = wr := ⟨_, rfl⟩
      have HI : Hid (∃ t, IAt wo b off n L t ∧ Chg w wo (fun k => k = b) ∧ Srt.InsI key t s a k k) := Lib.hid (by
        obtain ⟨t, h1, h2, h3, h4⟩ := HR.out
        exact ⟨t, h1, h2, h3.first (by omega) hlt HS.out⟩)
      clear HR HS0
      go_wp2_with fail
      go_loopw [9] (fun i wr => ∃ j : Nat, a ≤ j ∧ j ≤ k ∧ i = .int .i64 j ∧ Hid (∃ t, IAt wr b off n L t ∧ Chg w wr (fun k => k = b) ∧ Srt.InsI key t s a k j)) (fun i _ => (intOf i).toNat)
      case atStart => exact ⟨k, by omega, Nat.le_refl _, rfl, HI⟩
      case round =>
        obtain ⟨j, hj, hjk, rfl, HR⟩ := hrel
        by_cases hja : a < j
        · obtain ⟨p, hp⟩ : ∃ p, p + 1 = j := ⟨j - 1, by omega⟩
          obtain ⟨t, hT⟩ := HR.out
          have HT := Lib.hid hT
          clear hT HR HI
          have hp1 : j < n := by omega
          have hp0 : p < n := by omega
          obtain ⟨q, hq⟩ : ∃ q, decide (key (t j) < key (t p)) = q := ⟨_, rfl⟩
          have hk := fun (u : World) (hu : Below wr.heap.size wr u) => HCM.out.at' HT.out.2.1 hu (HT.out.1.dom hp1) (HT.out.1.dom hp0)
          obtain ⟨A, hA⟩ : ∃ A, A = L[t j]! := ⟨_, rfl⟩
          obtain ⟨B, hB⟩ : ∃ B, B = L[t p]! := ⟨_, rfl⟩
          rw [hq, ← hA, ← hB] at hk
          have HK := Lib.hid hk
          clear hk
          have hks : ∀ w', Below wr.heap.size wr w' → Below wr.heap.size wr w' ∧ w'.cell? ⟨b, off + j, none⟩ = some (.int .i64 A) ∧ w'.cell? ⟨b, off + p, none⟩ = some (.int .i64 B) := fun w' hb => by
            have h' := HT.out.1.below hb
            rw [hA, hB]
            exact ⟨hb, h'.cell0 hp1, h'.cell0 hp0⟩
          have KS := Lib.hid hks
          have w1 : IntKind.i64.wrap ((j : Int) - 1) = (p : Int) := by rw [IntKind.wrap_i64]; omega
          have t1 : decide ((a : Int) < (j : Int)) = true := decide_eq_true (by omega)
          have z1 : (j : Int) < (n : Int) := by omega
          have z0 : (p : Int) < (n : Int) := by omega
          have HAB := Lib.hid (And.intro hA hB)
          have HQ := Lib.hid hq
          have HP := Lib.hid hp
          clear hks hA hB hq hp
          go_wp2_with fail
          go_region_held3 (fun w' => Below wr.heap.size wr w' ∧ w'.cell? ⟨b, off + j, none⟩ = some (.int .i64 A) ∧ w'.cell? ⟨b, off + p, none⟩ = some (.int .i64 B))
            (first | exact KS.out _ (Below.refl _ _).drew | (go_split_ands; refine KS.out _ (below_then ?_ hbc); assumption))
            ((go_at_fn g; refine (HK.out _ (by go_split_ands; assumption)).mono ?_; rintro e wc ⟨cc, rfl, hcc, hbc⟩))
          go_split_ands
          have hbz : Below wr.heap.size wr wc := by assumption
          have hS : IAt wc b off n L t := HT.out.1.below hbz
          have hC : Chg w wc (fun k => k = b) := HT.out.2.1.trans (Chg.of_below hbz (fun k => k = b)) (fun _ _ h => h)
          have f0 := hS.frozen (off + j)
          have f2 := hS.frozen (off + p)
          have HSC := Lib.hid (And.intro hS hC)
          clear hS hC hbz
          cases q
          · go_wp2_with fail
            have hd := HT.out.2.2.done (Or.inr (by
              have h1 := HQ.out
              rw [show j - 1 = p by have := HP.out; omega]
              exact of_decide_eq_false h1))
            exact ⟨⟨k + 1, by omega, by omega, by go_num, Lib.hid ⟨t, HSC.out.1, HSC.out.2, hd, fun h => absurd h (by omega)⟩⟩, by simp [intOf]; omega⟩
          · have hjp : j ≠ p := by have := HP.out; omega
            go_wp2_with fail
            go_big_region
            all_goals (
              go_wp2_with fail
              obtain ⟨hA, hB⟩ := HAB.out
              have hp := HP.out
              refine ⟨⟨p, by omega, by omega, rfl, Lib.hid ⟨Srt.swap2 t j p, ?_⟩⟩, by simp [intOf]; omega⟩
              have hd := HT.out.2.2
              have h1 := HQ.out
              rw [hA, hB]
              have hr := swapI_rel HSC.out.1 HSC.out.2 hp1 hp0 (show j ≠ p by omega) rfl
              subst hp
              exact ⟨hr.1, hr.2, hd.step (by omega) (of_decide_eq_true h1)⟩)
        · obtain rfl : j = a := by omega
          have t1 : decide ((j : Int) < (j : Int)) = false := decide_eq_false (by omega)
          obtain ⟨t, hT⟩ := HR.out
          have HT := Lib.hid hT
          clear hT HR HI
          go_wp2_with fail
          go_big_region
          all_goals (
            go_wp2_with fail
            exact ⟨⟨k + 1, by omega, by omega, by go_num, Lib.hid ⟨t, HT.out.1.of_block rfl, HT.out.2.1.drew, HT.out.2.2.done (Or.inl rfl), fun h => absurd h (by omega)⟩⟩, by simp [intOf]; omega⟩)
    · go_wp2_with fail
      go_end0
      obtain ⟨t, h1, h2, h3, h4⟩ := HR.out
      have h5 := h3.done hac (by omega) (by omega) h4
      exact ⟨rfl, t, h1, h2, h5.1, h5.2⟩

set_option maxRecDepth 100000 in
set_option maxHeartbeats 4000000 in
/-- the left part is one record -/
theorem symI_first (g : Nat) (cb : Array Value) (key : Nat → Nat) (eg : ∀ args w, (callFunc g args).run Tryz.prog w = .ok (.enter g args) w) (b off cap n : Nat) (L : List Int) (s : Nat → Nat) (a c : Nat) (w : World) (h : IAt w b off n L s) (hcm : CmpOk g cb b n L key w) (hc : c ≤ n) (hn : n ≤ 1000000) (P : Srt.Pre key s a (a + 1) c) :
    Calls Tryz.prog 321 #[.slice (some ⟨b, off, none⟩) n cap, .int .i64 a, .int .i64 ((a + 1 : Nat) : Int), .int .i64 c, .func (.func g) #[] cb] w (SriPostX key w b off n L s a c) := by
  have hac := P.mb
  have HCM := Lib.hid hcm
  have HS0 := Lib.hid h
  have HP := Lib.hid P
  obtain ⟨m, hm⟩ : ∃ m, m = a + 1 := ⟨_, rfl⟩
  rw [← hm] at hac ⊢
  have e1 : IntKind.i64.wrap ((m : Int) - (a : Int)) = 1 := by rw [IntKind.wrap_i64]; omega
  have e2 : (m : Int) - (a : Int) = 1 := by omega
  have HM := Lib.hid hm
  have ham : a < m := by omega
  have han : a < n := by omega
  clear hcm
  clear h P hm
  go_enter Tryz.func321, Tryz.ntmps321
  go_wp2_with fail
  go_loopw [10, 11] (fun i j wr => ∃ x y : Nat, m ≤ x ∧ x ≤ y ∧ y ≤ c ∧ i = .int .i64 x ∧ j = .int .i64 y ∧ Hid (IAt wr b off n L s ∧ Chg w wr (fun k => k = b) ∧ (∀ h, m ≤ h → h < x → key (s h) < key (s a)) ∧ (∀ h, y ≤ h → h < c → ¬ key (s h) < key (s a)))) (fun i j _ => (intOf j).toNat - (intOf i).toNat)
  case atStart => exact ⟨m, c, by omega, by omega, by omega, rfl, rfl, Lib.hid ⟨HS0.out, Chg.refl _ _, fun h h1 h2 => absurd h1 (by omega), fun h h1 h2 => absurd h1 (by omega)⟩⟩
  case round =>
    obtain ⟨x, y, hx, hxy, hy, rfl, rfl, HR⟩ := hrel
    clear HS0
    by_cases hlt : x < y
    · obtain ⟨h, hh⟩ : ∃ h, h = (x + y) / 2 := ⟨_, rfl⟩
      have hd : ((x : Int) + (y : Int)) / 2 = (h : Int) := by omega
      have hhx : x ≤ h := by omega
      have hhy : h < y := by omega
      have hhn : h < n := by omega
      have z1 : (h : Int) < (n : Int) := by omega
      have z2 : (a : Int) < (n : Int) := by omega
      clear hh
      obtain ⟨q, hq⟩ : ∃ q, decide (key (s h) < key (s a)) = q := ⟨_, rfl⟩
      have hk := fun (u : World) (hu : Below wr.heap.size wr u) => HCM.out.at' HR.out.2.1 hu (HR.out.1.dom hhn) (HR.out.1.dom han)
      obtain ⟨A, hA⟩ : ∃ A, A = L[s h]! := ⟨_, rfl⟩
      obtain ⟨B, hB⟩ : ∃ B, B = L[s a]! := ⟨_, rfl⟩
      rw [hq, ← hA, ← hB] at hk
      have HK := Lib.hid hk
      clear hk
      have hks : ∀ w', Below wr.heap.size wr w' → Below wr.heap.size wr w' ∧ w'.cell? ⟨b, off + h, none⟩ = some (.int .i64 A) ∧ w'.cell? ⟨b, off + a, none⟩ = some (.int .i64 B) := fun w' hb => by
        have h' := HR.out.1.below hb
        rw [hA, hB]
        exact ⟨hb, h'.cell0 hhn, h'.cell0 han⟩
      have KS := Lib.hid hks
      have HAB := Lib.hid (And.intro hA hB)
      have HQ := Lib.hid hq
      clear hks hA hB hq
      go_wp2_with fail
      go_region_held3 (fun w' => Below wr.heap.size wr w' ∧ w'.cell? ⟨b, off + h, none⟩ = some (.int .i64 A) ∧ w'.cell? ⟨b, off + a, none⟩ = some (.int .i64 B))
        (first | exact KS.out _ (Below.refl _ _).drew | (go_split_ands; refine KS.out _ (below_then ?_ hbc); assumption))
        ((go_at_fn g; refine (HK.out _ (by go_split_ands; assumption)).mono ?_; rintro e wc ⟨cc, rfl, hcc, hbc⟩))
      go_split_ands
      have HBZ := Lib.hid (show Below wr.heap.size wr wc by assumption)
      have hpre : Srt.Srt key s (a + 1) c := HP.out.right
      have HPR := Lib.hid hpre
      clear hpre
      cases q
      · go_wp2_with fail
        refine ⟨⟨x, h, hx, hhx, by omega, rfl, rfl, Lib.hid ⟨HR.out.1.below HBZ.out, HR.out.2.1.trans (Chg.of_below HBZ.out (fun k => k = b)) (fun _ _ h => h), HR.out.2.2.1, fun z z1 z2 => ?_⟩⟩, by simp [intOf]; omega⟩
        have h1 := of_decide_eq_false HQ.out
        have h2 := HPR.out.key_le (i := h) (j := z) (by have := HM.out; omega) z1 z2
        omega
      · go_wp2_with fail
        refine ⟨⟨h + 1, y, by omega, by omega, hy, by go_num, rfl, Lib.hid ⟨HR.out.1.below HBZ.out, HR.out.2.1.trans (Chg.of_below HBZ.out (fun k => k = b)) (fun _ _ h => h), fun z z1 z2 => ?_, HR.out.2.2.2⟩⟩, by simp [intOf]; omega⟩
        have h1 := of_decide_eq_true HQ.out
        have h2 := HPR.out.key_le (i := z) (j := h) (by have := HM.out; omega) (by omega) (by omega)
        omega
    · obtain rfl : x = y := by omega
      have HF : Hid (IAt wr b off n L s ∧ Chg w wr (fun k => k = b) ∧ Srt.Srt key (fun k => s (Srt.rotI a m x k)) a c) := Lib.hid ⟨HR.out.1, HR.out.2.1, by
        have e := HM.out
        subst e
        exact Srt.merge_first HP.out.right (fun j j1 j2 => HP.out.cross a j (Nat.le_refl _) (by omega) j1 j2) hx hy HR.out.2.2.1 HR.out.2.2.2⟩
      obtain ⟨wo, rfl⟩ : ∃ wo : World, wo = wr := ⟨_, rfl⟩
      clear HR hlt
      have hxz : (1 : Int) ≤ (x : Int) := by omega
      go_wp2_with fail
      go_loopw [13] (fun i wr => ∃ k : Nat, a ≤ k ∧ k + 1 ≤ x ∧ i = .int .i64 k ∧ Hid (IAt wr b off n L (fun z => s (Srt.rotI a m (k + 1) z)) ∧ Chg w wr (fun k => k = b))) (fun i _ => x - (intOf i).toNat)
      case atStart => exact ⟨a, by omega, by omega, rfl, Lib.hid ⟨HF.out.1.congr (fun i _ => by rw [HM.out, Srt.rotI_none' (by omega)]), HF.out.2.1⟩⟩
      case round =>
        obtain ⟨k, hk, hkx, rfl, HR⟩ := hrel
        by_cases hlt : k + 1 < x
        · obtain ⟨p, hp⟩ : ∃ p, p = k + 1 := ⟨_, rfl⟩
          have hpn : p < n := by omega
          have hkn : k < n := by omega
          have hkp : k ≠ p := by omega
          have w1 : IntKind.i64.wrap ((k : Int) + 1) = (p : Int) := by rw [IntKind.wrap_i64]; omega
          have w2 : (k : Int) + 1 = (p : Int) := by omega
          have t1 : decide ((k : Int) < (x : Int) - 1) = true := decide_eq_true (by omega)
          have z1 : (k : Int) < (n : Int) := by omega
          have z2 : (p : Int) < (n : Int) := by omega
          have HPK := Lib.hid hp
          clear hp
          obtain ⟨t0, ht0⟩ : ∃ t0, t0 = (fun z => s (Srt.rotI a m (k + 1) z)) := ⟨_, rfl⟩
          rw [← ht0] at HR
          have HT0 := Lib.hid ht0
          clear ht0
          obtain ⟨A, hA⟩ : ∃ A, A = L[t0 k]! := ⟨_, rfl⟩
          obtain ⟨B, hB⟩ : ∃ B, B = L[t0 p]! := ⟨_, rfl⟩
          have a0 := HR.out.1.cell0 hkn
          have b0 := HR.out.1.cell0 hpn
          have f0 := HR.out.1.frozen (off + k)
          have f2 := HR.out.1.frozen (off + p)
          try simp only [Nat.add_zero] at a0 b0
          rw [← hA] at a0
          rw [← hB] at b0
          have HAB := Lib.hid (And.intro hA hB)
          clear hA hB
          go_wp2_with fail
          go_big_region
          all_goals (
            go_wp2_with fail
            obtain ⟨hA, hB⟩ := HAB.out
            have hp := HPK.out
            refine ⟨⟨k + 1, by omega, by omega, by first | rfl | go_num | (rw [hp]; go_num), Lib.hid ?_⟩, by simp [intOf]; omega⟩
            rw [hA, hB]
            refine swapI_rel HR.out.1 HR.out.2 hkn hpn hkp ?_
            rw [hp, HT0.out, HM.out]
            exact Srt.rot_right s a k hk)
        · obtain rfl : x = k + 1 := by omega
          have t1 : decide ((k : Int) < (k : Int) + 1 - 1) = false := decide_eq_false (by omega)
          go_wp2_with fail
          go_end0
          refine ⟨rfl, _, HR.out.1, HR.out.2, ?_, HF.out.2.2⟩
          exact (Srt.rot_into s (by omega) (by omega)).mono (Nat.le_refl _) hy
set_option maxRecDepth 100000 in
set_option maxHeartbeats 4000000 in
/-- the right part is one record -/
theorem symI_last (g : Nat) (cb : Array Value) (key : Nat → Nat) (eg : ∀ args w, (callFunc g args).run Tryz.prog w = .ok (.enter g args) w) (b off cap n : Nat) (L : List Int) (s : Nat → Nat) (a m : Nat) (w : World) (h : IAt w b off n L s) (hcm : CmpOk g cb b n L key w) (hc : m + 1 ≤ n) (hn : n ≤ 1000000) (h2 : a + 2 ≤ m) (P : Srt.Pre key s a m (m + 1)) :
    Calls Tryz.prog 321 #[.slice (some ⟨b, off, none⟩) n cap, .int .i64 a, .int .i64 m, .int .i64 ((m + 1 : Nat) : Int), .func (.func g) #[] cb] w (SriPostX key w b off n L s a (m + 1)) := by
  have HCM := Lib.hid hcm
  have HS0 := Lib.hid h
  have HP := Lib.hid P
  obtain ⟨c, hcm⟩ : ∃ c, c = m + 1 := ⟨_, rfl⟩
  rw [← hcm] at hc ⊢
  have e1 : IntKind.i64.wrap ((m : Int) - (a : Int)) = ((m - a : Nat) : Int) := by rw [IntKind.wrap_i64]; omega
  obtain ⟨d, hd⟩ : ∃ d, d = m - a := ⟨_, rfl⟩
  rw [← hd] at e1
  have e2 : (m : Int) - (a : Int) = (d : Int) := by omega
  have e3 : ((d : Int) == 1) = false := by simp; omega
  have e4 : (c : Int) - (m : Int) = 1 := by omega
  have e5 : IntKind.i64.wrap ((c : Int) - (m : Int)) = 1 := by rw [IntKind.wrap_i64]; omega
  have HM := Lib.hid hcm
  have hmn : m < n := by omega
  clear hcm
  clear h P hcm hd
  go_enter Tryz.func321, Tryz.ntmps321
  go_wp2_with fail
  go_loopw [14, 15] (fun i j wr => ∃ x y : Nat, a ≤ x ∧ x ≤ y ∧ y ≤ m ∧ i = .int .i64 x ∧ j = .int .i64 y ∧ Hid (IAt wr b off n L s ∧ Chg w wr (fun k => k = b) ∧ (∀ h, a ≤ h → h < x → ¬ key (s m) < key (s h)) ∧ (∀ h, y ≤ h → h < m → key (s m) < key (s h)))) (fun i j _ => (intOf j).toNat - (intOf i).toNat)
  case atStart => exact ⟨a, m, by omega, by omega, by omega, rfl, rfl, Lib.hid ⟨HS0.out, Chg.refl _ _, fun h h1 h2 => absurd h1 (by omega), fun h h1 h2 => absurd h1 (by omega)⟩⟩
  case round =>
    obtain ⟨x, y, hx, hxy, hy, rfl, rfl, HR⟩ := hrel
    clear HS0
    by_cases hlt : x < y
    · obtain ⟨h, hh⟩ : ∃ h, h = (x + y) / 2 := ⟨_, rfl⟩
      have hd : ((x : Int) + (y : Int)) / 2 = (h : Int) := by omega
      have hhx : x ≤ h := by omega
      have hhy : h < y := by omega
      have hhn : h < n := by omega
      have z1 : (h : Int) < (n : Int) := by omega
      have z2 : (m : Int) < (n : Int) := by omega
      clear hh
      obtain ⟨q, hq⟩ : ∃ q, decide (key (s m) < key (s h)) = q := ⟨_, rfl⟩
      have hk := fun (u : World) (hu : Below wr.heap.size wr u) => HCM.out.at' HR.out.2.1 hu (HR.out.1.dom hmn) (HR.out.1.dom hhn)
      obtain ⟨A, hA⟩ : ∃ A, A = L[s m]! := ⟨_, rfl⟩
      obtain ⟨B, hB⟩ : ∃ B, B = L[s h]! := ⟨_, rfl⟩
      rw [hq, ← hA, ← hB] at hk
      have HK := Lib.hid hk
      clear hk
      have hks : ∀ w', Below wr.heap.size wr w' → Below wr.heap.size wr w' ∧ w'.cell? ⟨b, off + m, none⟩ = some (.int .i64 A) ∧ w'.cell? ⟨b, off + h, none⟩ = some (.int .i64 B) := fun w' hb => by
        have h' := HR.out.1.below hb
        rw [hA, hB]
        exact ⟨hb, h'.cell0 hmn, h'.cell0 hhn⟩
      have KS := Lib.hid hks
      have HAB := Lib.hid (And.intro hA hB)
      have HQ := Lib.hid hq
      clear hks hA hB hq
      go_wp2_with fail
      go_region_held3 (fun w' => Below wr.heap.size wr w' ∧ w'.cell? ⟨b, off + m, none⟩ = some (.int .i64 A) ∧ w'.cell? ⟨b, off + h, none⟩ = some (.int .i64 B))
        (first | exact KS.out _ (Below.refl _ _).drew | (go_split_ands; refine KS.out _ (below_then ?_ hbc); assumption))
        ((go_at_fn g; refine (HK.out _ (by go_split_ands; assumption)).mono ?_; rintro e wc ⟨cc, rfl, hcc, hbc⟩))
      go_split_ands
      have HBZ := Lib.hid (show Below wr.heap.size wr wc by assumption)
      cases q
      · go_wp2_with fail
        refine ⟨⟨h + 1, y, by omega, by omega, hy, by go_num, rfl, Lib.hid ⟨HR.out.1.below HBZ.out, HR.out.2.1.trans (Chg.of_below HBZ.out (fun k => k = b)) (fun _ _ h => h), fun z z1 z2 => ?_, HR.out.2.2.2⟩⟩, by simp [intOf]; omega⟩
        have h1 := of_decide_eq_false HQ.out
        have h2 := HP.out.left.key_le (i := z) (j := h) (by omega) (by omega) (by omega)
        omega
      · go_wp2_with fail
        refine ⟨⟨x, h, hx, hhx, by omega, rfl, rfl, Lib.hid ⟨HR.out.1.below HBZ.out, HR.out.2.1.trans (Chg.of_below HBZ.out (fun k => k = b)) (fun _ _ h => h), HR.out.2.2.1, fun z z1 z2 => ?_⟩⟩, by simp [intOf]; omega⟩
        have h1 := of_decide_eq_true HQ.out
        have h2 := HP.out.left.key_le (i := h) (j := z) (by omega) z1 z2
        omega
    · obtain rfl : x = y := by omega
      have HF : Hid (IAt wr b off n L s ∧ Chg w wr (fun k => k = b) ∧ Srt.Srt key (fun k => s (Srt.rotI x m c k)) a c) := Lib.hid ⟨HR.out.1, HR.out.2.1, by
        have e := HM.out
        subst e
        exact Srt.merge_last HP.out.left (fun j j1 j2 => HP.out.cross j m j1 j2 (Nat.le_refl _) (by omega)) hx hy HR.out.2.2.1 HR.out.2.2.2⟩
      obtain ⟨wo, rfl⟩ : ∃ wo : World, wo = wr := ⟨_, rfl⟩
      clear HR hlt
      go_wp2_with fail
      go_loopw [17] (fun i wr => ∃ k : Nat, x ≤ k ∧ k ≤ m ∧ i = .int .i64 k ∧ Hid (IAt wr b off n L (fun z => s (Srt.rotI k m c z)) ∧ Chg w wr (fun k => k = b))) (fun i _ => (intOf i).toNat)
      case atStart => exact ⟨m, by omega, by omega, rfl, Lib.hid ⟨HF.out.1.congr (fun i _ => by rw [Srt.rotI_none]), HF.out.2.1⟩⟩
      case round =>
        obtain ⟨k, hk, hkm, rfl, HR⟩ := hrel
        by_cases hlt : x < k
        · obtain ⟨p, hp⟩ : ∃ p, p + 1 = k := ⟨k - 1, by omega⟩
          have hpn : p < n := by omega
          have hkn : k < n := by omega
          have hkp : k ≠ p := by omega
          have w1 : IntKind.i64.wrap ((k : Int) - 1) = (p : Int) := by rw [IntKind.wrap_i64]; omega
          have w2 : (k : Int) - 1 = (p : Int) := by omega
          have z1 : (k : Int) < (n : Int) := by omega
          have z2 : (p : Int) < (n : Int) := by omega
          have HPK := Lib.hid hp
          clear hp
          obtain ⟨t0, ht0⟩ : ∃ t0, t0 = (fun z => s (Srt.rotI k m c z)) := ⟨_, rfl⟩
          rw [← ht0] at HR
          have HT0 := Lib.hid ht0
          clear ht0
          obtain ⟨A, hA⟩ : ∃ A, A = L[t0 k]! := ⟨_, rfl⟩
          obtain ⟨B, hB⟩ : ∃ B, B = L[t0 p]! := ⟨_, rfl⟩
          have a0 := HR.out.1.cell0 hkn
          have b0 := HR.out.1.cell0 hpn
          have f0 := HR.out.1.frozen (off + k)
          have f2 := HR.out.1.frozen (off + p)
          try simp only [Nat.add_zero] at a0 b0
          rw [← hA] at a0
          rw [← hB] at b0
          have HAB := Lib.hid (And.intro hA hB)
          clear hA hB
          go_wp2_with fail
          go_big_region
          all_goals (
            go_wp2_with fail
            obtain ⟨hA, hB⟩ := HAB.out
            have hp := HPK.out
            refine ⟨⟨p, by omega, by omega, by first | rfl | (rw [← hp]; go_num), Lib.hid ?_⟩, by simp [intOf]; omega⟩
            rw [hA, hB]
            refine swapI_rel HR.out.1 HR.out.2 hkn hpn hkp ?_
            rw [← hp, HT0.out, ← hp, HM.out]
            exact Srt.rot_left s m p (by omega))
        · obtain rfl : x = k := by omega
          go_wp2_with fail
          go_end0
          refine ⟨rfl, _, HR.out.1, HR.out.2, ?_, HF.out.2.2⟩
          exact (Srt.rot_into s (by omega) (by omega)).mono hx (Nat.le_refl _)
end Go.Proofs.YtonilojjahfboaaGreat
namespace Go.Proofs.YtonilojjahfboaaGreat
open Go.RowKit Go.Maps


/-- the contract, for parts of at most N records -/
def SymOkI (g : Nat) (cb : Array Value) (key : Nat → Nat) (N : Nat) : Prop := ∀ (b off cap n : Nat) (L : List Int) (s : Nat → Nat) (a m c : Nat) (w : World), IAt w b off n L s → CmpOk g cb b n L key w → c ≤ n → n ≤ 1000000 → Srt.Pre key s a m c → c - a ≤ N →
  Calls Tryz.prog 321 #[.slice (some ⟨b, off, none⟩) n cap, .int .i64 a, .int .i64 m, .int .i64 c, .func (.func g) #[] cb] w (SriPostX key w b off n L s a c)
theorem SymOkI.on {g : Nat} {cb : Array Value} {key : Nat → Nat} {N : Nat} (ih : SymOkI g cb key N) (b off cap n : Nat) (L : List Int) (s : Nat → Nat) (a m c : Nat) (w : World) (h1 : IAt w b off n L s) (hcm : CmpOk g cb b n L key w) (h2 : c ≤ n) (h3 : n ≤ 1000000) (h4 : Srt.Pre key s a m c) (h5 : c - a ≤ N) :
    Calls Tryz.prog 321 #[.slice (some ⟨b, off, none⟩) n cap, .int .i64 a, .int .i64 m, .int .i64 c, .func (.func g) #[] cb] w (SriPostX key w b off n L s a c) := by
  unfold SymOkI at ih
  exact ih b off cap n L s a m c w h1 hcm h2 h3 h4 h5
set_option maxRecDepth 100000 in
set_option maxHeartbeats 4000000 in
theorem symI_hi (g : Nat) (cb : Array Value) (key : Nat → Nat) (eg : ∀ args w, (callFunc g args).run Tryz.prog w = .ok (.enter g args) w) (N : Nat) (ih : SymOkI g cb key N) (b off cap n : Nat) (L : List Int) (s : Nat → Nat) (a m c d : Nat) (w : World) (h : IAt w b off n L s) (hcm : CmpOk g cb b n L key w) (hcn : c ≤ n) (hn : n ≤ 1000000) (P : Srt.Pre key s a m c) (hN : c - a ≤ N + 1) (ham : a + 2 ≤ m) (hmc : m + 2 ≤ c) (hd : d = (a + c) / 2) (hdm : d < m) :
    Calls Tryz.prog 321 #[.slice (some ⟨b, off, none⟩) n cap, .int .i64 a, .int .i64 m, .int .i64 c, .func (.func g) #[] cb] w (SriPostX key w b off n L s a c) := by
  have HCM := Lib.hid hcm
  have HS0 := Lib.hid h
  have HP := Lib.hid P
  have hd0 : a < d := by omega
  have hd1 : d < c := by omega
  have hd2 : 2 * d ≤ a + c := by omega
  have hd3 : a + c ≤ 2 * d + 1 := by omega
  obtain ⟨k1, hk1⟩ : ∃ k, k = m - a := ⟨_, rfl⟩
  obtain ⟨k2, hk2⟩ : ∃ k, k = c - m := ⟨_, rfl⟩
  have e1 : IntKind.i64.wrap ((m : Int) - (a : Int)) = (k1 : Int) := by rw [IntKind.wrap_i64]; omega
  have e2 : (m : Int) - (a : Int) = (k1 : Int) := by omega
  have e3 : ((k1 : Int) == 1) = false := by simp; omega
  have e4 : IntKind.i64.wrap ((c : Int) - (m : Int)) = (k2 : Int) := by rw [IntKind.wrap_i64]; omega
  have e5 : (c : Int) - (m : Int) = (k2 : Int) := by omega
  have e6 : ((k2 : Int) == 1) = false := by simp; omega
  have e7 : ((a : Int) + (c : Int)) / 2 = (d : Int) := by omega
  obtain ⟨e, he⟩ : ∃ e, e = d + m := ⟨_, rfl⟩
  have e8 : (d : Int) + (m : Int) = (e : Int) := by omega
  obtain ⟨p, hp⟩ : ∃ p, p + 1 = e := ⟨e - 1, by omega⟩
  have e9 : (e : Int) - 1 = (p : Int) := by omega
  obtain ⟨lo, hlo⟩ : ∃ lo, lo + c = e := ⟨e - c, by omega⟩
  have e10 : (e : Int) - (c : Int) = (lo : Int) := by omega
  have t0 : decide ((d : Int) < (m : Int)) = true := decide_eq_true (by omega)
  have hla : a ≤ lo := by omega
  have HE : Hid (e = d + m ∧ p + 1 = e ∧ lo + c = e) := Lib.hid ⟨he, hp, hlo⟩
  clear hcm
  clear h P hk1 hk2 hd he hp hlo
  go_enter Tryz.func321, Tryz.ntmps321
  go_wp2_with fail
  go_loopw [20, 21] (fun i j wr => ∃ x y : Nat, lo ≤ x ∧ x ≤ y ∧ y ≤ d ∧ i = .int .i64 x ∧ j = .int .i64 y ∧ Hid (IAt wr b off n L s ∧ Chg w wr (fun k => k = b) ∧ Srt.Sea key s (d + m) lo d x y)) (fun i j _ => (intOf j).toNat - (intOf i).toNat)
  case atStart => (have hE := HE.out; exact ⟨lo, d, by omega, by omega, by omega, rfl, rfl, Lib.hid ⟨HS0.out, Chg.refl _ _, Nat.le_refl _, by omega, Nat.le_refl _, fun c h1 h2 => absurd h1 (by omega), fun c h1 h2 => absurd h1 (by omega)⟩⟩)
  case round =>
    obtain ⟨x, y, hx, hxy, hy, rfl, rfl, HR⟩ := hrel
    clear HS0
    by_cases hlt : x < y
    · have hE := HE.out
      obtain ⟨h, hh⟩ : ∃ h, h = (x + y) / 2 := ⟨_, rfl⟩
      have hd' : ((x : Int) + (y : Int)) / 2 = (h : Int) := by omega
      have hhx : x ≤ h := by omega
      have hhy : h < y := by omega
      have hhn : h < n := by omega
      obtain ⟨z, hz⟩ : ∃ z, z + h = p := ⟨p - h, by omega⟩
      have hzn : z < n := by omega
      have w1 : IntKind.i64.wrap ((p : Int) - (h : Int)) = (z : Int) := by rw [IntKind.wrap_i64]; omega
      have z1 : (h : Int) < (n : Int) := by omega
      have z2 : (z : Int) < (n : Int) := by omega
      have hzz : d + m - 1 - h = z := by omega
      have HZ := Lib.hid hzz
      clear hh hz hzz hE
      obtain ⟨q, hq⟩ : ∃ q, decide (key (s z) < key (s h)) = q := ⟨_, rfl⟩
      have hk := fun (u : World) (hu : Below wr.heap.size wr u) => HCM.out.at' HR.out.2.1 hu (HR.out.1.dom hzn) (HR.out.1.dom hhn)
      obtain ⟨A, hA⟩ : ∃ A, A = L[s z]! := ⟨_, rfl⟩
      obtain ⟨B, hB⟩ : ∃ B, B = L[s h]! := ⟨_, rfl⟩
      rw [hq, ← hA, ← hB] at hk
      have HK := Lib.hid hk
      clear hk
      have hks : ∀ w', Below wr.heap.size wr w' → Below wr.heap.size wr w' ∧ w'.cell? ⟨b, off + z, none⟩ = some (.int .i64 A) ∧ w'.cell? ⟨b, off + h, none⟩ = some (.int .i64 B) := fun w' hb => by
        have h' := HR.out.1.below hb
        rw [hA, hB]
        exact ⟨hb, h'.cell0 hzn, h'.cell0 hhn⟩
      have KS := Lib.hid hks
      have HAB := Lib.hid (And.intro hA hB)
      have HQ := Lib.hid hq
      clear hks hA hB hq
      go_wp2_with fail
      go_region_held3 (fun w' => Below wr.heap.size wr w' ∧ w'.cell? ⟨b, off + z, none⟩ = some (.int .i64 A) ∧ w'.cell? ⟨b, off + h, none⟩ = some (.int .i64 B))
        (first | exact KS.out _ (Below.refl _ _).drew | (go_split_ands; refine KS.out _ (below_then ?_ hbc); assumption))
        ((go_at_fn g; refine (HK.out _ (by go_split_ands; assumption)).mono ?_; rintro e wc ⟨cc, rfl, hcc, hbc⟩))
      go_split_ands
      have HBZ := Lib.hid (show Below wr.heap.size wr wc by assumption)
      have HD : Hid (IAt wc b off n L s ∧ Chg w wc (fun k => k = b)) := Lib.hid ⟨HR.out.1.below HBZ.out, HR.out.2.1.trans (Chg.of_below HBZ.out (fun k => k = b)) (fun _ _ h => h)⟩
      cases q
      · go_wp2_with fail
        have h1 := of_decide_eq_false HQ.out
        have hE := HE.out
        rw [← HZ.out] at h1
        exact ⟨⟨h + 1, y, by omega, by omega, hy, by go_num, rfl, Lib.hid ⟨HD.out.1, HD.out.2, HR.out.2.2.step_up HP.out (by omega) (by omega) (by omega) (by omega) hhx hhy h1⟩⟩, by simp [intOf]; omega⟩
      · go_wp2_with fail
        have h1 := of_decide_eq_true HQ.out
        have hE := HE.out
        rw [← HZ.out] at h1
        exact ⟨⟨x, h, hx, hhx, by omega, rfl, rfl, Lib.hid ⟨HD.out.1, HD.out.2, HR.out.2.2.step_down HP.out (by omega) (by omega) (by omega) (by omega) hhx hhy h1⟩⟩, by simp [intOf]; omega⟩
    · obtain rfl : x = y := by omega
      have hE := HE.out
      obtain ⟨en, hen⟩ : ∃ en, en + x = e := ⟨e - x, by omega⟩
      have w1 : (e : Int) - (x : Int) = (en : Int) := by omega
      have HV : Hid (Srt.Halves key (fun k => s (Srt.rotI x m en k)) s a x d en c) := Lib.hid (HR.out.2.2.halves HP.out (by omega) hd0 hd1 (by omega) (by omega) (by omega) (by omega) (by omega) (by omega))
      have hf1 : en = d + m - x := by omega
      have hf2 : x ≤ d := hy
      have hf3 : en ≤ c := by omega
      have hf4 : d < en := by omega
      have hf5 : m ≤ en := by omega
      have hxm : x < m := by omega
      have HEN := Lib.hid hen
      clear hen hE hlt hf1
      have t1 : decide ((x : Int) < (m : Int)) = true := decide_eq_true (by omega)
      have t5 : decide ((d : Int) < (en : Int)) = true := decide_eq_true (by omega)
      by_cases c1 : x < d
      · have t2 : decide ((m : Int) < (en : Int)) = true := decide_eq_true (by have := HEN.out; have := HE.out; omega)
        have t4 : decide ((x : Int) < (d : Int)) = true := decide_eq_true (by omega)
        have hme : m < en := by have := HEN.out; have := HE.out; omega
        by_cases c2 : a < x
        · have t3 : decide ((a : Int) < (x : Int)) = true := decide_eq_true (by omega)
          by_cases c3 : en < c
          · have t6 : decide ((en : Int) < (c : Int)) = true := decide_eq_true (by omega)
            go_wp2_with fail
            (with_reducible refine (rotI_any b off cap n L s x m en _ _ HR.out.1 hxm (by omega) (by omega) hn).mono ?_)
            rintro e1 w1 ⟨rfl, q1, q2⟩
            have HS1 : Hid (IAt w1 b off n L (fun k => s (Srt.rotI x m en k)) ∧ Chg w w1 (fun k => k = b)) := Lib.hid ⟨q1, HR.out.2.1.trans q2 (fun _ _ h => h)⟩
            clear q1 q2
            go_wp2_with fail
            (with_reducible refine (ih.on b off cap n L _ a x d _ HS1.out.1 (HCM.out.chg HS1.out.2) (by omega) hn (HV.out.l1 (by omega) (by omega)) (by omega)).mono ?_)
            rintro e2 w2 ⟨rfl, u, q1, q2, q3, q4⟩
            have HS2 : Hid (IAt w2 b off n L u ∧ Chg w w2 (fun k => k = b) ∧ Srt.Into u (fun k => s (Srt.rotI x m en k)) a d ∧ Srt.Srt key u a d) := Lib.hid ⟨q1, HS1.out.2.trans q2 (fun _ _ h => h), q3, q4⟩
            clear q1 q2 q3 q4
            go_wp2_with fail
            (with_reducible refine (ih.on b off cap n L u d en c _ HS2.out.1 (HCM.out.chg HS2.out.2.1) hcn hn ((HV.out.r1' HS2.out.2.2.1).1 (by omega) (by omega)) (by omega)).mono ?_)
            rintro e3 w3 ⟨rfl, v, q1, q2, q3, q4⟩
            have HS3 : Hid (IAt w3 b off n L v ∧ Chg w w3 (fun k => k = b) ∧ Srt.Into v s a c ∧ Srt.Srt key v a c) := Lib.hid ⟨q1, HS2.out.2.1.trans q2 (fun _ _ h => h), HV.out.join (by omega) (by omega) HS2.out.2.2.1 HS2.out.2.2.2 q3 q4⟩
            clear q1 q2 q3 q4
            go_wp2_with fail
            go_end0
            exact ⟨rfl, _, HS3.out.1, HS3.out.2.1, HS3.out.2.2.1, HS3.out.2.2.2⟩
          · have t6 : decide ((en : Int) < (c : Int)) = false := decide_eq_false (by omega)
            go_wp2_with fail
            (with_reducible refine (rotI_any b off cap n L s x m en _ _ HR.out.1 hxm (by omega) (by omega) hn).mono ?_)
            rintro e1 w1 ⟨rfl, q1, q2⟩
            have HS1 : Hid (IAt w1 b off n L (fun k => s (Srt.rotI x m en k)) ∧ Chg w w1 (fun k => k = b)) := Lib.hid ⟨q1, HR.out.2.1.trans q2 (fun _ _ h => h)⟩
            clear q1 q2
            go_wp2_with fail
            (with_reducible refine (ih.on b off cap n L _ a x d _ HS1.out.1 (HCM.out.chg HS1.out.2) (by omega) hn (HV.out.l1 (by omega) (by omega)) (by omega)).mono ?_)
            rintro e2 w2 ⟨rfl, u, q1, q2, q3, q4⟩
            have HS2 : Hid (IAt w2 b off n L u ∧ Chg w w2 (fun k => k = b) ∧ Srt.Into u (fun k => s (Srt.rotI x m en k)) a d ∧ Srt.Srt key u a d) := Lib.hid ⟨q1, HS1.out.2.trans q2 (fun _ _ h => h), q3, q4⟩
            clear q1 q2 q3 q4
            obtain ⟨w3, hw3⟩ : ∃ w3 : World, w3 = w2 := ⟨_, rfl⟩
            subst hw3
            have HS3 : Hid (IAt w3 b off n L u ∧ Chg w w3 (fun k => k = b) ∧ Srt.Into u s a c ∧ Srt.Srt key u a c) := Lib.hid ⟨HS2.out.1, HS2.out.2.1, HV.out.join (by omega) (by omega) HS2.out.2.2.1 HS2.out.2.2.2 (Srt.Into.refl _ _ _) ((HV.out.r1' HS2.out.2.2.1).2 (by omega))⟩
            go_wp2_with fail
            go_end0
            exact ⟨rfl, _, HS3.out.1, HS3.out.2.1, HS3.out.2.2.1, HS3.out.2.2.2⟩
        · have t3 : decide ((a : Int) < (x : Int)) = false := decide_eq_false (by omega)
          by_cases c3 : en < c
          · have t6 : decide ((en : Int) < (c : Int)) = true := decide_eq_true (by omega)
            go_wp2_with fail
            (with_reducible refine (rotI_any b off cap n L s x m en _ _ HR.out.1 hxm (by omega) (by omega) hn).mono ?_)
            rintro e1 w1 ⟨rfl, q1, q2⟩
            have HS1 : Hid (IAt w1 b off n L (fun k => s (Srt.rotI x m en k)) ∧ Chg w w1 (fun k => k = b)) := Lib.hid ⟨q1, HR.out.2.1.trans q2 (fun _ _ h => h)⟩
            clear q1 q2
            obtain ⟨w2, hw2⟩ : ∃ w2 : World, w2 = w1 := ⟨_, rfl⟩
            subst hw2
            obtain ⟨u, hu⟩ : ∃ u, u = (fun k => s (Srt.rotI x m en k)) := ⟨_, rfl⟩
            have HS2 : Hid (IAt w2 b off n L u ∧ Chg w w2 (fun k => k = b) ∧ Srt.Into u (fun k => s (Srt.rotI x m en k)) a d ∧ Srt.Srt key u a d) := Lib.hid (by rw [hu]; exact ⟨HS1.out.1, HS1.out.2, Srt.Into.refl _ _ _, HV.out.l0 (by omega)⟩)
            clear hu
            go_wp2_with fail
            (with_reducible refine (ih.on b off cap n L u d en c _ HS2.out.1 (HCM.out.chg HS2.out.2.1) hcn hn ((HV.out.r1' HS2.out.2.2.1).1 (by omega) (by omega)) (by omega)).mono ?_)
            rintro e3 w3 ⟨rfl, v, q1, q2, q3, q4⟩
            have HS3 : Hid (IAt w3 b off n L v ∧ Chg w w3 (fun k => k = b) ∧ Srt.Into v s a c ∧ Srt.Srt key v a c) := Lib.hid ⟨q1, HS2.out.2.1.trans q2 (fun _ _ h => h), HV.out.join (by omega) (by omega) HS2.out.2.2.1 HS2.out.2.2.2 q3 q4⟩
            clear q1 q2 q3 q4
            go_wp2_with fail
            go_end0
            exact ⟨rfl, _, HS3.out.1, HS3.out.2.1, HS3.out.2.2.1, HS3.out.2.2.2⟩
          · have t6 : decide ((en : Int) < (c : Int)) = false := decide_eq_false (by omega)
            go_wp2_with fail
            (with_reducible refine (rotI_any b off cap n L s x m en _ _ HR.out.1 hxm (by omega) (by omega) hn).mono ?_)
            rintro e1 w1 ⟨rfl, q1, q2⟩
            have HS1 : Hid (IAt w1 b off n L (fun k => s (Srt.rotI x m en k)) ∧ Chg w w1 (fun k => k = b)) := Lib.hid ⟨q1, HR.out.2.1.trans q2 (fun _ _ h => h)⟩
            clear q1 q2
            obtain ⟨w2, hw2⟩ : ∃ w2 : World, w2 = w1 := ⟨_, rfl⟩
            subst hw2
            obtain ⟨u, hu⟩ : ∃ u, u = (fun k => s (Srt.rotI x m en k)) := ⟨_, rfl⟩
            have HS2 : Hid (IAt w2 b off n L u ∧ Chg w w2 (fun k => k = b) ∧ Srt.Into u (fun k => s (Srt.rotI x m en k)) a d ∧ Srt.Srt key u a d) := Lib.hid (by rw [hu]; exact ⟨HS1.out.1, HS1.out.2, Srt.Into.refl _ _ _, HV.out.l0 (by omega)⟩)
            clear hu
            obtain ⟨w3, hw3⟩ : ∃ w3 : World, w3 = w2 := ⟨_, rfl⟩
            subst hw3
            have HS3 : Hid (IAt w3 b off n L u ∧ Chg w w3 (fun k => k = b) ∧ Srt.Into u s a c ∧ Srt.Srt key u a c) := Lib.hid ⟨HS2.out.1, HS2.out.2.1, HV.out.join (by omega) (by omega) HS2.out.2.2.1 HS2.out.2.2.2 (Srt.Into.refl _ _ _) ((HV.out.r1' HS2.out.2.2.1).2 (by omega))⟩
            go_wp2_with fail
            go_end0
            exact ⟨rfl, _, HS3.out.1, HS3.out.2.1, HS3.out.2.2.1, HS3.out.2.2.2⟩
      · have t2 : decide ((m : Int) < (en : Int)) = false := decide_eq_false (by have := HEN.out; have := HE.out; omega)
        have t4 : decide ((x : Int) < (d : Int)) = false := decide_eq_false (by omega)
        have hme : en = m := by have := HEN.out; have := HE.out; omega
        have HME := Lib.hid hme
        clear hme
        have t3 : decide ((a : Int) < (x : Int)) = true := decide_eq_true (by omega)
        have c3 : en < c := by have := HME.out; omega
        have t6 : decide ((en : Int) < (c : Int)) = true := decide_eq_true (by omega)
        have HS1 : Hid (IAt wr b off n L (fun k => s (Srt.rotI x m en k)) ∧ Chg w wr (fun k => k = b)) := Lib.hid ⟨HR.out.1.congr (fun i _ => by rw [show en = m by omega, Srt.rotI_none' (by omega)]), HR.out.2.1⟩
        obtain ⟨w1, hw1⟩ : ∃ w1 : World, w1 = wr := ⟨_, rfl⟩
        subst hw1
        obtain ⟨w2, hw2⟩ : ∃ w2 : World, w2 = w1 := ⟨_, rfl⟩
        subst hw2
        obtain ⟨u, hu⟩ : ∃ u, u = (fun k => s (Srt.rotI x m en k)) := ⟨_, rfl⟩
        have HS2 : Hid (IAt w2 b off n L u ∧ Chg w w2 (fun k => k = b) ∧ Srt.Into u (fun k => s (Srt.rotI x m en k)) a d ∧ Srt.Srt key u a d) := Lib.hid (by rw [hu]; exact ⟨HS1.out.1, HS1.out.2, Srt.Into.refl _ _ _, HV.out.l0 (by omega)⟩)
        clear hu
        go_wp2_with fail
        (with_reducible refine (ih.on b off cap n L u d en c _ HS2.out.1 (HCM.out.chg HS2.out.2.1) hcn hn ((HV.out.r1' HS2.out.2.2.1).1 (by omega) (by omega)) (by omega)).mono ?_)
        rintro e3 w3 ⟨rfl, v, q1, q2, q3, q4⟩
        have HS3 : Hid (IAt w3 b off n L v ∧ Chg w w3 (fun k => k = b) ∧ Srt.Into v s a c ∧ Srt.Srt key v a c) := Lib.hid ⟨q1, HS2.out.2.1.trans q2 (fun _ _ h => h), HV.out.join (by omega) (by omega) HS2.out.2.2.1 HS2.out.2.2.2 q3 q4⟩
        clear q1 q2 q3 q4
        go_wp2_with fail
        go_end0
        exact ⟨rfl, _, HS3.out.1, HS3.out.2.1, HS3.out.2.2.1, HS3.out.2.2.2⟩
set_option maxRecDepth 100000 in
set_option maxHeartbeats 4000000 in
theorem symI_lo (g : Nat) (cb : Array Value) (key : Nat → Nat) (eg : ∀ args w, (callFunc g args).run Tryz.prog w = .ok (.enter g args) w) (N : Nat) (ih : SymOkI g cb key N) (b off cap n : Nat) (L : List Int) (s : Nat → Nat) (a m c d : Nat) (w : World) (h : IAt w b off n L s) (hcm : CmpOk g cb b n L key w) (hcn : c ≤ n) (hn : n ≤ 1000000) (P : Srt.Pre key s a m c) (hN : c - a ≤ N + 1) (ham : a + 2 ≤ m) (hmc : m + 2 ≤ c) (hd : d = (a + c) / 2) (hdm : m ≤ d) :
    Calls Tryz.prog 321 #[.slice (some ⟨b, off, none⟩) n cap, .int .i64 a, .int .i64 m, .int .i64 c, .func (.func g) #[] cb] w (SriPostX key w b off n L s a c) := by
  have HCM := Lib.hid hcm
  have HS0 := Lib.hid h
  have HP := Lib.hid P
  have hd0 : a < d := by omega
  have hd1 : d < c := by omega
  have hd2 : 2 * d ≤ a + c := by omega
  have hd3 : a + c ≤ 2 * d + 1 := by omega
  obtain ⟨k1, hk1⟩ : ∃ k, k = m - a := ⟨_, rfl⟩
  obtain ⟨k2, hk2⟩ : ∃ k, k = c - m := ⟨_, rfl⟩
  have e1 : IntKind.i64.wrap ((m : Int) - (a : Int)) = (k1 : Int) := by rw [IntKind.wrap_i64]; omega
  have e2 : (m : Int) - (a : Int) = (k1 : Int) := by omega
  have e3 : ((k1 : Int) == 1) = false := by simp; omega
  have e4 : IntKind.i64.wrap ((c : Int) - (m : Int)) = (k2 : Int) := by rw [IntKind.wrap_i64]; omega
  have e5 : (c : Int) - (m : Int) = (k2 : Int) := by omega
  have e6 : ((k2 : Int) == 1) = false := by simp; omega
  have e7 : ((a : Int) + (c : Int)) / 2 = (d : Int) := by omega
  obtain ⟨e, he⟩ : ∃ e, e = d + m := ⟨_, rfl⟩
  have e8 : (d : Int) + (m : Int) = (e : Int) := by omega
  obtain ⟨p, hp⟩ : ∃ p, p + 1 = e := ⟨e - 1, by omega⟩
  have e9 : (e : Int) - 1 = (p : Int) := by omega
  have t0 : decide (d < m) = false := decide_eq_false (by omega)
  have HE : Hid (e = d + m ∧ p + 1 = e) := Lib.hid ⟨he, hp⟩
  clear hcm
  clear h P hk1 hk2 hd he hp
  go_enter Tryz.func321, Tryz.ntmps321
  go_wp2_with fail
  go_loopw [20, 21] (fun i j wr => ∃ x y : Nat, a ≤ x ∧ x ≤ y ∧ y ≤ m ∧ i = .int .i64 x ∧ j = .int .i64 y ∧ Hid (IAt wr b off n L s ∧ Chg w wr (fun k => k = b) ∧ Srt.Sea key s (d + m) a m x y)) (fun i j _ => (intOf j).toNat - (intOf i).toNat)
  case atStart => (have hE := HE.out; exact ⟨a, m, by omega, by omega, by omega, rfl, rfl, Lib.hid ⟨HS0.out, Chg.refl _ _, Nat.le_refl _, by omega, Nat.le_refl _, fun c h1 h2 => absurd h1 (by omega), fun c h1 h2 => absurd h1 (by omega)⟩⟩)
  case round =>
    obtain ⟨x, y, hx, hxy, hy, rfl, rfl, HR⟩ := hrel
    clear HS0
    by_cases hlt : x < y
    · have hE := HE.out
      obtain ⟨h, hh⟩ : ∃ h, h = (x + y) / 2 := ⟨_, rfl⟩
      have hd' : ((x : Int) + (y : Int)) / 2 = (h : Int) := by omega
      have hhx : x ≤ h := by omega
      have hhy : h < y := by omega
      have hhn : h < n := by omega
      obtain ⟨z, hz⟩ : ∃ z, z + h = p := ⟨p - h, by omega⟩
      have hzn : z < n := by omega
      have w1 : IntKind.i64.wrap ((p : Int) - (h : Int)) = (z : Int) := by rw [IntKind.wrap_i64]; omega
      have z1 : (h : Int) < (n : Int) := by omega
      have z2 : (z : Int) < (n : Int) := by omega
      have hzz : d + m - 1 - h = z := by omega
      have HZ := Lib.hid hzz
      clear hh hz hzz hE
      obtain ⟨q, hq⟩ : ∃ q, decide (key (s z) < key (s h)) = q := ⟨_, rfl⟩
      have hk := fun (u : World) (hu : Below wr.heap.size wr u) => HCM.out.at' HR.out.2.1 hu (HR.out.1.dom hzn) (HR.out.1.dom hhn)
      obtain ⟨A, hA⟩ : ∃ A, A = L[s z]! := ⟨_, rfl⟩
      obtain ⟨B, hB⟩ : ∃ B, B = L[s h]! := ⟨_, rfl⟩
      rw [hq, ← hA, ← hB] at hk
      have HK := Lib.hid hk
      clear hk
      have hks : ∀ w', Below wr.heap.size wr w' → Below wr.heap.size wr w' ∧ w'.cell? ⟨b, off + z, none⟩ = some (.int .i64 A) ∧ w'.cell? ⟨b, off + h, none⟩ = some (.int .i64 B) := fun w' hb => by
        have h' := HR.out.1.below hb
        rw [hA, hB]
        exact ⟨hb, h'.cell0 hzn, h'.cell0 hhn⟩
      have KS := Lib.hid hks
      have HAB := Lib.hid (And.intro hA hB)
      have HQ := Lib.hid hq
      clear hks hA hB hq
      go_wp2_with fail
      go_region_held3 (fun w' => Below wr.heap.size wr w' ∧ w'.cell? ⟨b, off + z, none⟩ = some (.int .i64 A) ∧ w'.cell? ⟨b, off + h, none⟩ = some (.int .i64 B))
        (first | exact KS.out _ (Below.refl _ _).drew | (go_split_ands; refine KS.out _ (below_then ?_ hbc); assumption))
        ((go_at_fn g; refine (HK.out _ (by go_split_ands; assumption)).mono ?_; rintro e wc ⟨cc, rfl, hcc, hbc⟩))
      go_split_ands
      have HBZ := Lib.hid (show Below wr.heap.size wr wc by assumption)
      have HD : Hid (IAt wc b off n L s ∧ Chg w wc (fun k => k = b)) := Lib.hid ⟨HR.out.1.below HBZ.out, HR.out.2.1.trans (Chg.of_below HBZ.out (fun k => k = b)) (fun _ _ h => h)⟩
      cases q
      · go_wp2_with fail
        have h1 := of_decide_eq_false HQ.out
        have hE := HE.out
        rw [← HZ.out] at h1
        exact ⟨⟨h + 1, y, by omega, by omega, hy, by go_num, rfl, Lib.hid ⟨HD.out.1, HD.out.2, HR.out.2.2.step_up HP.out (by omega) (by omega) (by omega) (by omega) hhx hhy h1⟩⟩, by simp [intOf]; omega⟩
      · go_wp2_with fail
        have h1 := of_decide_eq_true HQ.out
        have hE := HE.out
        rw [← HZ.out] at h1
        exact ⟨⟨x, h, hx, hhx, by omega, rfl, rfl, Lib.hid ⟨HD.out.1, HD.out.2, HR.out.2.2.step_down HP.out (by omega) (by omega) (by omega) (by omega) hhx hhy h1⟩⟩, by simp [intOf]; omega⟩
    · obtain rfl : x = y := by omega
      have hE := HE.out
      obtain ⟨en, hen⟩ : ∃ en, en + x = e := ⟨e - x, by omega⟩
      have w1 : (e : Int) - (x : Int) = (en : Int) := by omega
      have HV : Hid (Srt.Halves key (fun k => s (Srt.rotI x m en k)) s a x d en c) := Lib.hid (HR.out.2.2.halves HP.out (by omega) hd0 hd1 (by omega) (by omega) (by omega) (by omega) (by omega) (by omega))
      have hf1 : en = d + m - x := by omega
      have hf2 : x ≤ m := hy
      have hf3 : en ≤ c := by omega
      have hf4 : d ≤ en := by omega
      have hf5 : m ≤ en := by omega
      have HEN := Lib.hid hen
      clear hen hE hlt hf1
      by_cases c1 : x < m
      · have t1 : decide ((x : Int) < (m : Int)) = true := decide_eq_true (by omega)
        have hxm := c1
        have hme : m < en := by have := HEN.out; have := HE.out; omega
        have hde : d < en := by have := HEN.out; have := HE.out; omega
        have t2 : decide ((m : Int) < (en : Int)) = true := decide_eq_true (by omega)
        have t4 : decide ((x : Int) < (d : Int)) = true := decide_eq_true (by omega)
        have t5 : decide ((d : Int) < (en : Int)) = true := decide_eq_true (by omega)
        by_cases c2 : a < x
        · have t3 : decide ((a : Int) < (x : Int)) = true := decide_eq_true (by omega)
          have c3 : en < c := by have := HEN.out; have := HE.out; omega
          have t6 : decide ((en : Int) < (c : Int)) = true := decide_eq_true (by omega)
          go_wp2_with fail
          (with_reducible refine (rotI_any b off cap n L s x m en _ _ HR.out.1 hxm (by omega) (by omega) hn).mono ?_)
          rintro e1 w1 ⟨rfl, q1, q2⟩
          have HS1 : Hid (IAt w1 b off n L (fun k => s (Srt.rotI x m en k)) ∧ Chg w w1 (fun k => k = b)) := Lib.hid ⟨q1, HR.out.2.1.trans q2 (fun _ _ h => h)⟩
          clear q1 q2
          go_wp2_with fail
          (with_reducible refine (ih.on b off cap n L _ a x d _ HS1.out.1 (HCM.out.chg HS1.out.2) (by omega) hn (HV.out.l1 (by omega) (by omega)) (by omega)).mono ?_)
          rintro e2 w2 ⟨rfl, u, q1, q2, q3, q4⟩
          have HS2 : Hid (IAt w2 b off n L u ∧ Chg w w2 (fun k => k = b) ∧ Srt.Into u (fun k => s (Srt.rotI x m en k)) a d ∧ Srt.Srt key u a d) := Lib.hid ⟨q1, HS1.out.2.trans q2 (fun _ _ h => h), q3, q4⟩
          clear q1 q2 q3 q4
          go_wp2_with fail
          (with_reducible refine (ih.on b off cap n L u d en c _ HS2.out.1 (HCM.out.chg HS2.out.2.1) hcn hn ((HV.out.r1' HS2.out.2.2.1).1 (by omega) (by omega)) (by omega)).mono ?_)
          rintro e3 w3 ⟨rfl, v, q1, q2, q3, q4⟩
          have HS3 : Hid (IAt w3 b off n L v ∧ Chg w w3 (fun k => k = b) ∧ Srt.Into v s a c ∧ Srt.Srt key v a c) := Lib.hid ⟨q1, HS2.out.2.1.trans q2 (fun _ _ h => h), HV.out.join (by omega) (by omega) HS2.out.2.2.1 HS2.out.2.2.2 q3 q4⟩
          clear q1 q2 q3 q4
          go_wp2_with fail
          go_end0
          exact ⟨rfl, _, HS3.out.1, HS3.out.2.1, HS3.out.2.2.1, HS3.out.2.2.2⟩
        · have t3 : decide ((a : Int) < (x : Int)) = false := decide_eq_false (by omega)
          by_cases c3 : en < c
          · have t6 : decide ((en : Int) < (c : Int)) = true := decide_eq_true (by omega)
            go_wp2_with fail
            (with_reducible refine (rotI_any b off cap n L s x m en _ _ HR.out.1 hxm (by omega) (by omega) hn).mono ?_)
            rintro e1 w1 ⟨rfl, q1, q2⟩
            have HS1 : Hid (IAt w1 b off n L (fun k => s (Srt.rotI x m en k)) ∧ Chg w w1 (fun k => k = b)) := Lib.hid ⟨q1, HR.out.2.1.trans q2 (fun _ _ h => h)⟩
            clear q1 q2
            obtain ⟨w2, hw2⟩ : ∃ w2 : World, w2 = w1 := ⟨_, rfl⟩
            subst hw2
            obtain ⟨u, hu⟩ : ∃ u, u = (fun k => s (Srt.rotI x m en k)) := ⟨_, rfl⟩
            have HS2 : Hid (IAt w2 b off n L u ∧ Chg w w2 (fun k => k = b) ∧ Srt.Into u (fun k => s (Srt.rotI x m en k)) a d ∧ Srt.Srt key u a d) := Lib.hid (by rw [hu]; exact ⟨HS1.out.1, HS1.out.2, Srt.Into.refl _ _ _, HV.out.l0 (by omega)⟩)
            clear hu
            go_wp2_with fail
            (with_reducible refine (ih.on b off cap n L u d en c _ HS2.out.1 (HCM.out.chg HS2.out.2.1) hcn hn ((HV.out.r1' HS2.out.2.2.1).1 (by omega) (by omega)) (by omega)).mono ?_)
            rintro e3 w3 ⟨rfl, v, q1, q2, q3, q4⟩
            have HS3 : Hid (IAt w3 b off n L v ∧ Chg w w3 (fun k => k = b) ∧ Srt.Into v s a c ∧ Srt.Srt key v a c) := Lib.hid ⟨q1, HS2.out.2.1.trans q2 (fun _ _ h => h), HV.out.join (by omega) (by omega) HS2.out.2.2.1 HS2.out.2.2.2 q3 q4⟩
            clear q1 q2 q3 q4
            go_wp2_with fail
            go_end0
            exact ⟨rfl, _, HS3.out.1, HS3.out.2.1, HS3.out.2.2.1, HS3.out.2.2.2⟩
          · have t6 : decide ((en : Int) < (c : Int)) = false := decide_eq_false (by omega)
            go_wp2_with fail
            (with_reducible refine (rotI_any b off cap n L s x m en _ _ HR.out.1 hxm (by omega) (by omega) hn).mono ?_)
            rintro e1 w1 ⟨rfl, q1, q2⟩
            have HS1 : Hid (IAt w1 b off n L (fun k => s (Srt.rotI x m en k)) ∧ Chg w w1 (fun k => k = b)) := Lib.hid ⟨q1, HR.out.2.1.trans q2 (fun _ _ h => h)⟩
            clear q1 q2
            obtain ⟨w2, hw2⟩ : ∃ w2 : World, w2 = w1 := ⟨_, rfl⟩
            subst hw2
            obtain ⟨u, hu⟩ : ∃ u, u = (fun k => s (Srt.rotI x m en k)) := ⟨_, rfl⟩
            have HS2 : Hid (IAt w2 b off n L u ∧ Chg w w2 (fun k => k = b) ∧ Srt.Into u (fun k => s (Srt.rotI x m en k)) a d ∧ Srt.Srt key u a d) := Lib.hid (by rw [hu]; exact ⟨HS1.out.1, HS1.out.2, Srt.Into.refl _ _ _, HV.out.l0 (by omega)⟩)
            clear hu
            obtain ⟨w3, hw3⟩ : ∃ w3 : World, w3 = w2 := ⟨_, rfl⟩
            subst hw3
            have HS3 : Hid (IAt w3 b off n L u ∧ Chg w w3 (fun k => k = b) ∧ Srt.Into u s a c ∧ Srt.Srt key u a c) := Lib.hid ⟨HS2.out.1, HS2.out.2.1, HV.out.join (by omega) (by omega) HS2.out.2.2.1 HS2.out.2.2.2 (Srt.Into.refl _ _ _) ((HV.out.r1' HS2.out.2.2.1).2 (by omega))⟩
            go_wp2_with fail
            go_end0
            exact ⟨rfl, _, HS3.out.1, HS3.out.2.1, HS3.out.2.2.1, HS3.out.2.2.2⟩
      · have t1 : decide ((x : Int) < (m : Int)) = false := decide_eq_false (by omega)
        have hed : en = d := by have := HEN.out; have := HE.out; omega
        have t5 : decide ((d : Int) < (en : Int)) = false := decide_eq_false (by omega)
        have HED := Lib.hid hed
        have hed1 : en ≤ d := by omega
        clear hed
        have t3 : decide ((a : Int) < (x : Int)) = true := decide_eq_true (by omega)
        by_cases c2 : x < d
        · have t4 : decide ((x : Int) < (d : Int)) = true := decide_eq_true (by omega)
          have HS1 : Hid (IAt wr b off n L (fun k => s (Srt.rotI x m en k)) ∧ Chg w wr (fun k => k = b)) := Lib.hid ⟨HR.out.1.congr (fun i _ => by rw [show x = m by omega, Srt.rotI_none]), HR.out.2.1⟩
          obtain ⟨w1, hw1⟩ : ∃ w1 : World, w1 = wr := ⟨_, rfl⟩
          subst hw1
          go_wp2_with fail
          (with_reducible refine (ih.on b off cap n L _ a x d _ HS1.out.1 (HCM.out.chg HS1.out.2) (by omega) hn (HV.out.l1 (by omega) (by omega)) (by omega)).mono ?_)
          rintro e2 w2 ⟨rfl, u, q1, q2, q3, q4⟩
          have HS2 : Hid (IAt w2 b off n L u ∧ Chg w w2 (fun k => k = b) ∧ Srt.Into u (fun k => s (Srt.rotI x m en k)) a d ∧ Srt.Srt key u a d) := Lib.hid ⟨q1, HS1.out.2.trans q2 (fun _ _ h => h), q3, q4⟩
          clear q1 q2 q3 q4
          obtain ⟨w3, hw3⟩ : ∃ w3 : World, w3 = w2 := ⟨_, rfl⟩
          subst hw3
          have HS3 : Hid (IAt w3 b off n L u ∧ Chg w w3 (fun k => k = b) ∧ Srt.Into u s a c ∧ Srt.Srt key u a c) := Lib.hid ⟨HS2.out.1, HS2.out.2.1, HV.out.join (by omega) (by omega) HS2.out.2.2.1 HS2.out.2.2.2 (Srt.Into.refl _ _ _) ((HV.out.r1' HS2.out.2.2.1).2 (by omega))⟩
          go_wp2_with fail
          go_end0
          exact ⟨rfl, _, HS3.out.1, HS3.out.2.1, HS3.out.2.2.1, HS3.out.2.2.2⟩
        · have t4 : decide ((x : Int) < (d : Int)) = false := decide_eq_false (by omega)
          have HS1 : Hid (IAt wr b off n L (fun k => s (Srt.rotI x m en k)) ∧ Chg w wr (fun k => k = b)) := Lib.hid ⟨HR.out.1.congr (fun i _ => by rw [show x = m by omega, Srt.rotI_none]), HR.out.2.1⟩
          obtain ⟨w1, hw1⟩ : ∃ w1 : World, w1 = wr := ⟨_, rfl⟩
          subst hw1
          obtain ⟨w2, hw2⟩ : ∃ w2 : World, w2 = w1 := ⟨_, rfl⟩
          subst hw2
          obtain ⟨u, hu⟩ : ∃ u, u = (fun k => s (Srt.rotI x m en k)) := ⟨_, rfl⟩
          have HS2 : Hid (IAt w2 b off n L u ∧ Chg w w2 (fun k => k = b) ∧ Srt.Into u (fun k => s (Srt.rotI x m en k)) a d ∧ Srt.Srt key u a d) := Lib.hid (by rw [hu]; exact ⟨HS1.out.1, HS1.out.2, Srt.Into.refl _ _ _, HV.out.l0 (by omega)⟩)
          clear hu
          obtain ⟨w3, hw3⟩ : ∃ w3 : World, w3 = w2 := ⟨_, rfl⟩
          subst hw3
          have HS3 : Hid (IAt w3 b off n L u ∧ Chg w w3 (fun k => k = b) ∧ Srt.Into u s a c ∧ Srt.Srt key u a c) := Lib.hid ⟨HS2.out.1, HS2.out.2.1, HV.out.join (by omega) (by omega) HS2.out.2.2.1 HS2.out.2.2.2 (Srt.Into.refl _ _ _) ((HV.out.r1' HS2.out.2.2.1).2 (by omega))⟩
          go_wp2_with fail
          go_end0
          exact ⟨rfl, _, HS3.out.1, HS3.out.2.1, HS3.out.2.2.1, HS3.out.2.2.2⟩
theorem symI_all (g : Nat) (cb : Array Value) (key : Nat → Nat) (eg : ∀ args w, (callFunc g args).run Tryz.prog w = .ok (.enter g args) w) : ∀ N, SymOkI g cb key N
  | 0 => fun b off cap n L s a m c w _ _ _ _ P hN => by have := P.am; have := P.mb; omega
  | N + 1 => fun b off cap n L s a m c w h hcm hc hn P hN => by
    have ha := P.am
    have hm := P.mb
    by_cases h1 : m = a + 1
    · subst h1; exact symI_first g cb key eg b off cap n L s a c w h hcm hc hn P
    · by_cases h2 : c = m + 1
      · subst h2; exact symI_last g cb key eg b off cap n L s a m w h hcm hc hn (by omega) P
      · by_cases h3 : (a + c) / 2 < m
        · exact symI_hi g cb key eg N (symI_all g cb key eg N) b off cap n L s a m c _ w h hcm hc hn P hN (by omega) (by omega) rfl h3
        · exact symI_lo g cb key eg N (symI_all g cb key eg N) b off cap n L s a m c _ w h hcm hc hn P hN (by omega) (by omega) rfl (by omega)
end Go.Proofs.YtonilojjahfboaaGreat
namespace Go.Proofs.YtonilojjahfboaaGreat
open Go.RowKit Go.Maps


/-- the whole row, sorted -/
def SriPostW (key : Nat → Nat) (w : World) (b off n : Nat) (L : List Int) (e : Ending) (w' : World) : Prop :=
  e = .returned (.tuple #[]) ∧ ∃ t, IAt w' b off n L t ∧ Chg w w' (fun k => k = b) ∧ Srt.Into t (fun i => i) 0 n ∧ Srt.Srt key t 0 n
def BeI (w wr : World) (b off n : Nat) (L : List Int) (X : (Nat → Nat) → Prop) : Prop := ∃ t, IAt wr b off n L t ∧ Chg w wr (fun k => k = b) ∧ X t
set_option maxRecDepth 100000 in
set_option maxHeartbeats 4000000 in
theorem staCI_any (g : Nat) (cb : Array Value) (key : Nat → Nat) (eg : ∀ args w, (callFunc g args).run Tryz.prog w = .ok (.enter g args) w) (b off cap n : Nat) (L : List Int) (w : World) (h : IAt w b off n L (fun i => i)) (hcm : CmpOk g cb b n L key w) (hn : n ≤ 1000000) :
    Calls Tryz.prog 237 #[.slice (some ⟨b, off, none⟩) n cap, .int .i64 n, .func (.func g) #[] cb] w (SriPostW key w b off n L) := by
  have HCM := Lib.hid hcm
  have HS0 := Lib.hid h
  clear hcm
  clear h
  go_enter Tryz.func237, Tryz.ntmps237
  go_wp2_with fail
  go_loopw [7, 8] (fun i j wr => ∃ x y : Nat, x ≤ n ∧ y ≤ n + 20 ∧ i = .int .i64 x ∧ j = .int .i64 y ∧ Hid (y = x + 20 ∧ BeI w wr b off n L (fun t => Srt.Lev0 key t 20 x n))) (fun i _ _ => n - (intOf i).toNat)
  case atStart => exact ⟨0, 20, by omega, by omega, rfl, rfl, Lib.hid ⟨rfl, _, HS0.out, Chg.refl _ _, Srt.Lev0.start _ _ _⟩⟩
  case round =>
    obtain ⟨x, y, hx, hy, rfl, rfl, HR⟩ := hrel
    clear HS0
    obtain ⟨hxy, t, hT⟩ := HR.out
    have HT := Lib.hid hT
    have HXY := Lib.hid hxy
    clear hT HR hxy
    by_cases hlt : y ≤ n
    · go_wp2_with fail
      (with_reducible refine (insCI_any g cb key eg b off cap n L t x y _ HT.out.1 (HCM.out.chg HT.out.2.1) (by have := HXY.out; omega) hlt hn (fun p q h1 h2 h3 => by rw [HT.out.2.2.rest p h1, HT.out.2.2.rest q (by omega)]; exact h2)).mono ?_)
      rintro e w1 ⟨rfl, u, q1, q2, q3, q4⟩
      have HU : Hid (IAt w1 b off n L u ∧ Chg w w1 (fun k => k = b) ∧ Srt.Lev0 key u 20 y n) := Lib.hid ⟨q1, HT.out.2.1.trans q2 (fun _ _ h => h), by
        have e := HXY.out
        subst e
        exact HT.out.2.2.next (by omega) hlt q3 q4⟩
      clear q1 q2 q3 q4
      go_wp2_with fail
      refine ⟨⟨y, y + 20, by omega, by omega, rfl, by go_num, Lib.hid ⟨rfl, u, HU.out.1, HU.out.2.1, HU.out.2.2⟩⟩, ?_⟩
      have := HXY.out
      simp [intOf]; omega
    · go_wp2_with fail
      (with_reducible refine (insCI_any g cb key eg b off cap n L t x n _ HT.out.1 (HCM.out.chg HT.out.2.1) hx (Nat.le_refl _) hn (fun p q h1 h2 h3 => by rw [HT.out.2.2.rest p h1, HT.out.2.2.rest q (by omega)]; exact h2)).mono ?_)
      rintro e w1 ⟨rfl, u, q1, q2, q3, q4⟩
      have HU : Hid (BeI w w1 b off n L (fun t => Srt.Lev key t 20 n)) := Lib.hid ⟨u, q1, HT.out.2.1.trans q2 (fun _ _ h => h), by
        have e := HXY.out
        exact HT.out.2.2.last (by omega) q3 q4⟩
      clear q1 q2 q3 q4
      go_wp2_with fail
      go_loopw [6, 7, 8, 9] (fun i _ _ _ wr => ∃ d : Nat, 20 ≤ d ∧ d ≤ 2 * n + 20 ∧ i = .int .i64 d ∧ Hid (BeI w wr b off n L (fun t => Srt.Lev key t d n))) (fun i _ _ _ _ => n - (intOf i).toNat)
      case atStart => exact ⟨20, by omega, by omega, rfl, HU⟩
      case round =>
        obtain ⟨d, hd, hdn, rfl, HR⟩ := hrel
        clear HU HT
        by_cases hlt2 : d < n
        · obtain ⟨wo, rfl⟩ : ∃ wo : World, wo = wr := ⟨_, rfl⟩
          obtain ⟨d2, hd2⟩ : ∃ d2, d2 = 2 * d := ⟨_, rfl⟩
          have e1 : 2 * (d : Int) = (d2 : Int) := by omega
          have e2 : (d : Int) * 2 = (d2 : Int) := by omega
          have HD := Lib.hid hd2
          have hd20 : d < d2 := by omega
          have hd2n : d2 ≤ 2 * n := by omega
          clear hd2
          go_wp2_with fail
          go_loopw [7, 8] (fun i j wr => ∃ x y : Nat, x ≤ n ∧ y ≤ 3 * n ∧ i = .int .i64 x ∧ j = .int .i64 y ∧ Hid (y = x + d2 ∧ BeI w wr b off n L (fun t => Srt.LevI key t d x n))) (fun i _ _ => n - (intOf i).toNat)
          case atStart => (obtain ⟨t, h1, h2, h3⟩ := HR.out; exact ⟨0, d2, by omega, by omega, rfl, rfl, Lib.hid ⟨by omega, t, h1, h2, h3.start⟩⟩)
          case round =>
            obtain ⟨p, y2, hp, hy2, rfl, rfl, HR2⟩ := hrel
            clear HR
            obtain ⟨hxy, t, hT⟩ := HR2.out
            have HT := Lib.hid hT
            have HXY2 := Lib.hid hxy
            obtain ⟨m, hm⟩ : ∃ m, m = p + d := ⟨_, rfl⟩
            have e3 : (p : Int) + (d : Int) = (m : Int) := by omega
            have HM := Lib.hid hm
            clear hT HR2 hxy hm
            by_cases hlt3 : y2 ≤ n
            · go_wp2_with fail
              (with_reducible refine ((symI_all g cb key eg n).on b off cap n L t p m y2 _ HT.out.1 (HCM.out.chg HT.out.2.1) hlt3 hn (by
                have e := HM.out
                have e' := HXY2.out
                have e'' := HD.out
                subst e
                exact HT.out.2.2.pre (by omega) (by omega) (by omega) hlt3) (by omega)).mono ?_)
              rintro e w1 ⟨rfl, u, q1, q2, q3, q4⟩
              have HU : Hid (IAt w1 b off n L u ∧ Chg w w1 (fun k => k = b) ∧ Srt.LevI key u d y2 n) := Lib.hid ⟨q1, HT.out.2.1.trans q2 (fun _ _ h => h), by
                have e' := HXY2.out
                have e'' := HD.out
                subst e''
                subst e'
                exact HT.out.2.2.next hlt3 q3 q4⟩
              obtain ⟨y3, hy3⟩ : ∃ y3, y3 = y2 + d2 := ⟨_, rfl⟩
              have e4 : (y2 : Int) + (d2 : Int) = (y3 : Int) := by omega
              have HY3 := Lib.hid hy3
              clear q1 q2 q3 q4 hy3
              go_wp2_with fail
              refine ⟨⟨y2, y3, by omega, by have := HY3.out; omega, rfl, rfl, Lib.hid ⟨HY3.out, u, HU.out.1, HU.out.2.1, HU.out.2.2⟩⟩, ?_⟩
              have := HXY2.out
              simp [intOf]; omega
            · by_cases hlt4 : m < n
              · go_wp2_with fail
                (with_reducible refine ((symI_all g cb key eg n).on b off cap n L t p m n _ HT.out.1 (HCM.out.chg HT.out.2.1) (Nat.le_refl _) hn (by
                  have e := HM.out
                  have e' := HXY2.out
                  have e'' := HD.out
                  subst e
                  exact HT.out.2.2.pre (by omega) hlt4 (by omega) (Nat.le_refl _)) (by omega)).mono ?_)
                rintro e w1 ⟨rfl, u, q1, q2, q3, q4⟩
                have HU : Hid (IAt w1 b off n L u ∧ Chg w w1 (fun k => k = b) ∧ Srt.Lev key u d2 n) := Lib.hid ⟨q1, HT.out.2.1.trans q2 (fun _ _ h => h), by
                  have e' := HXY2.out
                  have e'' := HD.out
                  subst e''
                  exact HT.out.2.2.last (by omega) q3 q4⟩
                clear q1 q2 q3 q4
                go_wp2_with fail
                exact ⟨⟨d2, by omega, by omega, rfl, Lib.hid ⟨u, HU.out.1, HU.out.2.1, HU.out.2.2⟩⟩, by simp [intOf]; omega⟩
              · have HU : Hid (Srt.Lev key t d2 n) := Lib.hid (by
                  have e' := HXY2.out
                  have e'' := HD.out
                  have e := HM.out
                  subst e''
                  exact HT.out.2.2.last (by omega) (Srt.Into.refl _ _ _) (HT.out.2.2.single (by omega)))
                go_wp2_with fail
                exact ⟨⟨d2, by omega, by omega, rfl, Lib.hid ⟨t, HT.out.1, HT.out.2.1, HU.out⟩⟩, by simp [intOf]; omega⟩
        · obtain ⟨t, h1, h2, h3⟩ := HR.out
          have HF := Lib.hid (And.intro h1 (And.intro h2 h3))
          clear h1 h2 h3 HR
          go_wp2_with fail
          go_end0
          exact ⟨rfl, t, HF.out.1, HF.out.2.1, HF.out.2.2.all, HF.out.2.2.sorted (by omega)⟩
theorem stabI_any (g : Nat) (cb : Array Value) (key : Nat → Nat) (eg : ∀ args w, (callFunc g args).run Tryz.prog w = .ok (.enter g args) w) (b off cap n : Nat) (L : List Int) (w : World) (h : IAt w b off n L (fun i => i)) (hcm : CmpOk g cb b n L key w) (hn : n ≤ 1000000) :
    Calls Tryz.prog 139 #[.slice (some ⟨b, off, none⟩) n cap, .func (.func g) #[] cb] w (SriPostW key w b off n L) := by
  have HS0 := Lib.hid (staCI_any g cb key eg b off cap n L w h hcm hn)
  clear h hcm
  go_enter Tryz.func139, Tryz.ntmps139
  go_wp2_with fail
  refine HS0.out.mono ?_
  rintro e w1 ⟨rfl, H⟩
  go_wp2_with fail
  go_end0
  exact ⟨rfl, H⟩
end Go.Proofs.YtonilojjahfboaaGreat
