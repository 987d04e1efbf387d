/- same (layer 5): are two lists of handles one? Conditions: each contract's own premises. -/
import Derived.Test.YtfkckdfldalceaaArenaMany
namespace Go.Proofs.Ytfkckdfldalceaa
open Go.RowKit Go.Maps

/-- handles behind a slice's address, none where there are none -/
structure HsV (w : World) (a : Option Addr) (l : List (Int × Int)) : Prop where
  i64 : ∀ p ∈ l, I64 p.1 ∧ I64 p.2
  at' : 0 < l.length → ∃ b off, a = some ⟨b, off, none⟩ ∧ HsAt w b off l

theorem RowH.view {w wr : World} {a : Option Addr} {n cap : Nat} {l : List (Int × Int)} (h : RowH w wr (.slice a n cap) l) : HsV wr a l ∧ n = l.length := by
  refine ⟨⟨h.i64, fun hl => ?_⟩, ?_⟩
  · obtain ⟨g, c, e⟩ := h.shape_pos hl
    cases e
    exact ⟨g, 0, rfl, h.at⟩
  · obtain ⟨_, _, e⟩ := h.shape
    cases e; rfl
theorem HsV.below {w wr : World} {a : Option Addr} {l : List (Int × Int)} (h : HsV w a l) (hb : Below w.heap.size w wr) : HsV wr a l :=
  ⟨h.i64, fun hl => by obtain ⟨b, off, e, ha⟩ := h.at' hl; exact ⟨b, off, e, ha.of_below hb ha.lt⟩⟩
theorem HsV.nil (w : World) (a : Option Addr) : HsV w a [] := ⟨by simp, fun h => absurd h (by simp)⟩

def SameRel (w : World) (l m : List (Int × Int)) (i : Value) (wr : World) : Prop :=
  ∃ j : Nat, j ≤ l.length ∧ i = .int .i64 j ∧ Below w.heap.size w wr ∧ l.take j = m.take j

theorem take_snoc_eq {α : Type} {l m : List α} {j : Nat} {p : α} (h : l.take j = m.take j) (h1 : l[j]? = some p) (h2 : m[j]? = some p) : l.take (j + 1) = m.take (j + 1) := by
  obtain ⟨a1, b1⟩ := List.getElem?_eq_some_iff.1 h1
  obtain ⟨a2, b2⟩ := List.getElem?_eq_some_iff.1 h2
  rw [List.take_succ_eq_append_getElem a1, List.take_succ_eq_append_getElem a2, h, b1, b2]

set_option maxRecDepth 100000 in
set_option maxHeartbeats 400000 in
theorem same5_any (a1 a2 : Option Addr) (c1 c2 : Nat) (l m : List (Int × Int)) (w : World) (h1 : HsV w a1 l) (h2 : HsV w a2 m) (hl : l.length ≤ 1073741824) (hm : m.length ≤ 1073741824) :
    Calls Try.prog 22 #[.slice a1 l.length c1, .slice a2 m.length c2] w fun e w' => e = .returned (.bool (l == m)) ∧ Below w.heap.size w w' := by
  by_cases hlen : l.length = m.length
  · have hneq : ((l.length : Int) != (m.length : Int)) = false := by rw [hlen]; simp
    go_enter Try.func22, Try.ntmps22
    go_wp2_with fail
    go_loopw [5] (fun i wr => SameRel w l m i wr) (fun i _ => l.length - (intOf i).toNat)
    case atStart => exact ⟨0, Nat.zero_le _, rfl, Below.refl _ _, rfl⟩
    case round =>
      obtain ⟨j, hj, rfl, hbw, hpre⟩ := hrel
      have PRE := Lib.hid hpre
      have HLEN := Lib.hid hlen
      clear hpre
      by_cases hjl : j < l.length
      · obtain ⟨b, off, rfl, ha⟩ := h1.at' (by omega)
        obtain ⟨b2, off2, rfl, ha2⟩ := h2.at' (by omega)
        obtain ⟨x, g, he⟩ : ∃ x g, l[j]? = some (x, g) := ⟨_, _, List.getElem?_eq_getElem hjl⟩
        obtain ⟨y, k, he2⟩ : ∃ y k, m[j]? = some (y, k) := ⟨_, _, List.getElem?_eq_getElem (by omega)⟩
        obtain ⟨q0, q1⟩ := (ha.of_below hbw ha.lt).cells j x g he
        obtain ⟨q2, q3⟩ := (ha2.of_below hbw ha2.lt).cells j y k he2
        have HE := Lib.hid he
        have HE2 := Lib.hid he2
        have hj0 : (0 : Int) ≤ (j : Int) := by omega
        have hj1 : (j : Int) < (l.length : Int) := by omega
        have hj2 : (j : Int) < (m.length : Int) := by omega
        clear he he2 hlen
        by_cases hxy : x = y ∧ g = k
        · obtain ⟨rfl, rfl⟩ := hxy
          go_wp2_with fail
          go_quiet (fail)
          go_wp2_with fail
          exact ⟨⟨j + 1, by omega, by simp, below_drewN hbw _, take_snoc_eq PRE.out HE.out HE2.out⟩, by simp [intOf]; omega⟩
        · have hlm : (l == m) = false := by
            rw [beq_eq_false_iff_ne]; rintro rfl
            have := HE.out.symm.trans HE2.out
            simp at this; exact hxy this
          have HLM := Lib.hid hlm
          clear hlm
          by_cases hx : x = y
          · subst hx
            have hg : (g == k) = false := by rw [beq_eq_false_iff_ne]; exact fun e => hxy ⟨rfl, e⟩
            clear hxy
            go_wp2_with fail
            go_quiet (fail)
            go_wp2_with fail
            go_ret
            exact ⟨by rw [HLM.out]; rfl, below_drewN hbw _⟩
          · have hx' : (x == y) = false := by rw [beq_eq_false_iff_ne]; exact hx
            clear hxy hx
            go_wp2_with fail
            go_quiet (fail)
            go_wp2_with fail
            go_ret
            exact ⟨by rw [HLM.out]; rfl, below_drewN hbw _⟩
      · go_wp2_with fail
        go_ret
        have e : l = m := by
          have := PRE.out
          rwa [List.take_of_length_le (by omega), List.take_of_length_le (by omega)] at this
        exact ⟨by rw [e]; simp, hbw⟩
  · have hneq : ((l.length : Int) != (m.length : Int)) = true := by simp; omega
    go_enter Try.func22, Try.ntmps22
    go_wp2_with fail
    go_ret
    have e : (l == m) = false := by rw [beq_eq_false_iff_ne]; rintro rfl; exact hlen rfl
    exact ⟨by rw [e]; rfl, Below.refl _ _⟩
end Go.Proofs.Ytfkckdfldalceaa
