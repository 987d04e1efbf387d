/- Reference 16: places of vertices and edges. Conditions: each contract's own premises. -/
import Derived.Test.YtaanohgkdpohhaaRg1
namespace Go.Proofs.Ytaanohgkdpohhaa
open Go.RowKit Go.Maps

set_option maxRecDepth 100000 in
set_option maxHeartbeats 2000000 in
theorem r16V_any {w : World} {rb B : Nat} {VL : List Vr} {EL : List Er} (h : RgL w rb B VL EL) (hl : VL.length ≤ 1000000) (n : Int) :
    Calls Try.prog 62 #[.pointer (some ⟨rb, 0, none⟩), .int .i64 n] w fun e w' => w = w' ∧ ∃ r, e = .returned (.int .i64 r) ∧ AtB (fun x : Vr => x.v.id) VL n r := by
  obtain ⟨m, hm⟩ : ∃ m, m = VL.length := ⟨_, rfl⟩
  have HR : Hid (∃ a c, w.cell? ⟨rb, 0, none⟩ = some (.slice a m c) ∧ (VL ≠ [] → ∃ b, a = some ⟨b, 0, none⟩ ∧ kVr.At w b 0 VL)) := Lib.hid (by
    obtain ⟨⟨va, vc, ea, ec, h1, h2, h3⟩, _, _, _⟩ := h
    refine ⟨_, _, by rw [cell_of_blk h1, hm]; rfl, fun hne => ?_⟩
    obtain ⟨b, cp, e, _, _, hat⟩ := h2.at' hne
    injection e with e1 e2 e3
    exact ⟨b, e1, hat⟩)
  have HZ : Hid (rb < w.heap.size) := Lib.hid h.size
  have HM := Lib.hid hm
  have HL : Hid (m ≤ 1000000) := Lib.hid (by rw [hm]; exact hl)
  clear h hl hm
  obtain ⟨a, c, c0, hat0⟩ := HR.out
  have HAT := Lib.hid hat0
  clear hat0 HR
  have hzz := HZ.out
  go_enter Try.func62, Try.ntmps62
  go_wp2_with fail
  go_loopw [5] (fun i wr => ∃ j : Nat, i = .int .i64 j ∧ wr = w ∧ j ≤ m ∧ Hid (∀ j' x, j' < j → VL[j']? = some x → ((fun x : Vr => x.v.id) x) ≠ n)) (fun i _ => m - (intOf i).toNat)
  case atStart => exact ⟨0, rfl, rfl, Nat.zero_le _, Lib.hid (fun _ _ h => absurd h (Nat.not_lt_zero _))⟩
  case round =>
    obtain ⟨j, rfl, rfl, hj, HNO⟩ := hrel
    have hml := HL.out
    by_cases hlt : j < m
    · have hne : VL ≠ [] := fun e => by have := HM.out; rw [e] at this; simp at this; omega
      obtain ⟨b, rfl, hat⟩ := HAT.out hne
      obtain ⟨x, hx⟩ : ∃ x, VL[j]? = some x := ⟨_, List.getElem?_eq_getElem (by have := HM.out; omega)⟩
      have k0 := hat.cells j x hx 0 _ rfl
      simp [kVr] at k0
      have hbl := hat.lt
      have HX := Lib.hid hx
      clear hat hx hne
      by_cases he : x.v.id = n
      · have HE := Lib.hid he
        go_wp2_with fail
        go_ret
        exact ⟨by trivial, _, rfl, .inr ⟨j, x, rfl, HX.out, HE.out⟩⟩
      · have HE := Lib.hid he
        go_wp2_with fail
        refine ⟨⟨j + 1, by simp, trivial, hlt, Lib.hid (fun j' y hj' hy => ?_)⟩, by simp [intOf]; omega⟩
        by_cases e : j' < j
        · exact HNO.out j' y e hy
        · obtain rfl : j' = j := by omega
          rw [HX.out] at hy
          injection hy with hy
          subst hy
          exact HE.out
    · obtain rfl : j = m := by omega
      go_wp2_with fail
      go_ret
      refine ⟨by trivial, _, rfl, .inl ⟨rfl, fun x hx => ?_⟩⟩
      obtain ⟨i, hi, e⟩ := List.getElem_of_mem hx
      exact HNO.out i x (by rw [HM.out]; exact hi) (by rw [List.getElem?_eq_getElem hi, e])

set_option maxRecDepth 100000 in
set_option maxHeartbeats 2000000 in
theorem r16E_any {w : World} {rb B : Nat} {VL : List Vr} {EL : List Er} (h : RgL w rb B VL EL) (hl : EL.length ≤ 1000000) (n : Int) :
    Calls Try.prog 192 #[.pointer (some ⟨rb, 0, none⟩), .int .i64 n] w fun e w' => w = w' ∧ ∃ r, e = .returned (.int .i64 r) ∧ AtB (fun x : Er => x.e.id) EL n r := by
  obtain ⟨m, hm⟩ : ∃ m, m = EL.length := ⟨_, rfl⟩
  have HR : Hid (∃ a c, w.cell? ⟨rb, 1, none⟩ = some (.slice a m c) ∧ (EL ≠ [] → ∃ b, a = some ⟨b, 0, none⟩ ∧ kEr.At w b 0 EL)) := Lib.hid (by
    obtain ⟨⟨va, vc, ea, ec, h1, h2, h3⟩, _, _, _⟩ := h
    refine ⟨_, _, by rw [cell_of_blk h1, hm]; rfl, fun hne => ?_⟩
    obtain ⟨b, cp, e, _, _, hat⟩ := h3.at' hne
    injection e with e1 e2 e3
    exact ⟨b, e1, hat⟩)
  have HZ : Hid (rb < w.heap.size) := Lib.hid h.size
  have HM := Lib.hid hm
  have HL : Hid (m ≤ 1000000) := Lib.hid (by rw [hm]; exact hl)
  clear h hl hm
  obtain ⟨a, c, c0, hat0⟩ := HR.out
  have HAT := Lib.hid hat0
  clear hat0 HR
  have hzz := HZ.out
  go_enter Try.func192, Try.ntmps192
  go_wp2_with fail
  go_loopw [5] (fun i wr => ∃ j : Nat, i = .int .i64 j ∧ wr = w ∧ j ≤ m ∧ Hid (∀ j' x, j' < j → EL[j']? = some x → ((fun x : Er => x.e.id) x) ≠ n)) (fun i _ => m - (intOf i).toNat)
  case atStart => exact ⟨0, rfl, rfl, Nat.zero_le _, Lib.hid (fun _ _ h => absurd h (Nat.not_lt_zero _))⟩
  case round =>
    obtain ⟨j, rfl, rfl, hj, HNO⟩ := hrel
    have hml := HL.out
    by_cases hlt : j < m
    · have hne : EL ≠ [] := fun e => by have := HM.out; rw [e] at this; simp at this; omega
      obtain ⟨b, rfl, hat⟩ := HAT.out hne
      obtain ⟨x, hx⟩ : ∃ x, EL[j]? = some x := ⟨_, List.getElem?_eq_getElem (by have := HM.out; omega)⟩
      have k0 := hat.cells j x hx 0 _ rfl
      simp [kEr] at k0
      have hbl := hat.lt
      have HX := Lib.hid hx
      clear hat hx hne
      by_cases he : x.e.id = n
      · have HE := Lib.hid he
        go_wp2_with fail
        go_ret
        exact ⟨by trivial, _, rfl, .inr ⟨j, x, rfl, HX.out, HE.out⟩⟩
      · have HE := Lib.hid he
        go_wp2_with fail
        refine ⟨⟨j + 1, by simp, trivial, hlt, Lib.hid (fun j' y hj' hy => ?_)⟩, by simp [intOf]; omega⟩
        by_cases e : j' < j
        · exact HNO.out j' y e hy
        · obtain rfl : j' = j := by omega
          rw [HX.out] at hy
          injection hy with hy
          subst hy
          exact HE.out
    · obtain rfl : j = m := by omega
      go_wp2_with fail
      go_ret
      refine ⟨by trivial, _, rfl, .inl ⟨rfl, fun x hx => ?_⟩⟩
      obtain ⟨i, hi, e⟩ := List.getElem_of_mem hx
      exact HNO.out i x (by rw [HM.out]; exact hi) (by rw [List.getElem?_eq_getElem hi, e])

end Go.Proofs.Ytaanohgkdpohhaa
