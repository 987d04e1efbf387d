/- Layer 19: small. Conditions: the contract's own premises. -/
import Derived.Test.YtaanohgkdpohhaaPb1
namespace Go.Proofs.Ytaanohgkdpohhaa
open Go.RowKit Go.Maps

open Classical in
noncomputable def smallB (VL : List Vr) (EL : List Er) : Bool := decide (VL.length ≤ 20 ∧ EL.length ≤ 60 ∧ (∀ x ∈ VL, x.v.ps.length ≤ 20 ∧ x.v.label.size ≤ 100) ∧ ∀ x ∈ EL, x.e.ps.length ≤ 20 ∧ x.e.label.size ≤ 100)
set_option maxRecDepth 100000 in
set_option maxHeartbeats 4000000 in
theorem small19_any (va ea : Option Addr) (vc ec : Nat) (VL : List Vr) (EL : List Er) (w : World) (hv : kVr.V w va VL) (he : kEr.V w ea EL) :
    Calls Try.prog 53 #[.agg #[.slice va VL.length vc, .slice ea EL.length ec]] w fun e w' => e = .returned (.bool (smallB VL EL)) ∧ Below w.heap.size w w' := by
  obtain ⟨nv, hnv⟩ : ∃ n, n = VL.length := ⟨_, rfl⟩
  obtain ⟨ne, hne⟩ : ∃ n, n = EL.length := ⟨_, rfl⟩
  have HNV := Lib.hid hnv
  have HNE := Lib.hid hne
  rw [← hnv, ← hne]
  clear hnv hne
  obtain ⟨pb, hpb⟩ : ∃ pb, pb = w.heap.size := ⟨_, rfl⟩
  obtain ⟨W, hW⟩ : ∃ W, W = w.alloc (.cells #[.slice va nv vc, .slice ea ne ec] 105) := ⟨_, rfl⟩
  have HW := Lib.hid hW.symm
  have HWB : Hid (W.heap[pb]? = some (.cells #[.slice va nv vc, .slice ea ne ec] 105 (0, 0))) := Lib.hid (by rw [hW, hpb]; exact heap_new _ _)
  have HBW : Hid (Below w.heap.size w W) := Lib.hid (by rw [hW]; exact below_box _ _)
  have HPB := Lib.hid hpb
  have HV := Lib.hid (hv.below HBW.out)
  have HE := Lib.hid (he.below HBW.out)
  clear hW hv he
  have b0 := cell_of_blk HWB.out 0
  have b1 := cell_of_blk HWB.out 1
  simp at b0 b1
  have hz : pb < W.heap.size := (Array.getElem?_eq_some_iff.1 HWB.out).1
  have no : ∀ h : ¬ (VL.length ≤ 20 ∧ EL.length ≤ 60 ∧ (∀ x ∈ VL, x.v.ps.length ≤ 20 ∧ x.v.label.size ≤ 100) ∧ ∀ x ∈ EL, x.e.ps.length ≤ 20 ∧ x.e.label.size ≤ 100), smallB VL EL = false := fun h => decide_eq_false h
  have NO := Lib.hid no
  clear no
  go_enter Try.func53, Try.ntmps53
  go_upto_region 1 with fail
  rw [HW.out, ← HPB.out]
  clear hpb
  by_cases h1 : 20 < nv
  · have t1 : decide ((20 : Int) < (nv : Int)) = true := decide_eq_true (by omega)
    have HF := Lib.hid (NO.out (fun h => by have := h.1; have := HNV.out; omega))
    go_wp2_with fail
    go_ret
    exact ⟨by rw [HF.out]; rfl, HBW.out⟩
  have t1 : decide ((20 : Int) < (nv : Int)) = false := decide_eq_false (by omega)
  by_cases h2 : 60 < ne
  · have t2 : decide ((60 : Int) < (ne : Int)) = true := decide_eq_true (by omega)
    have HF := Lib.hid (NO.out (fun h => by have := h.2.1; have := HNE.out; omega))
    go_wp2_with fail
    go_ret
    exact ⟨by rw [HF.out]; rfl, HBW.out⟩
  have t2 : decide ((60 : Int) < (ne : Int)) = false := decide_eq_false (by omega)
  go_wp2_with fail
  clear t1 t2

  go_loopw [3] (fun i wr => ∃ j : Nat, i = .int .i64 (j : Int) ∧ W = wr ∧ j ≤ nv ∧ Hid (∀ j' x, j' < j → VL[j']? = some x → x.v.ps.length ≤ 20 ∧ x.v.label.size ≤ 100)) (fun i _ => nv - (intOf i).toNat)
  case atStart => exact ⟨0, rfl, rfl, Nat.zero_le _, Lib.hid (fun _ _ h => absurd h (Nat.not_lt_zero _))⟩
  case round =>
    obtain ⟨j, rfl, rfl, hj, HOK⟩ := hrel
    by_cases hlt : j < nv
    · obtain ⟨x, hx⟩ : ∃ x, VL[j]? = some x := ⟨_, List.getElem?_eq_getElem (by have := HNV.out; omega)⟩
      obtain ⟨b, off, rfl, hat⟩ := HV.out (fun e => by rw [e] at hx; simp at hx)
      have c1 := hat.cells j x hx 1 _ rfl
      have c2 := hat.cells j x hx 2 _ rfl
      simp [kVr] at c1 c2
      have hbl := hat.lt
      have HX := Lib.hid hx
      clear hx hat
      by_cases h3 : 20 < x.v.ps.length
      · have t3 : decide ((20 : Int) < (x.v.ps.length : Int)) = true := decide_eq_true (by omega)
        have HF := Lib.hid (NO.out (fun h => by have := (h.2.2.1 x (List.mem_of_getElem? HX.out)).1; omega))
        go_wp2_with fail
        go_ret
        exact ⟨by rw [HF.out]; rfl, HBW.out⟩
      have t3 : decide ((20 : Int) < (x.v.ps.length : Int)) = false := decide_eq_false (by omega)
      by_cases h4 : 100 < x.v.label.size
      · have t4 : decide ((100 : Int) < (x.v.label.size : Int)) = true := decide_eq_true (by omega)
        have HF := Lib.hid (NO.out (fun h => by have := (h.2.2.1 x (List.mem_of_getElem? HX.out)).2; omega))
        go_wp2_with fail
        go_ret
        exact ⟨by rw [HF.out]; rfl, HBW.out⟩
      have t4 : decide ((100 : Int) < (x.v.label.size : Int)) = false := decide_eq_false (by omega)
      have HH : Hid (x.v.ps.length ≤ 20 ∧ x.v.label.size ≤ 100) := Lib.hid ⟨by omega, by omega⟩
      clear h3 h4
      go_wp2_with fail
      refine ⟨⟨j + 1, by simp, by first | rfl | trivial, hlt, Lib.hid (fun j' y hj' hy => ?_)⟩, by simp [intOf]; omega⟩
      by_cases e : j' < j
      · exact HOK.out j' y e hy
      · obtain rfl : j' = j := by omega
        rw [HX.out] at hy
        injection hy with hy
        subst hy
        exact HH.out
    · have HALLv : Hid (∀ x ∈ VL, x.v.ps.length ≤ 20 ∧ x.v.label.size ≤ 100) := Lib.hid (fun x hx => by
        obtain ⟨i, hi, e⟩ := List.getElem_of_mem hx
        exact HOK.out i x (by have := HNV.out; omega) (by rw [List.getElem?_eq_getElem hi, e]))
      have tj : decide ((j : Int) < (nv : Int)) = false := decide_eq_false (by omega)

      go_wp2_with fail
      clear tj hlt hj HOK
      go_loopw [4] (fun i wr => ∃ j : Nat, i = .int .i64 (j : Int) ∧ W = wr ∧ j ≤ ne ∧ Hid (∀ j' x, j' < j → EL[j']? = some x → x.e.ps.length ≤ 20 ∧ x.e.label.size ≤ 100)) (fun i _ => ne - (intOf i).toNat)
      case atStart => exact ⟨0, rfl, rfl, Nat.zero_le _, Lib.hid (fun _ _ h => absurd h (Nat.not_lt_zero _))⟩
      case round =>
        obtain ⟨j, rfl, rfl, hj, HOK⟩ := hrel
        by_cases hlt : j < ne
        · obtain ⟨x, hx⟩ : ∃ x, EL[j]? = some x := ⟨_, List.getElem?_eq_getElem (by have := HNE.out; omega)⟩
          obtain ⟨b, off, rfl, hat⟩ := HE.out (fun e => by rw [e] at hx; simp at hx)
          have c1 := hat.cells j x hx 1 _ rfl
          have c2 := hat.cells j x hx 4 _ rfl
          simp [kEr] at c1 c2
          have hbl := hat.lt
          have HX := Lib.hid hx
          clear hx hat
          by_cases h3 : 20 < x.e.ps.length
          · have t3 : decide ((20 : Int) < (x.e.ps.length : Int)) = true := decide_eq_true (by omega)
            have HF := Lib.hid (NO.out (fun h => by have := (h.2.2.2 x (List.mem_of_getElem? HX.out)).1; omega))
            go_wp2_with fail
            go_ret
            exact ⟨by rw [HF.out]; rfl, HBW.out⟩
          have t3 : decide ((20 : Int) < (x.e.ps.length : Int)) = false := decide_eq_false (by omega)
          by_cases h4 : 100 < x.e.label.size
          · have t4 : decide ((100 : Int) < (x.e.label.size : Int)) = true := decide_eq_true (by omega)
            have HF := Lib.hid (NO.out (fun h => by have := (h.2.2.2 x (List.mem_of_getElem? HX.out)).2; omega))
            go_wp2_with fail
            go_ret
            exact ⟨by rw [HF.out]; rfl, HBW.out⟩
          have t4 : decide ((100 : Int) < (x.e.label.size : Int)) = false := decide_eq_false (by omega)
          have HH : Hid (x.e.ps.length ≤ 20 ∧ x.e.label.size ≤ 100) := Lib.hid ⟨by omega, by omega⟩
          clear h3 h4
          go_wp2_with fail
          refine ⟨⟨j + 1, by simp, by first | rfl | trivial, hlt, Lib.hid (fun j' y hj' hy => ?_)⟩, by simp [intOf]; omega⟩
          by_cases e : j' < j
          · exact HOK.out j' y e hy
          · obtain rfl : j' = j := by omega
            rw [HX.out] at hy
            injection hy with hy
            subst hy
            exact HH.out
        · have HALLe : Hid (∀ x ∈ EL, x.e.ps.length ≤ 20 ∧ x.e.label.size ≤ 100) := Lib.hid (fun x hx => by
            obtain ⟨i, hi, e⟩ := List.getElem_of_mem hx
            exact HOK.out i x (by have := HNE.out; omega) (by rw [List.getElem?_eq_getElem hi, e]))
          have tj : decide ((j : Int) < (ne : Int)) = false := decide_eq_false (by omega)

          have HF : Hid (smallB VL EL = true) := Lib.hid (decide_eq_true ⟨by have := HNV.out; omega, by have := HNE.out; omega, HALLv.out, HALLe.out⟩)
          go_wp2_with fail
          go_ret
          exact ⟨by rw [HF.out]; rfl, HBW.out⟩
end Go.Proofs.Ytaanohgkdpohhaa
