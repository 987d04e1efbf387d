/- References 03 Same, 16 SameV, SameE of rows that say the same. Conditions: each contract's own premises. -/
import Derived.Test.YtonilojjahfboaaGreatRgA
import Derived.Test.YtonilojjahfboaaGreatGi2
import Derived.BigQuiet
namespace Go.Proofs.YtonilojjahfboaaGreat
open Go.RowKit Go.Maps

set_option maxRecDepth 100000 in
set_option maxHeartbeats 2000000 in
theorem samePs_any (a b : Option Addr) (ca cb : Nat) (x : List Pr) (w : World) (ha : PsV w a x) (hb : PsV w b x) (hx : x.length ≤ 100000) :
    Calls Tryz.prog 155 #[.slice a x.length ca, .slice b x.length cb] w fun e w' => e = .returned (.bool true) ∧ ∃ n, w' = w.drewN n := by
  have HA := Lib.hid ha
  have HB := Lib.hid hb
  obtain ⟨m, hm⟩ : ∃ m, m = x.length := ⟨_, rfl⟩
  have HM : Hid (m = x.length ∧ m ≤ 100000) := Lib.hid (by omega)
  have tm : ((m : Int) != (m : Int)) = false := by simp
  rw [← hm]
  clear ha hb hx hm
  go_enter Tryz.func155, Tryz.ntmps155
  go_wp2_with fail
  clear tm
  go_loopw [5] (fun i wr => ∃ j : Nat, i = .int .i64 (j : Int) ∧ j ≤ m ∧ ∃ n, wr = w.drewN n) (fun i _ => m - (intOf i).toNat)
  case atStart => exact ⟨0, rfl, Nat.zero_le _, 0, rfl⟩
  case round =>
    obtain ⟨j, rfl, hj, n, rfl⟩ := hrel
    have hm6 := HM.out.2
    by_cases hlt : j < m
    · obtain ⟨p, hp⟩ : ∃ p, x[j]? = some p := ⟨_, List.getElem?_eq_getElem (by have := HM.out.1; omega)⟩
      obtain ⟨b1, o1, rfl, at1⟩ := HA.out (fun e => by rw [e] at hp; simp at hp)
      obtain ⟨b2, o2, rfl, at2⟩ := HB.out (fun e => by rw [e] at hp; simp at hp)
      obtain ⟨p0, p1, p2, p3⟩ := at1.cells j p hp
      obtain ⟨q0, q1, q2, q3⟩ := at2.cells j p hp
      have l1 := at1.lt
      have l2 := at2.lt
      clear at1 at2 hp
      go_wp2_with fail
      go_quiet (fail)
      go_wp2_with fail
      exact ⟨⟨j + 1, by simp, hlt, _, rfl⟩, by simp [intOf]; omega⟩
    · have tj : decide ((j : Int) < (m : Int)) = false := decide_eq_false (by omega)
      go_wp2_with fail
      go_ret
      exact ⟨rfl, _, rfl⟩
set_option maxRecDepth 100000 in
set_option maxHeartbeats 4000000 in
/-- reference SameV of two rows that say the same -/
theorem sameV_any (a b : Option Addr) (ca cb : Nat) (L1 L2 : List Vr) (w : World) (hv1 : kVr.V w a L1) (hv2 : kVr.V w b L2) (h1 : ∀ x ∈ L1, PsA w x.a x.c x.v.ps ∧ x.v.ps.length ≤ 100000) (h2 : ∀ x ∈ L2, PsA w x.a x.c x.v.ps) (he : L1.map Vr.v = L2.map Vr.v) (hl : L1.length ≤ 1000000) :
    Calls Tryz.prog 76 #[.slice a L1.length ca, .slice b L2.length cb] w fun e w' => e = .returned (.bool true) ∧ ∃ n, w' = w.drewN n := by
  have hle : L2.length = L1.length := by have := congrArg List.length he; simpa using this.symm
  rw [hle]
  obtain ⟨m, hm⟩ : ∃ m, m = L1.length := ⟨_, rfl⟩
  have HM : Hid (m = L1.length ∧ m = L2.length ∧ m ≤ 1000000) := Lib.hid (by omega)
  have HE : Hid (∀ (j : Nat) (x y : Vr), L1[j]? = some x → L2[j]? = some y → x.v = y.v) := Lib.hid (fun j x y hx hy => by
    have h := congrArg (fun l => l[j]?) he
    simp only [List.getElem?_map, hx, hy, Option.map_some, Option.some.injEq] at h
    exact h)
  have H1 := Lib.hid hv1
  have H2 := Lib.hid hv2
  have P1 := Lib.hid h1
  have P2 := Lib.hid h2
  rw [← hm]
  have tm : ((m : Int) != (m : Int)) = false := by simp
  clear hle hm he hl hv1 hv2 h1 h2
  go_enter Tryz.func76, Tryz.ntmps76
  go_wp2_with fail
  clear tm
  go_loopw [5] (fun i wr => ∃ j : Nat, i = .int .i64 (j : Int) ∧ j ≤ m ∧ ∃ n, wr = w.drewN n) (fun i _ => m - (intOf i).toNat)
  case atStart => exact ⟨0, rfl, Nat.zero_le _, 0, rfl⟩
  case round =>
    obtain ⟨j, rfl, hj, n, rfl⟩ := hrel
    have hm6 := HM.out.2.2
    by_cases hlt : j < m
    · obtain ⟨x, hx⟩ : ∃ x, L1[j]? = some x := ⟨_, List.getElem?_eq_getElem (by have := HM.out.1; omega)⟩
      obtain ⟨y, hy⟩ : ∃ y, L2[j]? = some y := ⟨_, List.getElem?_eq_getElem (by have := HM.out.2.1; omega)⟩
      obtain ⟨b1, o1, rfl, hat1⟩ := H1.out (fun e => by rw [e] at hx; simp at hx)
      obtain ⟨b2, o2, rfl, hat2⟩ := H2.out (fun e => by rw [e] at hy; simp at hy)
      have hxy := HE.out j x y hx hy
      have a0 := hat1.cells j x hx 0 _ rfl
      have b0 := hat2.cells j y hy 0 _ rfl
      have a1 := hat1.cells j x hx 1 _ rfl
      have b1 := hat2.cells j y hy 1 _ rfl
      have a2 := hat1.cells j x hx 2 _ rfl
      have b2 := hat2.cells j y hy 2 _ rfl
      have z1 := hat1.lt
      have z2 := hat2.lt
      have q : ∀ k, Calls Tryz.prog 155 #[.slice x.a x.v.ps.length x.c, .slice y.a x.v.ps.length y.c] (w.drewN (n + k)) fun e w' => e = .returned (.bool true) ∧ ∃ i, w' = w.drewN (n + i) := fun k => by
        have p1 := P1.out x (List.mem_of_getElem? hx)
        have p2 := P2.out y (List.mem_of_getElem? hy)
        refine (samePs_any x.a y.a x.c y.c x.v.ps (w.drewN (n + k)) (p1.1.below (below_drewN' (Below.refl _ _) _)).v ((by rw [hxy]; exact (p2.below (below_drewN' (Below.refl _ _) _)).v)) p1.2).mono ?_
        rintro e w' ⟨rfl, i, rfl⟩
        exact ⟨rfl, k + i, by rw [World.drewN_drewN, Nat.add_assoc]⟩
      have Q := Lib.hid q
      simp [kVr] at a0 b0 a1 b1 a2 b2
      rw [← hxy] at b0 b1 b2
      have t0 : (x.v.id != x.v.id) = false := by simp
      have t1 : (x.v.label.toList == x.v.label.toList) = true := by simp
      clear hx hy hxy hat1 hat2 q
      go_wp2_with fail
      go_quiet ((go_at_call 155; exact Q.out _))
      go_wp2_with fail
      exact ⟨⟨j + 1, by simp, hlt, _, rfl⟩, by simp [intOf]; omega⟩
    · have tj : decide ((j : Int) < (m : Int)) = false := decide_eq_false (by omega)
      go_wp2_with fail
      go_ret
      exact ⟨rfl, _, rfl⟩
set_option maxRecDepth 100000 in
set_option maxHeartbeats 4000000 in
/-- reference SameE of two rows that say the same -/
theorem sameE_any (a b : Option Addr) (ca cb : Nat) (L1 L2 : List Er) (w : World) (hv1 : kEr.V w a L1) (hv2 : kEr.V w b L2) (h1 : ∀ x ∈ L1, PsA w x.a x.c x.e.ps ∧ x.e.ps.length ≤ 100000) (h2 : ∀ x ∈ L2, PsA w x.a x.c x.e.ps) (he : L1.map Er.e = L2.map Er.e) (hl : L1.length ≤ 1000000) :
    Calls Tryz.prog 77 #[.slice a L1.length ca, .slice b L2.length cb] w fun e w' => e = .returned (.bool true) ∧ ∃ n, w' = w.drewN n := by
  have hle : L2.length = L1.length := by have := congrArg List.length he; simpa using this.symm
  rw [hle]
  obtain ⟨m, hm⟩ : ∃ m, m = L1.length := ⟨_, rfl⟩
  have HM : Hid (m = L1.length ∧ m = L2.length ∧ m ≤ 1000000) := Lib.hid (by omega)
  have HE : Hid (∀ (j : Nat) (x y : Er), L1[j]? = some x → L2[j]? = some y → x.e = y.e) := Lib.hid (fun j x y hx hy => by
    have h := congrArg (fun l => l[j]?) he
    simp only [List.getElem?_map, hx, hy, Option.map_some, Option.some.injEq] at h
    exact h)
  have H1 := Lib.hid hv1
  have H2 := Lib.hid hv2
  have P1 := Lib.hid h1
  have P2 := Lib.hid h2
  rw [← hm]
  have tm : ((m : Int) != (m : Int)) = false := by simp
  clear hle hm he hl hv1 hv2 h1 h2
  go_enter Tryz.func77, Tryz.ntmps77
  go_wp2_with fail
  clear tm
  go_loopw [5] (fun i wr => ∃ j : Nat, i = .int .i64 (j : Int) ∧ j ≤ m ∧ ∃ n, wr = w.drewN n) (fun i _ => m - (intOf i).toNat)
  case atStart => exact ⟨0, rfl, Nat.zero_le _, 0, rfl⟩
  case round =>
    obtain ⟨j, rfl, hj, n, rfl⟩ := hrel
    have hm6 := HM.out.2.2
    by_cases hlt : j < m
    · obtain ⟨x, hx⟩ : ∃ x, L1[j]? = some x := ⟨_, List.getElem?_eq_getElem (by have := HM.out.1; omega)⟩
      obtain ⟨y, hy⟩ : ∃ y, L2[j]? = some y := ⟨_, List.getElem?_eq_getElem (by have := HM.out.2.1; omega)⟩
      obtain ⟨b1, o1, rfl, hat1⟩ := H1.out (fun e => by rw [e] at hx; simp at hx)
      obtain ⟨b2, o2, rfl, hat2⟩ := H2.out (fun e => by rw [e] at hy; simp at hy)
      have hxy := HE.out j x y hx hy
      have a0 := hat1.cells j x hx 0 _ rfl
      have b0 := hat2.cells j y hy 0 _ rfl
      have a1 := hat1.cells j x hx 1 _ rfl
      have b1 := hat2.cells j y hy 1 _ rfl
      have a2 := hat1.cells j x hx 2 _ rfl
      have b2 := hat2.cells j y hy 2 _ rfl
      have a3 := hat1.cells j x hx 3 _ rfl
      have b3 := hat2.cells j y hy 3 _ rfl
      have a4 := hat1.cells j x hx 4 _ rfl
      have b4 := hat2.cells j y hy 4 _ rfl
      have z1 := hat1.lt
      have z2 := hat2.lt
      have q : ∀ k, Calls Tryz.prog 155 #[.slice x.a x.e.ps.length x.c, .slice y.a x.e.ps.length y.c] (w.drewN (n + k)) fun e w' => e = .returned (.bool true) ∧ ∃ i, w' = w.drewN (n + i) := fun k => by
        have p1 := P1.out x (List.mem_of_getElem? hx)
        have p2 := P2.out y (List.mem_of_getElem? hy)
        refine (samePs_any x.a y.a x.c y.c x.e.ps (w.drewN (n + k)) (p1.1.below (below_drewN' (Below.refl _ _) _)).v ((by rw [hxy]; exact (p2.below (below_drewN' (Below.refl _ _) _)).v)) p1.2).mono ?_
        rintro e w' ⟨rfl, i, rfl⟩
        exact ⟨rfl, k + i, by rw [World.drewN_drewN, Nat.add_assoc]⟩
      have Q := Lib.hid q
      simp [kEr] at a0 b0 a1 b1 a2 b2 a3 b3 a4 b4
      rw [← hxy] at b0 b1 b2 b3 b4
      have t0 : (x.e.id != x.e.id) = false := by simp
      have t1 : (x.e.label.toList == x.e.label.toList) = true := by simp
      have t2 : (x.e.fr != x.e.fr) = false := by simp
      have t3 : (x.e.to != x.e.to) = false := by simp
      clear hx hy hxy hat1 hat2 q
      go_wp2_with fail
      go_quiet ((go_at_call 155; exact Q.out _))
      go_wp2_with fail
      exact ⟨⟨j + 1, by simp, hlt, _, rfl⟩, by simp [intOf]; omega⟩
    · have tj : decide ((j : Int) < (m : Int)) = false := decide_eq_false (by omega)
      go_wp2_with fail
      go_ret
      exact ⟨rfl, _, rfl⟩
end Go.Proofs.YtonilojjahfboaaGreat

