/- Reference 19: edge, less. Conditions: each contract's own premises. -/
import Derived.Test.YtaanohgkdpohhaaRgA
import Derived.Test.YtaanohgkdpohhaaPaA
import Derived.BigQuiet
namespace Go.Proofs.Ytaanohgkdpohhaa
open Go.RowKit Go.Maps

open Classical in
noncomputable def edD (E : List Eg) (lab : ByteArray) (a b : Int) : Bool := decide (edB E lab a b)
open Classical in
theorem edD_yes {E : List Eg} {lab : ByteArray} {a b : Int} (h : edB E lab a b) : edD E lab a b = true := decide_eq_true h
open Classical in
theorem edD_no {E : List Eg} {lab : ByteArray} {a b : Int} (h : ¬ edB E lab a b) : edD E lab a b = false := decide_eq_false h
set_option maxRecDepth 100000 in
set_option maxHeartbeats 4000000 in
theorem r19edge_any {w : World} {rb B : Nat} {VL : List Vr} {EL : List Er} (h : RgL w rb B VL EL) (hl : EL.length ≤ 1000000) (a b : Int) (lab : ByteArray) :
    Calls Try.prog 120 #[.pointer (some ⟨rb, 0, none⟩), .int .i64 a, .int .i64 b, .string lab] w fun e w' => e = .returned (.bool (edD (EL.map Er.e) lab a b)) ∧ Below w.heap.size w w' := by
  obtain ⟨m, hm⟩ : ∃ m, m = EL.length := ⟨_, rfl⟩
  have HR : Hid (∃ xa xc, ∀ u, Below w.heap.size w u → u.cell? ⟨rb, 1, none⟩ = some (.slice xa m xc) ∧ rb < u.heap.size ∧ kEr.Own u B (.slice xa m xc) EL) := Lib.hid (by
    obtain ⟨⟨va, vc, ea, ec, h1, h2, h3⟩, _, _, _⟩ := h
    refine ⟨ea, ec, fun u hu => ?_⟩
    have e9 := (hu.block _ (Array.getElem?_eq_some_iff.1 h1).1).trans h1
    rw [hm]
    exact ⟨by rw [cell_of_blk e9]; rfl, (Array.getElem?_eq_some_iff.1 e9).1, h3.below hu⟩)
  have HM : Hid (m = EL.length ∧ m ≤ 1000000) := Lib.hid ⟨hm, by omega⟩
  obtain ⟨r, hr⟩ : ∃ r, r = edD (EL.map Er.e) lab a b := ⟨_, rfl⟩
  have HY : Hid (∀ y ∈ EL, y.e.fr = a → y.e.to = b → (lab.toList = [] ∨ y.e.label = lab) → r = true) := Lib.hid (fun y hy h1 h2 h3 => by rw [hr]; exact edD_yes ⟨y.e, List.mem_map.2 ⟨y, hy, rfl⟩, h1, h2, h3⟩)
  have HNO : Hid ((∀ y ∈ EL, ¬ (y.e.fr = a ∧ y.e.to = b ∧ (lab.toList = [] ∨ y.e.label = lab))) → r = false) := Lib.hid (fun h => by
    rw [hr]
    refine edD_no fun ⟨e, he, h1⟩ => ?_
    obtain ⟨y, hy, rfl⟩ := List.mem_map.1 he
    exact h y hy h1)
  rw [← hr]
  clear h hl hm hr
  obtain ⟨xa, xc, hrc⟩ := HR.out
  have HRC := Lib.hid hrc
  clear hrc HR
  obtain ⟨c0, z0, _⟩ := HRC.out w (Below.refl _ _)
  go_enter Try.func120, Try.ntmps120
  go_wp2_with fail
  clear c0 z0
  go_loopw [9] (fun i wr => ∃ j : Nat, i = .int .i64 (j : Int) ∧ j ≤ m ∧ Hid (Below w.heap.size w wr) ∧ Hid (∀ j' y, j' < j → EL[j']? = some y → ¬ (y.e.fr = a ∧ y.e.to = b ∧ (lab.toList = [] ∨ y.e.label = lab)))) (fun i _ => m - (intOf i).toNat)
  case atStart => exact ⟨0, rfl, Nat.zero_le _, Lib.hid (Below.refl _ _), Lib.hid (fun _ _ h => absurd h (Nat.not_lt_zero _))⟩
  case round =>
    obtain ⟨j, rfl, hj, HB, HN⟩ := hrel
    obtain ⟨c0, z0, ho⟩ := HRC.out wr HB.out
    have hm6 := HM.out.2
    by_cases hlt : j < m
    · obtain ⟨y, hy⟩ : ∃ y, EL[j]? = some y := ⟨_, List.getElem?_eq_getElem (by have := HM.out.1; omega)⟩
      obtain ⟨yb, ycap, hsl, _, _, hat⟩ := ho.at' (fun e => by rw [e] at hy; simp at hy)
      injection hsl with e1 e2 e3
      subst e1
      have y0 := hat.cells j y hy 0 _ rfl
      have y1 := hat.cells j y hy 1 _ rfl
      have y2 := hat.cells j y hy 2 _ rfl
      have y3 := hat.cells j y hy 3 _ rfl
      have y4 := hat.cells j y hy 4 _ rfl
      simp [kEr] at y0 y1 y2 y3 y4
      have hyl := hat.lt
      have HYY := Lib.hid hy
      have HB2 : Hid (Below w.heap.size w (wr.alloc (.cells #[.int .i64 y.e.id, .string y.e.label, .int .i64 y.e.fr, .int .i64 y.e.to, .slice y.a y.e.ps.length y.c] 86))) := Lib.hid (below_then HB.out (below_box wr _))
      have fin : ∀ h : ¬ (y.e.fr = a ∧ y.e.to = b ∧ (lab.toList = [] ∨ y.e.label = lab)), ∀ j' z, j' < j + 1 → EL[j']? = some z → ¬ (z.e.fr = a ∧ z.e.to = b ∧ (lab.toList = [] ∨ z.e.label = lab)) := fun h j' z hj' hz => by
        by_cases e : j' < j
        · exact HN.out j' z e hz
        · obtain rfl : j' = j := by omega
          rw [HYY.out] at hz
          injection hz with hz
          subst hz
          exact h
      have FIN := Lib.hid fin
      clear hy hat ho e2 e3 fin
      by_cases r1 : y.e.fr = a
      · have t1 : (y.e.fr == a) = true := by simpa using r1
        by_cases r2 : y.e.to = b
        · have t2 : (y.e.to == b) = true := by simpa using r2
          by_cases r3 : lab.toList = []
          · have t3 : lab.toList.isEmpty = true := by simp [r3]
            have HF : Hid (r = true) := Lib.hid (HY.out y (List.mem_of_getElem? HYY.out) r1 r2 (.inl r3))
            clear r1 r2 r3
            go_wp2_with fail
            go_ret
            exact ⟨by rw [HF.out]; rfl, HB2.out⟩
          · have t3 : lab.toList.isEmpty = false := by simpa using r3
            by_cases r4 : y.e.label = lab
            · have t4 : (y.e.label.toList == lab.toList) = true := by simp [r4]
              have HF : Hid (r = true) := Lib.hid (HY.out y (List.mem_of_getElem? HYY.out) r1 r2 (.inr r4))
              clear r1 r2 r3 r4
              go_wp2_with fail
              go_ret
              exact ⟨by rw [HF.out]; rfl, HB2.out⟩
            · have t4 : (y.e.label.toList == lab.toList) = false := ba_ne' r4
              have HX := Lib.hid (FIN.out (fun h => h.2.2.elim r3 r4))
              clear r1 r2 r3 r4
              go_wp2_with fail
              exact ⟨⟨j + 1, by simp, hlt, HB2, HX⟩, by simp [intOf]; omega⟩
        · have t2 : (y.e.to == b) = false := by simpa using r2
          have HX := Lib.hid (FIN.out (fun h => r2 h.2.1))
          clear r1 r2
          go_wp2_with fail
          exact ⟨⟨j + 1, by simp, hlt, HB2, HX⟩, by simp [intOf]; omega⟩
      · have t1 : (y.e.fr == a) = false := by simpa using r1
        have HX := Lib.hid (FIN.out (fun h => r1 h.1))
        clear r1
        go_wp2_with fail
        exact ⟨⟨j + 1, by simp, hlt, HB2, HX⟩, by simp [intOf]; omega⟩
    · have tj : decide ((j : Int) < (m : Int)) = false := decide_eq_false (by omega)
      have HF : Hid (r = false) := Lib.hid (HNO.out (fun y hy => by
        obtain ⟨i, hi, e⟩ := List.getElem_of_mem hy
        exact HN.out i y (by have := HM.out.1; omega) (by rw [List.getElem?_eq_getElem hi, e])))
      go_wp2_with fail
      go_ret
      exact ⟨by rw [HF.out]; rfl, HB.out⟩
theorem lexLt_drop : ∀ {l m : List Int} (i : Nat), (∀ j, j < i → l[j]? = m[j]?) → i ≤ l.length → i ≤ m.length → lexLt l m = lexLt (l.drop i) (m.drop i)
  | _, _, 0, _, _, _ => rfl
  | [], _, i + 1, _, h, _ => by simp at h
  | _ :: _, [], i + 1, _, _, h => by simp at h
  | a :: l, b :: m, i + 1, h, h1, h2 => by
    have e : a = b := by simpa using h 0 (by omega)
    subst e
    show lexLt (a :: l) (a :: m) = lexLt (l.drop i) (m.drop i)
    rw [show lexLt (a :: l) (a :: m) = lexLt l m by simp [lexLt]]
    exact lexLt_drop i (fun j hj => by simpa using h (j + 1) (by omega)) (by simpa using h1) (by simpa using h2)
set_option maxRecDepth 100000 in
set_option maxHeartbeats 2000000 in
theorem r19less_any (a b : Option Addr) (ac bc : Nat) (l m : List Int) (w : World) (hv : kI.V w a l) (hm : kI.V w b m) (hlm : l.length = m.length) (hl : l.length ≤ 4000000) :
    Calls Try.prog 121 #[.slice a l.length ac, .slice b m.length bc] w fun e w' => e = .returned (.bool (lexLt l m)) ∧ Below w.heap.size w w' := by
  obtain ⟨n, hn⟩ : ∃ n, n = l.length := ⟨_, rfl⟩
  rw [← hlm, ← hn]
  have HN : Hid (n = l.length ∧ n = m.length ∧ n ≤ 4000000) := Lib.hid ⟨hn, by omega, by omega⟩
  obtain ⟨r, hr⟩ : ∃ r, r = lexLt l m := ⟨_, rfl⟩
  rw [← hr]
  have HR := Lib.hid hr
  have HV := Lib.hid hv
  have HM := Lib.hid hm
  clear hn hr hv hm hlm hl
  go_enter Try.func121, Try.ntmps121
  go_wp2_with fail
  go_loopw [5] (fun i wr => ∃ j : Nat, i = .int .i64 (j : Int) ∧ j ≤ n ∧ Hid (∀ j' : Nat, j' < j → l[j']? = m[j']?) ∧ Hid (Below w.heap.size w wr)) (fun i _ => n - (intOf i).toNat)
  case atStart => exact ⟨0, rfl, Nat.zero_le _, Lib.hid (fun _ h => absurd h (Nat.not_lt_zero _)), Lib.hid (Below.refl _ _)⟩
  case round =>
    obtain ⟨j, rfl, hj, HE, HB⟩ := hrel
    have hn6 := HN.out.2.2
    by_cases hlt : j < n
    · obtain ⟨x, hx⟩ : ∃ x, l[j]? = some x := ⟨_, List.getElem?_eq_getElem (by have := HN.out.1; omega)⟩
      obtain ⟨y, hy⟩ : ∃ y, m[j]? = some y := ⟨_, List.getElem?_eq_getElem (by have := HN.out.2.1; omega)⟩
      obtain ⟨b1, o1, rfl, hat1⟩ := HV.out.below HB.out (fun e => by rw [e] at hx; simp at hx)
      obtain ⟨b2, o2, rfl, hat2⟩ := HM.out.below HB.out (fun e => by rw [e] at hy; simp at hy)
      have c1 := hat1.cells j x hx 0 _ rfl
      have c2 := hat2.cells j y hy 0 _ rfl
      simp [kI] at c1 c2
      have hl1 := hat1.lt
      have hl2 := hat2.lt
      have HX := Lib.hid hx
      have HY := Lib.hid hy
      clear hx hy hat1 hat2
      by_cases he : x = y
      · subst he
        go_wp2_with fail
        go_quiet (fail)
        go_wp2_with fail
        refine ⟨⟨j + 1, by simp, hlt, Lib.hid (fun j' hj' => ?_), Lib.hid (below_drewN HB.out _)⟩, by simp [intOf]; omega⟩
        by_cases e : j' < j
        · exact HE.out j' e
        · obtain rfl : j' = j := by omega
          rw [HX.out, HY.out]
      · have t3 : (x != y) = true := by simpa using he
        have HF : Hid (r = decide (x < y)) := Lib.hid (by
          rw [HR.out, lexLt_drop j HE.out (by have := HN.out.1; omega) (by have := HN.out.2.1; omega)]
          obtain ⟨hxl, ex⟩ := List.getElem?_eq_some_iff.1 HX.out
          obtain ⟨hyl, ey⟩ := List.getElem?_eq_some_iff.1 HY.out
          rw [List.drop_eq_getElem_cons hxl, List.drop_eq_getElem_cons hyl, ex, ey]
          unfold lexLt
          rw [if_neg he])
        clear he
        go_wp2_with fail
        go_quiet (fail)
        go_wp2_with fail
        go_quiet (fail)
        go_wp2_with fail
        go_ret
        exact ⟨by rw [HF.out]; rfl, below_drewN (below_drewN HB.out _) _⟩
    · have tj : decide ((j : Int) < (n : Int)) = false := decide_eq_false (by omega)
      have HF : Hid (r = false) := Lib.hid (by
        have e : l = m := List.ext_getElem? fun i => by
          by_cases h : i < n
          · exact HE.out i (by omega)
          · rw [List.getElem?_eq_none (by have := HN.out.1; omega), List.getElem?_eq_none (by have := HN.out.2.1; omega)]
        rw [HR.out, e]
        exact lexLt_irrefl m)
      go_wp2_with fail
      go_ret
      exact ⟨by rw [HF.out]; rfl, HB.out⟩
end Go.Proofs.Ytaanohgkdpohhaa
