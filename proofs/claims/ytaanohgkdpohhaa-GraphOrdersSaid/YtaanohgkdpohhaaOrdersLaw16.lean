/- Law GraphOrders. Conditions: the arguments' own. -/
import Derived.Test.YtaanohgkdpohhaaGi5
import Derived.Test.YtaanohgkdpohhaaGs3
import Derived.Test.YtaanohgkdpohhaaGrMem
import Derived.Test.YtaanohgkdpohhaaIntMem
import Derived.BigQuiet
namespace Go.Proofs.Ytaanohgkdpohhaa
open Go.RowKit Go.Maps

set_option maxRecDepth 100000 in
set_option maxHeartbeats 16000000 in
theorem gorders_law (va ea : Option Addr) (vc ec : Nat) (VL : List Vr) (EL : List Er) (turn : Int) (w : World) (h1 : kVr.V w va VL) (h2 : kEr.V w ea EL) (h3 : ∀ x ∈ VL, VrRaw w x) (h4 : ∀ x ∈ EL, ErRaw w x) (ht : I64 turn) :
    Calls Try.prog 7 #[.slice va VL.length vc, .slice ea EL.length ec, .int .i64 turn] w fun e w' => e = .returned (.bool true) ∧ Below w.heap.size w w' := by
  obtain ⟨nv, hnv⟩ : ∃ n, n = VL.length := ⟨_, rfl⟩
  obtain ⟨ne, hne⟩ : ∃ n, n = EL.length := ⟨_, rfl⟩
  have HNV := Lib.hid hnv
  have HNE := Lib.hid hne
  have HV1 := Lib.hid h1
  have HV2 := Lib.hid h2
  have HR1 := Lib.hid h3
  have HR2 := Lib.hid h4
  have HTU := Lib.hid ht
  rw [← hnv, ← hne]
  clear hnv hne h1 h2 h3 h4 ht
  go_enter Try.func7, Try.ntmps7
  go_wp2_with fail
  refine (awake16_any w).mono ?_
  rintro e w1 ⟨rfl, b1⟩
  have HB1 := Lib.hid b1
  clear b1
  by_cases h5 : 15 < nv
  · have t5 : decide ((15 : Int) < (nv : Int)) = true := decide_eq_true (by omega)
    clear h5
    go_wp2_with fail
    refine (awake16_any _).mono ?_
    rintro e w9 ⟨rfl, b9⟩
    have HB9 : Hid (Below w.heap.size w w9) := Lib.hid (below_then HB1.out b9)
    clear b9
    go_wp2_with fail
    go_ret
    exact ⟨rfl, HB9.out⟩
  have t5 : decide ((15 : Int) < (nv : Int)) = false := decide_eq_false (by omega)
  by_cases h6 : 15 < ne
  · have t6 : decide ((15 : Int) < (ne : Int)) = true := decide_eq_true (by omega)
    clear h5 h6
    go_wp2_with fail
    refine (awake16_any _).mono ?_
    rintro e w9 ⟨rfl, b9⟩
    have HB9 : Hid (Below w.heap.size w w9) := Lib.hid (below_then HB1.out b9)
    clear b9
    go_wp2_with fail
    go_ret
    exact ⟨rfl, HB9.out⟩
  have t6 : decide ((15 : Int) < (ne : Int)) = false := decide_eq_false (by omega)
  have HN15 : Hid (nv ≤ 15 ∧ ne ≤ 15) := Lib.hid (by omega)
  clear h5 h6
  go_wp2_with fail
  refine (gnew_any w1).mono ?_
  rintro e w2 ⟨rfl, g2, b2⟩
  go_wp2_with fail
  refine (gnew_any w2).mono ?_
  rintro e w3 ⟨rfl, g3, b3⟩
  have ht0 := TwG.start g2 b2 g3 b3
  obtain ⟨ga, hga⟩ : ∃ g, g = w1.heap.size + 2 := ⟨_, rfl⟩
  obtain ⟨gb, hgb⟩ : ∃ g, g = w2.heap.size + 2 := ⟨_, rfl⟩
  obtain ⟨va1, hva1⟩ : ∃ g, g = w1.heap.size := ⟨_, rfl⟩
  obtain ⟨ea1, hea1⟩ : ∃ g, g = w1.heap.size + 1 := ⟨_, rfl⟩
  obtain ⟨vb1, hvb1⟩ : ∃ g, g = w2.heap.size := ⟨_, rfl⟩
  obtain ⟨eb1, heb1⟩ : ∃ g, g = w2.heap.size + 1 := ⟨_, rfl⟩
  have HT0 : Hid (TwG w1 w3 ga va1 ea1 gb vb1 eb1 [] [] [] []) := Lib.hid (by rw [hga, hgb, hva1, hea1, hvb1, heb1]; exact ht0)
  rw [← hga, ← hgb]
  clear ht0 g2 g3 b2 b3 hga hgb hva1 hea1 hvb1 heb1 t5 t6
  go_wp2_with fail

  have HV1N : Hid (nv = VL.length) := HNV
  have HV2N : Hid (ne = EL.length) := HNE

  go_loopw [9] (fun iv wr => ∃ i : Nat, iv = .int .i64 (i : Int) ∧ i ≤ nv ∧ Hid (TwG w1 wr ga va1 ea1 gb vb1 eb1 (layV ((VL.take i).map Vr.v)) [] [] []) ∧ Hid (Apart Vt.id ((VL.take i).map Vr.v)) ∧ Hid (∀ z ∈ VL.take i, smallP z.v.ps = true)) (fun iv _ => nv - (intOf iv).toNat)
  case atStart => exact ⟨0, rfl, Nat.zero_le _, HT0, Lib.hid List.Pairwise.nil, Lib.hid (fun z hz => by simp at hz)⟩
  case round =>
    obtain ⟨i, rfl, hi, HT, HAP, HSM⟩ := hrel
    have h15 := HN15.out
    have HW : Hid (Below w.heap.size w wr) := Lib.hid (below_then HB1.out HT.out.bel)
    by_cases hlt : i < nv
    · obtain ⟨x, hx⟩ : ∃ x, VL[i]? = some x := ⟨_, List.getElem?_eq_getElem (by have := HV1N.out; omega)⟩
      obtain ⟨xb, xo, hxa, hat⟩ := (HV1.out.below HW.out) (fun e => by rw [e] at hx; simp at hx)
      subst hxa
      have x0 := hat.cells i x hx 0 _ rfl
      have x1 := hat.cells i x hx 1 _ rfl
      have x2 := hat.cells i x hx 2 _ rfl
      simp [kVr] at x0 x1 x2
      have zx := hat.lt
      obtain ⟨sp, hsp⟩ : ∃ s, s = smallP x.v.ps := ⟨_, rfl⟩
      have HSP := Lib.hid hsp
      have hraw := (HR1.out x (List.mem_of_getElem? hx)).below HW.out
      have HRW := Lib.hid hraw
      have HPR : Hid (Calls Try.prog 36 #[.slice x.a x.v.ps.length x.c] wr fun e w' => e = .returned (.bool sp) ∧ wr = w') := Lib.hid (by rw [hsp]; exact props16_any x.a x.c x.v.ps wr hraw.1 hraw.2.2.1)
      have HX := Lib.hid hx
      clear hx hat hsp hraw
      go_wp2_with fail
      refine HPR.out.mono ?_
      rintro e w5 ⟨rfl, rfl⟩
      cases sp
      case false =>
        go_wp2_with fail
        go_ret
        exact ⟨rfl, HW.out⟩
      case true =>
      by_cases hl2 : 200 < x.v.label.size
      · have t7 : decide ((200 : Int) < (x.v.label.size : Int)) = true := decide_eq_true (by omega)
        clear hl2
        go_wp2_with fail
        go_ret
        exact ⟨rfl, HW.out⟩
      have t7 : decide ((200 : Int) < (x.v.label.size : Int)) = false := decide_eq_false (by omega)
      have HL2 : Hid (x.v.label.size ≤ 200) := Lib.hid (by omega)
      clear hl2
      go_wp2_with fail
      clear t7
      obtain ⟨wo, hwo⟩ : ∃ wo : World, wo = wr := ⟨_, rfl⟩
      have HB0 : Hid (Below wo.heap.size wo wr) := Lib.hid (by rw [hwo]; exact Below.refl _ _)
      rw [← hwo] at HT HW HRW
      clear hwo x0 x1 x2 zx
      go_loopw [10] (fun kv wk => ∃ k : Nat, kv = .int .i64 (k : Int) ∧ k ≤ i ∧ Hid (Below wo.heap.size wo wk) ∧ Hid (∀ (q : Nat) (z : Vr), q < k → VL[q]? = some z → z.v.id ≠ x.v.id)) (fun kv _ => i - (intOf kv).toNat)
      case atStart => exact ⟨0, rfl, Nat.zero_le _, HB0, Lib.hid (fun q z hq => absurd hq (Nat.not_lt_zero _))⟩
      case round =>
        obtain ⟨k, rfl, hk, HBK, HNE2⟩ := hrel
        have HW2 : Hid (Below w.heap.size w wr) := Lib.hid (below_then HW.out HBK.out)
        obtain ⟨xb2, xo2, hxa2, hat⟩ := (HV1.out.below HW2.out) (fun e => by have := HX.out; rw [e] at this; simp at this)
        injection hxa2 with hxa2
        injection hxa2 with q1 q2
        subst q1 q2
        have zx := hat.lt
        by_cases hlk : k < i
        · obtain ⟨y, hy⟩ : ∃ y, VL[k]? = some y := ⟨_, List.getElem?_eq_getElem (by have := HV1N.out; omega)⟩
          have x0 := hat.cells i x HX.out 0 _ rfl
          have y0 := hat.cells k y hy 0 _ rfl
          simp [kVr] at x0 y0
          have HY := Lib.hid hy
          clear hat hy
          by_cases heq : y.v.id = x.v.id
          · have t8 : (y.v.id == x.v.id) = true := by simpa using heq
            clear heq
            go_wp2_with fail
            go_quiet (fail)
            go_wp2_with fail
            go_ret
            exact ⟨rfl, below_drewN HW2.out _⟩
          · have t8 : (y.v.id == x.v.id) = false := by simpa using heq
            have HNE3 : Hid (∀ (q : Nat) (z : Vr), q < k + 1 → VL[q]? = some z → z.v.id ≠ x.v.id) := Lib.hid (fun q z hq hz => by
              by_cases hqk : q < k
              · exact HNE2.out q z hqk hz
              · obtain rfl : q = k := by omega
                rw [HY.out] at hz
                injection hz with hz
                rw [← hz]
                exact heq)
            clear heq
            go_wp2_with fail
            go_quiet (fail)
            go_wp2_with fail
            exact ⟨⟨k + 1, by simp, hlk, Lib.hid (below_drewN HBK.out _), HNE3⟩, by simp [intOf]; omega⟩
        · have hki : k = i := by omega
          have tk : decide ((k : Int) < (i : Int)) = false := decide_eq_false (by omega)
          have x0 := hat.cells i x HX.out 0 _ rfl
          have x1 := hat.cells i x HX.out 1 _ rfl
          have x2 := hat.cells i x HX.out 2 _ rfl
          simp [kVr] at x0 x1 x2
          have HT2 := Lib.hid (HT.out.below HBK.out)
          have HAD := gaddV_any ga va1 ea1 (layV ((VL.take i).map Vr.v)) [] x.v x.a x.c wr HT2.out.a (HRW.out.below HBK.out |>.ps HSP.out.symm) (by have := (of_decide_eq_true HSP.out.symm).1; omega) HRW.out.2.2.2.1 HRW.out.2.2.2.2 (by have h := layV_le ((VL.take i).map Vr.v); rw [List.length_map, List.length_take] at h; unfold maxLen; omega)
          have HAP2 : Hid (Apart Vt.id ((VL.take (i + 1)).map Vr.v)) := Lib.hid (by
            rw [List.take_add_one, HX.out, Option.toList_some, List.map_append, List.map_singleton]
            refine List.pairwise_append.2 ⟨HAP.out, List.pairwise_singleton _ _, fun p hp q hq => ?_⟩
            obtain rfl : q = x.v := by simpa using hq
            obtain ⟨z, hz, rfl⟩ := List.mem_map.1 hp
            obtain ⟨r, hr⟩ := List.getElem?_of_mem hz
            rw [List.getElem?_take] at hr
            split at hr
            · rename_i hri
              exact HNE2.out r z (by omega) hr
            · cases hr)
          have tk2 : decide (k < i) = false := decide_eq_false hlk
          clear hat hki
          go_wp2_with fail
          refine HAD.mono ?_
          rintro e w6 ⟨rfl, g6, c6⟩
          have HT6 := Lib.hid (HT2.out.addVa g6 c6)
          clear g6 c6 HAD zx x0 x1 x2 tk tk2
          go_wp2_with fail
          exact ⟨⟨i + 1, by simp, hlt, Lib.hid (by rw [List.take_add_one, HX.out, Option.toList_some, List.map_append, List.map_singleton, layV_snoc]; exact HT6.out), HAP2, Lib.hid (fun z hz => by
            rw [List.take_add_one, HX.out, Option.toList_some, List.mem_append, List.mem_singleton] at hz
            rcases hz with hz | rfl
            · exact HSM.out z hz
            · exact HSP.out.symm)⟩, by simp [intOf]; omega⟩
    · have hin : i = nv := by omega
      have ti : decide ((i : Int) < (nv : Int)) = false := decide_eq_false (by omega)

      obtain ⟨V, hVd⟩ : ∃ V, V = layV (VL.map Vr.v) := ⟨_, rfl⟩
      have HVD := Lib.hid hVd
      have hT1 : TwG w1 wr ga va1 ea1 gb vb1 eb1 V [] [] [] := by
        have h := HT.out
        rw [hin, List.take_of_length_le (by have := HNV.out; omega)] at h
        rw [← hVd] at h
        exact h
      have HTA := Lib.hid hT1
      have HAV := Lib.hid HAP.out
      have HSV := Lib.hid HSM.out
      rw [hin, List.take_of_length_le (by have := HNV.out; omega)] at HAV HSV
      clear hT1
      go_wp2_with fail
      clear hin ti hlt hi
      clear hVd

      go_loopw [11] (fun iv wr => ∃ i : Nat, iv = .int .i64 (i : Int) ∧ i ≤ ne ∧ Hid (TwG w1 wr ga va1 ea1 gb vb1 eb1 V (layE V ((EL.take i).map Er.e)) [] []) ∧ Hid (Apart Eg.id ((EL.take i).map Er.e)) ∧ Hid (∀ z ∈ EL.take i, smallP z.e.ps = true)) (fun iv _ => ne - (intOf iv).toNat)
      case atStart => exact ⟨0, rfl, Nat.zero_le _, HTA, Lib.hid List.Pairwise.nil, Lib.hid (fun z hz => by simp at hz)⟩
      case round =>
        obtain ⟨i, rfl, hi, HT, HAP, HSM⟩ := hrel
        have h15 := HN15.out
        have HW : Hid (Below w.heap.size w wr) := Lib.hid (below_then HB1.out HT.out.bel)
        by_cases hlt : i < ne
        · obtain ⟨x, hx⟩ : ∃ x, EL[i]? = some x := ⟨_, List.getElem?_eq_getElem (by have := HV2N.out; omega)⟩
          obtain ⟨xb, xo, hxa, hat⟩ := (HV2.out.below HW.out) (fun e => by rw [e] at hx; simp at hx)
          subst hxa
          have x0 := hat.cells i x hx 0 _ rfl
          have x1 := hat.cells i x hx 1 _ rfl
          have x4 := hat.cells i x hx 4 _ rfl
          simp [kEr] at x0 x1 x4
          have zx := hat.lt
          obtain ⟨sp, hsp⟩ : ∃ s, s = smallP x.e.ps := ⟨_, rfl⟩
          have HSP := Lib.hid hsp
          have hraw := (HR2.out x (List.mem_of_getElem? hx)).below HW.out
          have HRW := Lib.hid hraw
          have HPR : Hid (Calls Try.prog 36 #[.slice x.a x.e.ps.length x.c] wr fun e w' => e = .returned (.bool sp) ∧ wr = w') := Lib.hid (by rw [hsp]; exact props16_any x.a x.c x.e.ps wr hraw.1 hraw.2.2.1)
          have HX := Lib.hid hx
          clear hx hat hsp hraw
          go_wp2_with fail
          refine HPR.out.mono ?_
          rintro e w5 ⟨rfl, rfl⟩
          cases sp
          case false =>
            go_wp2_with fail
            go_ret
            exact ⟨rfl, HW.out⟩
          case true =>
          by_cases hl2 : 200 < x.e.label.size
          · have t7 : decide ((200 : Int) < (x.e.label.size : Int)) = true := decide_eq_true (by omega)
            clear hl2
            go_wp2_with fail
            go_ret
            exact ⟨rfl, HW.out⟩
          have t7 : decide ((200 : Int) < (x.e.label.size : Int)) = false := decide_eq_false (by omega)
          have HL2 : Hid (x.e.label.size ≤ 200) := Lib.hid (by omega)
          clear hl2
          go_wp2_with fail
          clear t7
          obtain ⟨wo, hwo⟩ : ∃ wo : World, wo = wr := ⟨_, rfl⟩
          have HB0 : Hid (Below wo.heap.size wo wr) := Lib.hid (by rw [hwo]; exact Below.refl _ _)
          rw [← hwo] at HT HW HRW
          clear hwo x0 x1 x4 zx
          go_loopw [12] (fun kv wk => ∃ k : Nat, kv = .int .i64 (k : Int) ∧ k ≤ i ∧ Hid (Below wo.heap.size wo wk) ∧ Hid (∀ (q : Nat) (z : Er), q < k → EL[q]? = some z → z.e.id ≠ x.e.id)) (fun kv _ => i - (intOf kv).toNat)
          case atStart => exact ⟨0, rfl, Nat.zero_le _, HB0, Lib.hid (fun q z hq => absurd hq (Nat.not_lt_zero _))⟩
          case round =>
            obtain ⟨k, rfl, hk, HBK, HNE2⟩ := hrel
            have HW2 : Hid (Below w.heap.size w wr) := Lib.hid (below_then HW.out HBK.out)
            obtain ⟨xb2, xo2, hxa2, hat⟩ := (HV2.out.below HW2.out) (fun e => by have := HX.out; rw [e] at this; simp at this)
            injection hxa2 with hxa2
            injection hxa2 with q1 q2
            subst q1 q2
            have zx := hat.lt
            by_cases hlk : k < i
            · obtain ⟨y, hy⟩ : ∃ y, EL[k]? = some y := ⟨_, List.getElem?_eq_getElem (by have := HV2N.out; omega)⟩
              have x0 := hat.cells i x HX.out 0 _ rfl
              have y0 := hat.cells k y hy 0 _ rfl
              simp [kEr] at x0 y0
              have HY := Lib.hid hy
              clear hat hy
              by_cases heq : y.e.id = x.e.id
              · have t8 : (y.e.id == x.e.id) = true := by simpa using heq
                clear heq
                go_wp2_with fail
                go_quiet (fail)
                go_wp2_with fail
                go_ret
                exact ⟨rfl, below_drewN HW2.out _⟩
              · have t8 : (y.e.id == x.e.id) = false := by simpa using heq
                have HNE3 : Hid (∀ (q : Nat) (z : Er), q < k + 1 → EL[q]? = some z → z.e.id ≠ x.e.id) := Lib.hid (fun q z hq hz => by
                  by_cases hqk : q < k
                  · exact HNE2.out q z hqk hz
                  · obtain rfl : q = k := by omega
                    rw [HY.out] at hz
                    injection hz with hz
                    rw [← hz]
                    exact heq)
                clear heq
                go_wp2_with fail
                go_quiet (fail)
                go_wp2_with fail
                exact ⟨⟨k + 1, by simp, hlk, Lib.hid (below_drewN HBK.out _), HNE3⟩, by simp [intOf]; omega⟩
            · have hki : k = i := by omega
              have tk : decide ((k : Int) < (i : Int)) = false := decide_eq_false (by omega)
              have x0 := hat.cells i x HX.out 0 _ rfl
              have x1 := hat.cells i x HX.out 1 _ rfl
              have x2 := hat.cells i x HX.out 2 _ rfl
              have x3 := hat.cells i x HX.out 3 _ rfl
              have x4 := hat.cells i x HX.out 4 _ rfl
              simp [kEr] at x0 x1 x2 x3 x4
              have HT2 := Lib.hid (HT.out.below HBK.out)
              have HAD := gaddE_any ga va1 ea1 V (layE V ((EL.take i).map Er.e)) x.e x.a x.c wr HT2.out.a (HRW.out.below HBK.out |>.ps HSP.out.symm) (by have := (of_decide_eq_true HSP.out.symm).1; omega) HRW.out.2.2.2.1 HRW.out.2.2.2.2 (by have h := layE_le V ((EL.take i).map Er.e); rw [List.length_map, List.length_take] at h; unfold maxLen; omega)
              have HAP2 : Hid (Apart Eg.id ((EL.take (i + 1)).map Er.e)) := Lib.hid (by
                rw [List.take_add_one, HX.out, Option.toList_some, List.map_append, List.map_singleton]
                refine List.pairwise_append.2 ⟨HAP.out, List.pairwise_singleton _ _, fun p hp q hq => ?_⟩
                obtain rfl : q = x.e := by simpa using hq
                obtain ⟨z, hz, rfl⟩ := List.mem_map.1 hp
                obtain ⟨r, hr⟩ := List.getElem?_of_mem hz
                rw [List.getElem?_take] at hr
                split at hr
                · rename_i hri
                  exact HNE2.out r z (by omega) hr
                · cases hr)
              have tk2 : decide (k < i) = false := decide_eq_false hlk
              clear hat hki
              go_wp2_with fail
              refine HAD.mono ?_
              rintro e w6 ⟨rfl, g6, c6⟩
              have HT6 := Lib.hid (HT2.out.addEa g6 c6)
              clear g6 c6 HAD zx x0 x1 x2 x3 x4 tk tk2
              go_wp2_with fail
              exact ⟨⟨i + 1, by simp, hlt, Lib.hid (by rw [List.take_add_one, HX.out, Option.toList_some, List.map_append, List.map_singleton, layE_snoc]; exact HT6.out), HAP2, Lib.hid (fun z hz => by
                rw [List.take_add_one, HX.out, Option.toList_some, List.mem_append, List.mem_singleton] at hz
                rcases hz with hz | rfl
                · exact HSM.out z hz
                · exact HSP.out.symm)⟩, by simp [intOf]; omega⟩
        · have hin : i = ne := by omega
          have ti : decide ((i : Int) < (ne : Int)) = false := decide_eq_false (by omega)

          obtain ⟨EF, hEd⟩ : ∃ E, E = layE V (EL.map Er.e) := ⟨_, rfl⟩
          have HED := Lib.hid hEd
          have hT1 : TwG w1 wr ga va1 ea1 gb vb1 eb1 V EF [] [] := by
            have h := HT.out
            rw [hin, List.take_of_length_le (by have := HNE.out; omega)] at h
            rw [← hEd] at h
            exact h
          have HTB := Lib.hid hT1
          have HAE := Lib.hid HAP.out
          have HSE := Lib.hid HSM.out
          rw [hin, List.take_of_length_le (by have := HNE.out; omega)] at HAE HSE
          clear hT1
          obtain ⟨tv, htv⟩ : ∃ t : Nat, nv ≠ 0 → (wrap64 (turn.tmod (nv : Int) + (nv : Int))).tmod (nv : Int) = (t : Int) ∧ t < nv := by
            by_cases h0 : nv = 0
            · exact ⟨0, fun h => absurd h0 h⟩
            · obtain ⟨t, e1, e2⟩ := mod_n turn nv (by omega) (by have := HN15.out; omega)
              exact ⟨t, fun _ => ⟨e1, e2⟩⟩
          have HQtv := Lib.hid htv
          have hnw : IntKind.i64.wrap ((nv : Int) - 1) = (nv : Int) - 1 := IntWalk.i64_in _ (by have := HN15.out; omega)
          clear htv
          go_wp2_with fail
          clear hnw
          clear hin ti hlt hi
          clear hEd

          go_loopw [13] (fun iv wr => ∃ i : Nat, iv = .int .i64 ((i : Int) - 1) ∧ i ≤ nv ∧ Hid (TwG w1 wr ga va1 ea1 gb vb1 eb1 V EF (layV ((rotL VL tv i).map Vr.v)) [])) (fun iv _ => (intOf iv + 1).toNat)
          case atStart => exact ⟨nv, rfl, Nat.le_refl _, Lib.hid (by have h := HTB.out; rw [show nv = VL.length from HNV.out, rotL_start]; exact h)⟩
          case round =>
            obtain ⟨i, rfl, hi, HT⟩ := hrel
            have h15 := HN15.out
            have HW : Hid (Below w.heap.size w wr) := Lib.hid (below_then HB1.out HT.out.bel)
            by_cases hz : i = 0
            · have ez : (i : Int) - 1 = -1 := by omega
              rw [ez]
              have tz : decide ((0 : Int) ≤ -1) = false := rfl
              have hVB : layV ((rotL VL tv 0).map Vr.v) = V := by
                rw [HVD.out]
                refine layV_uniq (apart_to (rotL_apart (apart_of HAV.out))) HAV.out (fun y => ?_)
                rw [List.mem_map, List.mem_map]
                exact ⟨fun ⟨z, hz, e⟩ => ⟨z, (rotL_mem z).1 hz, e⟩, fun ⟨z, hz, e⟩ => ⟨z, (rotL_mem z).2 hz, e⟩⟩
              have hTC : TwG w1 wr ga va1 ea1 gb vb1 eb1 V EF V [] := by
                have h := HT.out
                rw [hz, hVB] at h
                exact h
              have HTC := Lib.hid hTC
              clear hTC hVB ez hz hi
              obtain ⟨te, hte⟩ : ∃ t : Nat, ne ≠ 0 → (wrap64 (turn.tmod (ne : Int) + (ne : Int))).tmod (ne : Int) = (t : Int) ∧ t < ne := by
                by_cases h0 : ne = 0
                · exact ⟨0, fun h => absurd h0 h⟩
                · obtain ⟨t, e1, e2⟩ := mod_n turn ne (by omega) (by have := HN15.out; omega)
                  exact ⟨t, fun _ => ⟨e1, e2⟩⟩
              have HQte := Lib.hid hte
              have hnw : IntKind.i64.wrap ((ne : Int) - 1) = (ne : Int) - 1 := IntWalk.i64_in _ (by have := HN15.out; omega)
              clear hte
              go_wp2_with fail
              clear hnw tz
              go_loopw [14] (fun iv wr => ∃ i : Nat, iv = .int .i64 ((i : Int) - 1) ∧ i ≤ ne ∧ Hid (TwG w1 wr ga va1 ea1 gb vb1 eb1 V EF V (layE V ((rotL EL te i).map Er.e)))) (fun iv _ => (intOf iv + 1).toNat)
              case atStart => exact ⟨ne, rfl, Nat.le_refl _, Lib.hid (by have h := HTC.out; rw [show ne = EL.length from HNE.out, rotL_start]; exact h)⟩
              case round =>
                obtain ⟨i, rfl, hi, HT⟩ := hrel
                have h15 := HN15.out
                have HW : Hid (Below w.heap.size w wr) := Lib.hid (below_then HB1.out HT.out.bel)
                by_cases hz : i = 0
                · have ez : (i : Int) - 1 = -1 := by omega
                  rw [ez]
                  have tz : decide ((0 : Int) ≤ -1) = false := rfl
                  have hEB : layE V ((rotL EL te 0).map Er.e) = EF := by
                    rw [HED.out]
                    refine layE_uniq V (apart_to (rotL_apart (apart_of HAE.out))) HAE.out (fun y => ?_)
                    rw [List.mem_map, List.mem_map]
                    exact ⟨fun ⟨z, hz, e⟩ => ⟨z, (rotL_mem z).1 hz, e⟩, fun ⟨z, hz, e⟩ => ⟨z, (rotL_mem z).2 hz, e⟩⟩
                  have hTD : TwG w1 wr ga va1 ea1 gb vb1 eb1 V EF V EF := by
                    have h := HT.out
                    rw [hz, hEB] at h
                    exact h
                  have HTD := Lib.hid hTD
                  have HVLN : Hid (V.length ≤ 1000000 ∧ EF.length ≤ 1000000) := Lib.hid (by
                    have h1 := layV_le (VL.map Vr.v)
                    have h2 := layE_le V (EL.map Er.e)
                    rw [← HVD.out, List.length_map] at h1
                    rw [← HED.out, List.length_map] at h2
                    have := HN15.out
                    have := HNV.out
                    have := HNE.out
                    omega)
                  clear hTD hEB ez hz hi
                  go_wp2_with fail
                  refine (gall_any ga va1 ea1 V EF wr HTD.out.a HVLN.out.1 HVLN.out.2).mono ?_
                  rintro e w7 ⟨v1, v2, A1, A2, rfl, r1, r2, q1, q2, b7⟩
                  obtain ⟨s1, c1, rfl⟩ := r1.o.shape
                  obtain ⟨s2, c2, rfl⟩ := r2.o.shape
                  have HR1' := Lib.hid r1
                  have HR2' := Lib.hid r2
                  have HQ1 := Lib.hid q1
                  have HQ2 := Lib.hid q2
                  have HTE := Lib.hid (HTD.out.below b7)
                  clear r1 r2 q1 q2 b7 tz
                  go_wp2_with fail
                  refine (gall_any gb vb1 eb1 V EF w7 HTE.out.b HVLN.out.1 HVLN.out.2).mono ?_
                  rintro e w8 ⟨v3, v4, B1, B2, rfl, r3, r4, q3, q4, b8⟩
                  obtain ⟨s3, c3, rfl⟩ := r3.o.shape
                  obtain ⟨s4, c4, rfl⟩ := r4.o.shape
                  have HTF := Lib.hid (HTE.out.below b8)
                  have HSV8 : Hid (Calls Try.prog 43 #[.slice s1 A1.length c1, .slice s3 B1.length c3] w8 fun e w' => e = .returned (.bool true) ∧ ∃ n, w' = w8.drewN n) := Lib.hid (by
                    have r1 := HR1'.out.below b8
                    refine sameV_any s1 s3 c1 c3 A1 B1 w8 r1.o.toV r3.o.toV (fun x hx => ⟨(r1.p x hx).1, ?_⟩) (fun x hx => (r3.p x hx).1) (HQ1.out.trans q3.symm) (by have := congrArg List.length HQ1.out; rw [List.length_map] at this; have := HVLN.out.1; omega)
                    have hm : x.v ∈ V := by rw [← HQ1.out]; exact List.mem_map.2 ⟨x, hx, rfl⟩
                    have := checkR_ps (HTD.out.a.ok.v _ hm)
                    omega)
                  have HSE8 : Hid (∀ n, Calls Try.prog 44 #[.slice s2 A2.length c2, .slice s4 B2.length c4] (w8.drewN n) fun e w' => e = .returned (.bool true) ∧ ∃ m, w' = (w8.drewN n).drewN m) := Lib.hid (fun n => by
                    have hbd : Below w8.heap.size w8 (w8.drewN n) := below_drewN' (Below.refl _ _) n
                    have r2 := (HR2'.out.below b8).below hbd
                    have r4 := r4.below hbd
                    refine sameE_any s2 s4 c2 c4 A2 B2 (w8.drewN n) r2.o.toV r4.o.toV (fun x hx => ⟨(r2.p x hx).1, ?_⟩) (fun x hx => (r4.p x hx).1) (HQ2.out.trans q4.symm) (by have := congrArg List.length HQ2.out; rw [List.length_map] at this; have := HVLN.out.2; omega)
                    have hm : x.e ∈ EF := by rw [← HQ2.out]; exact List.mem_map.2 ⟨x, hx, rfl⟩
                    have := checkR_ps (HTD.out.a.ok.e _ hm)
                    omega)
                  clear r3 r4 q3 q4 b8
                  go_wp2_with fail
                  refine HSV8.out.mono ?_
                  rintro e w9 ⟨rfl, n9, rfl⟩
                  go_wp2_with fail
                  refine (HSE8.out n9).mono ?_
                  rintro e w9 ⟨rfl, m9, rfl⟩
                  go_wp2_with fail
                  go_ret
                  exact ⟨rfl, below_drewN (below_then HB1.out HTF.out.bel) _⟩
                · obtain ⟨k, hk⟩ : ∃ k, i = k + 1 := ⟨i - 1, by omega⟩
                  have ez : (i : Int) - 1 = (k : Int) := by omega
                  rw [ez]
                  obtain ⟨p, hp⟩ : ∃ p, p = (k + te) % ne := ⟨_, rfl⟩
                  obtain ⟨hq1, hq2⟩ := HQte.out (by omega)
                  have hpl : p < ne := by rw [hp]; exact Nat.mod_lt _ (by omega)
                  obtain ⟨x, hx⟩ : ∃ x, EL[p]? = some x := ⟨_, List.getElem?_eq_getElem (by have := HNE.out; omega)⟩
                  obtain ⟨s, hs⟩ : ∃ s, s = k + te := ⟨_, rfl⟩
                  obtain ⟨S, hS⟩ : ∃ S, S = wrap64 (turn.tmod (ne : Int) + (ne : Int)) := ⟨_, rfl⟩
                  rw [← hS] at hq1
                  have hw1 : IntKind.i64.wrap ((k : Int) + (te : Int)) = (s : Int) := by rw [IntKind.wrap_i64]; omega
                  have hp2 : (s : Int).tmod (ne : Int) = (p : Int) := by rw [hp, hs]; exact (Int.ofNat_tmod _ _).symm
                  have hn0 : ((ne : Int) == 0) = false := by simp; omega
                  have hn1 : (ne : Int) ≠ 0 := by omega
                  have hp3 : (0 : Int) ≤ (p : Int) := by omega
                  have hp4 : (p : Int) < (ne : Int) := by omega
                  obtain ⟨xb, xo, hxa, hat⟩ := (HV2.out.below HW.out) (fun e => by rw [e] at hx; simp at hx)
                  subst hxa
                  have x0 := hat.cells p x hx 0 _ rfl
                  have x1 := hat.cells p x hx 1 _ rfl
                  have x2 := hat.cells p x hx 2 _ rfl
                  have x3 := hat.cells p x hx 3 _ rfl
                  have x4 := hat.cells p x hx 4 _ rfl
                  simp [kEr] at x0 x1 x2 x3 x4
                  have zx := hat.lt
                  have hxm := List.mem_of_getElem? hx
                  have HRW := Lib.hid ((HR2.out x hxm).below HW.out)
                  have HAD := gaddE_any gb vb1 eb1 V (layE V ((rotL EL te i).map Er.e)) x.e x.a x.c wr HT.out.b (HRW.out.ps (HSE.out x hxm)) (by have := (of_decide_eq_true (HSE.out x hxm)).1; omega) HRW.out.2.2.2.1 HRW.out.2.2.2.2 (by have h := layE_le V ((rotL EL te i).map Er.e); rw [List.length_map] at h; have h2 := rotL_le EL te i; have := HNE.out; unfold maxLen; omega)
                  have HX : Hid (EL[(k + te) % EL.length]? = some x) := Lib.hid (by rw [← HNE.out, ← hp]; exact hx)
                  have HK : Hid (i = k + 1) := Lib.hid hk
                  have tk : decide ((0 : Int) ≤ (k : Int)) = true := by simp
                  have hS' := hS.symm
                  have hw9 : IntKind.i64.wrap ((k : Int) - 1) = (k : Int) - 1 := IntWalk.i64_in _ (by omega)
                  have hkn : k ≤ ne := by omega
                  have HST : Hid (rotL EL te k = rotL EL te i ++ [x]) := Lib.hid (by rw [hk]; exact rotL_step (by have := HNE.out; omega) HX.out)
                  clear hx hxm hat hp hs hS hq2 hz
                  go_wp2_with fail
                  refine HAD.mono ?_
                  rintro e w6 ⟨rfl, g6, c6⟩
                  have HT6 := Lib.hid (HT.out.addEb g6 c6)
                  clear g6 c6 HAD x0 x1 x2 x3 x4 zx hS' hw1 hp2 hn0 hn1 hp3 hp4 tk hq1
                  go_wp2_with fail
                  exact ⟨⟨k, by simp, hkn, Lib.hid (by rw [HST.out, List.map_append, List.map_singleton, layE_snoc]; exact HT6.out)⟩, by simp [intOf]⟩
            · obtain ⟨k, hk⟩ : ∃ k, i = k + 1 := ⟨i - 1, by omega⟩
              have ez : (i : Int) - 1 = (k : Int) := by omega
              rw [ez]
              obtain ⟨p, hp⟩ : ∃ p, p = (k + tv) % nv := ⟨_, rfl⟩
              obtain ⟨hq1, hq2⟩ := HQtv.out (by omega)
              have hpl : p < nv := by rw [hp]; exact Nat.mod_lt _ (by omega)
              obtain ⟨x, hx⟩ : ∃ x, VL[p]? = some x := ⟨_, List.getElem?_eq_getElem (by have := HNV.out; omega)⟩
              obtain ⟨s, hs⟩ : ∃ s, s = k + tv := ⟨_, rfl⟩
              obtain ⟨S, hS⟩ : ∃ S, S = wrap64 (turn.tmod (nv : Int) + (nv : Int)) := ⟨_, rfl⟩
              rw [← hS] at hq1
              have hw1 : IntKind.i64.wrap ((k : Int) + (tv : Int)) = (s : Int) := by rw [IntKind.wrap_i64]; omega
              have hp2 : (s : Int).tmod (nv : Int) = (p : Int) := by rw [hp, hs]; exact (Int.ofNat_tmod _ _).symm
              have hn0 : ((nv : Int) == 0) = false := by simp; omega
              have hn1 : (nv : Int) ≠ 0 := by omega
              have hp3 : (0 : Int) ≤ (p : Int) := by omega
              have hp4 : (p : Int) < (nv : Int) := by omega
              obtain ⟨xb, xo, hxa, hat⟩ := (HV1.out.below HW.out) (fun e => by rw [e] at hx; simp at hx)
              subst hxa
              have x0 := hat.cells p x hx 0 _ rfl
              have x1 := hat.cells p x hx 1 _ rfl
              have x2 := hat.cells p x hx 2 _ rfl
              simp [kVr] at x0 x1 x2
              have zx := hat.lt
              have hxm := List.mem_of_getElem? hx
              have HRW := Lib.hid ((HR1.out x hxm).below HW.out)
              have HAD := gaddV_any gb vb1 eb1 (layV ((rotL VL tv i).map Vr.v)) [] x.v x.a x.c wr HT.out.b (HRW.out.ps (HSV.out x hxm)) (by have := (of_decide_eq_true (HSV.out x hxm)).1; omega) HRW.out.2.2.2.1 HRW.out.2.2.2.2 (by have h := layV_le ((rotL VL tv i).map Vr.v); rw [List.length_map] at h; have h2 := rotL_le VL tv i; have := HNV.out; unfold maxLen; omega)
              have HX : Hid (VL[(k + tv) % VL.length]? = some x) := Lib.hid (by rw [← HNV.out, ← hp]; exact hx)
              have HK : Hid (i = k + 1) := Lib.hid hk
              have tk : decide ((0 : Int) ≤ (k : Int)) = true := by simp
              have hS' := hS.symm
              have hw9 : IntKind.i64.wrap ((k : Int) - 1) = (k : Int) - 1 := IntWalk.i64_in _ (by omega)
              have hkn : k ≤ nv := by omega
              have HST : Hid (rotL VL tv k = rotL VL tv i ++ [x]) := Lib.hid (by rw [hk]; exact rotL_step (by have := HNV.out; omega) HX.out)
              clear hx hxm hat hp hs hS hq2 hz
              go_wp2_with fail
              refine HAD.mono ?_
              rintro e w6 ⟨rfl, g6, c6⟩
              have HT6 := Lib.hid (HT.out.addVb g6 c6)
              clear g6 c6 HAD x0 x1 x2 zx hS' hw1 hp2 hn0 hn1 hp3 hp4 tk hq1
              go_wp2_with fail
              exact ⟨⟨k, by simp, hkn, Lib.hid (by rw [HST.out, List.map_append, List.map_singleton, layV_snoc]; exact HT6.out)⟩, by simp [intOf]⟩

end Go.Proofs.Ytaanohgkdpohhaa
