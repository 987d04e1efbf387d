/- Law WebSounds. Conditions: the arguments' own. (Printed by gen_ws2.py.) WebSounds' parts of an argument in memory. Conditions: the argument's own. -/
import Derived.Test.YtkbmipmegljidaaGreatWs1
import Derived.Deep.Cut
import Derived.Deep.CutRange
namespace Go.Proofs.YtkbmipmegljidaaGreat
open Go.RowKit Go.Maps

set_option maxRecDepth 100000 in
set_option maxHeartbeats 16000000 in
theorem wsounds_law (va ea : Option Addr) (vc ec : Nat) (VL : List Vr) (EL : List Er) (leave : Int) (w : World) (h1 : kVr.V w va VL) (h2 : kEr.V w ea EL) (h3 : ∀ x ∈ VL, VrRaw w x) (h4 : ∀ x ∈ EL, ErRaw w x) (ht : I64 leave) :
    Calls Tryz.prog 3 #[.agg #[.slice va VL.length vc, .slice ea EL.length ec], .int .i64 leave] w fun e w' => e = .returned (.bool true) ∧ Below w.heap.size w w' := by
  obtain ⟨nv, hnv⟩ : ∃ n, n = VL.length := ⟨_, rfl⟩
  obtain ⟨ne, hne⟩ : ∃ n, n = EL.length := ⟨_, rfl⟩
  obtain ⟨pb, hpb⟩ : ∃ pb, pb = w.heap.size := ⟨_, rfl⟩
  rw [← hnv, ← hne]
  obtain ⟨W, hW⟩ : ∃ W, W = w.alloc (.cells #[.slice va nv vc, .slice ea ne ec] 25) := ⟨_, rfl⟩
  have hbW : Below w.heap.size w W := by rw [hW]; exact below_box _ _
  have eW : W.heap[pb]? = some (.cells #[.slice va nv vc, .slice ea ne ec] 25 (0, 0)) := by rw [hW, hpb]; exact heap_new _ _
  have HBX : Hid (∀ u, Below W.heap.size W u → u.cell? ⟨pb, 0, none⟩ = some (.slice va nv vc) ∧ u.cell? ⟨pb, 1, none⟩ = some (.slice ea ne ec)) := Lib.hid fun u hu => by
    have e := (hu.block pb (Array.getElem?_eq_some_iff.1 eW).1).trans eW
    exact ⟨by simpa using cell_of_blk e 0, by simpa using cell_of_blk e 1⟩
  have HNV : Hid (nv = VL.length ∧ ne = EL.length) := Lib.hid ⟨hnv, hne⟩
  have HWW := Lib.hid hbW
  have HV1 : Hid (∀ u, Below W.heap.size W u → kVr.V u va VL ∧ ∀ x ∈ VL, VrRaw u x) := Lib.hid fun u hu => ⟨h1.below (below_then hbW hu), fun x hx => (h3 x hx).below (below_then hbW hu)⟩
  have HV2 : Hid (∀ u, Below W.heap.size W u → kEr.V u ea EL ∧ ∀ x ∈ EL, ErRaw u x) := Lib.hid fun u hu => ⟨h2.below (below_then hbW hu), fun x hx => (h4 x hx).below (below_then hbW hu)⟩
  have HTU := Lib.hid ht
  have HW := Lib.hid hW
  have HPB := Lib.hid hpb
  clear hnv hne h1 h2 h3 h4 ht hW hpb hbW eW
  go_enter Tryz.func3, Tryz.ntmps3
  go_wp2_with fail
  rw [← HPB.out, ← HW.out]
  refine (awake21_any W).mono ?_
  rintro e w1 ⟨rfl, b1⟩
  have HB1 := Lib.hid b1
  obtain ⟨p0, p1⟩ := HBX.out w1 b1
  clear b1
  by_cases h5 : 20 < nv
  · as_aux_lemma =>
      have t5 : decide ((20 : Int) < (nv : Int)) = true := decide_eq_true (by omega)
      clear h5
      go_wp2_with fail
      refine (awake21_any _).mono ?_
      rintro e w9 ⟨rfl, b9⟩
      have HB9 : Hid (Below w.heap.size w w9) := Lib.hid (below_then HWW.out (below_then HB1.out b9))
      clear b9
      go_wp2_with fail
      go_ret
      exact ⟨rfl, HB9.out⟩
  have t5 : decide ((20 : Int) < (nv : Int)) = false := decide_eq_false (by omega)
  by_cases h6 : 20 < ne
  · as_aux_lemma =>
      have t6 : decide ((20 : Int) < (ne : Int)) = true := decide_eq_true (by omega)
      clear h5 h6
      go_wp2_with fail
      refine (awake21_any _).mono ?_
      rintro e w9 ⟨rfl, b9⟩
      have HB9 : Hid (Below w.heap.size w w9) := Lib.hid (below_then HWW.out (below_then HB1.out b9))
      clear b9
      go_wp2_with fail
      go_ret
      exact ⟨rfl, HB9.out⟩
  have t6 : decide ((20 : Int) < (ne : Int)) = false := decide_eq_false (by omega)
  have hn20 : nv ≤ 20 ∧ ne ≤ 20 := by omega
  clear h5 h6
  go_wp2_with fail
  clear t5 t6 p0 p1
  obtain ⟨hnv20, hne20⟩ := hn20
  go_loopw [5] (fun i wr => ∃ k : Nat, k ≤ nv ∧ i = .int .i64 k ∧ Hid (Below W.heap.size W wr ∧ ∀ j x, j < k → VL[j]? = some x → OkVr x)) (fun i _ => nv - (intOf i).toNat)
  case atStart => exact ⟨0, by omega, rfl, Lib.hid ⟨HB1.out, fun j x hj => absurd hj (Nat.not_lt_zero _)⟩⟩
  case round =>
    obtain ⟨k, hk, rfl, HR⟩ := hrel
    clear HB1
    obtain ⟨p0, p1⟩ := HBX.out wr HR.out.1
    by_cases hlt : k < nv
    · as_aux_lemma =>
        obtain ⟨x, hx⟩ : ∃ x, VL[k]? = some x := ⟨_, List.getElem?_eq_getElem (by rw [← HNV.out.1]; exact hlt)⟩
        obtain ⟨hv, hraw⟩ := HV1.out wr HR.out.1
        obtain ⟨b, off, rfl, hat⟩ := hv (fun e => by rw [e] at hx; simp at hx)
        obtain ⟨d0, d1, d2⟩ := vr_cells hat hx
        have hlb := hat.lt
        have HXR := Lib.hid (hraw x (List.mem_of_getElem? hx))
        have HX : Hid (VL[k]? = some x) := Lib.hid hx
        have HP21 : Hid (Calls Tryz.prog 5 #[.slice x.a x.v.ps.length x.c] wr fun e w' => e = .returned (.bool (smallP x.v.ps)) ∧ wr = w') := Lib.hid (props21_any x.a x.c x.v.ps wr HXR.out.1 HXR.out.2.2.1)
        obtain ⟨q, hq⟩ : ∃ q, smallP x.v.ps = q := ⟨_, rfl⟩
        have HQ := Lib.hid hq
        rw [hq] at HP21
        clear hx hv hraw hat hq
        go_wp2_with fail
        refine HP21.out.mono ?_
        rintro e w2 ⟨rfl, rfl⟩
        cases q
        · go_wp2_with fail
          go_ret
          exact ⟨rfl, below_then HWW.out HR.out.1⟩
        · by_cases h2 : 200 < x.v.label.size
          · have t2 : decide ((200 : Int) < (x.v.label.size : Int)) = true := decide_eq_true (by omega)
            go_wp2_with fail
            go_ret
            exact ⟨rfl, below_then HWW.out HR.out.1⟩
          · have t2 : decide ((200 : Int) < (x.v.label.size : Int)) = false := decide_eq_false (by omega)
            have HF : Hid (Below W.heap.size W wr ∧ ∀ j x, j < k + 1 → VL[j]? = some x → OkVr x) := Lib.hid ⟨HR.out.1, fun j y hj hy => by
              by_cases e : j = k
              · subst e
                rw [HX.out] at hy
                injection hy with hy
                subst hy
                exact ⟨HQ.out, by omega⟩
              · exact HR.out.2 j y (by omega) hy⟩
            go_wp2_with fail
            exact ⟨⟨k + 1, by omega, by go_num, HF⟩, by simp [intOf]; omega⟩
    · obtain rfl : k = nv := by omega
      have HOV : Hid (∀ x ∈ VL, OkVr x) := Lib.hid fun x hx => by
        obtain ⟨j, hj⟩ := List.getElem?_of_mem hx
        exact HR.out.2 j x (by have h1 := (List.getElem?_eq_some_iff.1 hj).1; have h2 := HNV.out.1; omega) hj
      have HBL : Hid (Below W.heap.size W wr) := Lib.hid HR.out.1
      clear HR hlt
      go_wp2_with fail
      clear p0 p1
      go_loopw [6] (fun i wr => ∃ j : Nat, j ≤ ne ∧ i = .int .i64 j ∧ Hid (Below W.heap.size W wr ∧ ∀ m x, m < j → EL[m]? = some x → OkEr x)) (fun i _ => ne - (intOf i).toNat)
      case atStart => exact ⟨0, by omega, rfl, Lib.hid ⟨HBL.out, fun j x hj => absurd hj (Nat.not_lt_zero _)⟩⟩
      case round =>
        obtain ⟨j, hj, rfl, HR⟩ := hrel
        clear HBL
        obtain ⟨p0, p1⟩ := HBX.out wr HR.out.1
        by_cases hlt : j < ne
        · as_aux_lemma =>
            obtain ⟨x, hx⟩ : ∃ x, EL[j]? = some x := ⟨_, List.getElem?_eq_getElem (by rw [← HNV.out.2]; exact hlt)⟩
            obtain ⟨hv, hraw⟩ := HV2.out wr HR.out.1
            obtain ⟨b, off, rfl, hat⟩ := hv (fun e => by rw [e] at hx; simp at hx)
            obtain ⟨d0, d1, d2, d3, d4⟩ := er_cells hat hx
            have hlb := hat.lt
            have HXR := Lib.hid (hraw x (List.mem_of_getElem? hx))
            have HX : Hid (EL[j]? = some x) := Lib.hid hx
            have HP21 : Hid (Calls Tryz.prog 5 #[.slice x.a x.e.ps.length x.c] wr fun e w' => e = .returned (.bool (smallP x.e.ps)) ∧ wr = w') := Lib.hid (props21_any x.a x.c x.e.ps wr HXR.out.1 HXR.out.2.2.1)
            obtain ⟨q, hq⟩ : ∃ q, smallP x.e.ps = q := ⟨_, rfl⟩
            have HQ := Lib.hid hq
            rw [hq] at HP21
            clear hx hv hraw hat hq
            go_wp2_with fail
            refine HP21.out.mono ?_
            rintro e w2 ⟨rfl, rfl⟩
            cases q
            · go_wp2_with fail
              go_ret
              exact ⟨rfl, below_then HWW.out HR.out.1⟩
            · by_cases h2 : 200 < x.e.label.size
              · have t2 : decide ((200 : Int) < (x.e.label.size : Int)) = true := decide_eq_true (by omega)
                go_wp2_with fail
                go_ret
                exact ⟨rfl, below_then HWW.out HR.out.1⟩
              · have t2 : decide ((200 : Int) < (x.e.label.size : Int)) = false := decide_eq_false (by omega)
                have HF : Hid (Below W.heap.size W wr ∧ ∀ m x, m < j + 1 → EL[m]? = some x → OkEr x) := Lib.hid ⟨HR.out.1, fun m y hm hy => by
                  by_cases e : m = j
                  · subst e
                    rw [HX.out] at hy
                    injection hy with hy
                    subst hy
                    exact ⟨HQ.out, by omega⟩
                  · exact HR.out.2 m y (by omega) hy⟩
                go_wp2_with fail
                exact ⟨⟨j + 1, by omega, by go_num, HF⟩, by simp [intOf]; omega⟩
        · obtain rfl : j = ne := by omega
          have HOE : Hid (∀ x ∈ EL, OkEr x) := Lib.hid fun x hx => by
            obtain ⟨m, hm⟩ := List.getElem?_of_mem hx
            exact HR.out.2 m x (by have h1 := (List.getElem?_eq_some_iff.1 hm).1; have h2 := HNV.out.2; omega) hm
          have HBL : Hid (Below W.heap.size W wr) := Lib.hid HR.out.1
          clear HR hlt
          have hB17 := r17built_any va ea vc ec VL EL wr (ptIn_raw (HV1.out wr HBL.out).1 (HV2.out wr HBL.out).1 (HV1.out wr HBL.out).2 (HV2.out wr HBL.out).2 HOV.out HOE.out (by have := HNV.out; omega) (by have := HNV.out; omega))
          rw [← HNV.out.1, ← HNV.out.2] at hB17
          have hbf := built_facts (VL := VL) (EL := EL) (by have := HNV.out; omega) (by have := HNV.out; omega)
          have hfit := fit_built (HV1.out wr HBL.out).2 (HV2.out wr HBL.out).2 HOV.out HOE.out
          have HB17 := Lib.hid hB17
          clear hB17
          go_wp2_with fail
          refine HB17.out.mono ?_
          rintro e w5 ⟨rfl, hrg, hb5⟩
          obtain ⟨rb, hrb⟩ : ∃ rb, rb = wr.heap.size := ⟨_, rfl⟩
          rw [← hrb] at hrg ⊢
          obtain ⟨V0, hV0⟩ : ∃ V0, V0 = adV [] (VL.map Vr.v) := ⟨_, rfl⟩
          rw [← hV0] at hrg hbf hfit
          obtain ⟨E0, hE0⟩ : ∃ E0, E0 = adE V0 [] (EL.map Er.e) := ⟨_, rfl⟩
          rw [← hE0] at hrg hbf hfit
          obtain ⟨VB, EB, ⟨⟨va2, vc2, ea2, ec2, hblk, hov, hoe⟩, hpv, hpe, _⟩, hVB, hEB⟩ := hrg
          have HRG : Hid (∀ u, Below w5.heap.size w5 u → u.cell? ⟨rb, 0, none⟩ = some (.slice va2 VB.length vc2) ∧ u.cell? ⟨rb, 1, none⟩ = some (.slice ea2 EB.length ec2) ∧ kVr.V u va2 VB ∧ kEr.V u ea2 EB) := Lib.hid fun u hu => by
            have e := (hu.block rb (Array.getElem?_eq_some_iff.1 hblk).1).trans hblk
            exact ⟨by simpa using cell_of_blk e 0, by simpa using cell_of_blk e 1, hov.toV.below hu, hoe.toV.below hu⟩
          have HRP : Hid (∀ u, Below w5.heap.size w5 u → (∀ x ∈ VB, PsA u x.a x.c x.v.ps) ∧ ∀ x ∈ EB, PsA u x.a x.c x.e.ps) := Lib.hid fun u hu => ⟨fun x hx => (hpv x hx).1.below hu, fun x hx => (hpe x hx).1.below hu⟩
          have hvl : V0.length = VB.length := by rw [← hVB]; simp
          have hel : E0.length = EB.length := by rw [← hEB]; simp
          obtain ⟨nv0, hnv0⟩ : ∃ n, n = VB.length := ⟨_, rfl⟩
          obtain ⟨ne0, hne0⟩ : ∃ n, n = EB.length := ⟨_, rfl⟩
          rw [← hnv0, ← hne0] at HRG
          have HVI : Hid (∀ (k : Nat) (x : Vr), VB[k]? = some x → V0[k]? = some x.v) := Lib.hid fun k x hx => by rw [← hVB, List.getElem?_map, hx]; rfl
          have HEI : Hid (∀ (k : Nat) (x : Er), EB[k]? = some x → E0[k]? = some x.e) := Lib.hid fun k x hx => by rw [← hEB, List.getElem?_map, hx]; rfl
          have HMP : Hid (VB.map Vr.v = V0 ∧ EB.map Er.e = E0) := Lib.hid ⟨hVB, hEB⟩
          have HPG := Lib.hid hbf.1
          have HFT := Lib.hid hfit
          have hnv02 : nv0 ≤ 20 := by omega
          have hne02 : ne0 ≤ 20 := by omega
          have HNN : Hid (nv0 = VB.length ∧ ne0 = EB.length ∧ V0.length = nv0 ∧ E0.length = ne0) := Lib.hid ⟨hnv0, hne0, by omega, by omega⟩
          have HBW : Hid (∀ u, Below w5.heap.size w5 u → Below w.heap.size w u) := Lib.hid fun u hu => below_then HWW.out (below_then HBL.out (below_then hb5 hu))
          clear hrb hV0 hE0 hblk hov hoe hpv hpe hVB hEB hvl hel hnv0 hne0 hbf hfit hb5 HB17 HBL HOV HOE HV1 HV2 HNV HBX HWW p0 p1
          go_wp2_with fail
          go_loopw [8, 9] (fun sv i wr => ∃ (k : Nat) (sa : Option Addr) (sc : Nat), k ≤ nv0 ∧ sv = .slice sa k sc ∧ i = .int .i64 k ∧ Hid (kW.Own wr w5.heap.size (.slice sa k sc) (wsOf (V0.take k) []) ∧ Below w5.heap.size w5 wr)) (fun _ i _ => nv0 - (intOf i).toNat)
          case atStart => exact ⟨0, none, 0, by omega, rfl, rfl, Lib.hid ⟨RowK.Own.nil kW _ _, Below.refl _ _⟩⟩
          case round =>
            obtain ⟨k3, sa, sc, hk3, rfl, rfl, HR⟩ := hrel
            obtain ⟨r0, r1, hrv, hre⟩ := HRG.out wr HR.out.2
            by_cases hlt : k3 < nv0
            · obtain ⟨x, hx⟩ : ∃ x, VB[k3]? = some x := ⟨_, List.getElem?_eq_getElem (by rw [← HNN.out.1]; exact hlt)⟩
              obtain ⟨b, off, rfl, hat⟩ := hrv (fun e => by rw [e] at hx; simp at hx)
              obtain ⟨d0, d1, d2⟩ := vr_cells hat hx
              have hlb := hat.lt
              have hxv := HVI.out k3 x hx
              have hxm := List.mem_of_getElem? hxv
              obtain ⟨hfl, hfk⟩ := HFT.out.v _ hxm
              obtain ⟨ht1, ht2⟩ := vtext_vw HPG.out hxm
              have hvt := vertexText_any x.v.id x.v.label x.a x.c x.v.ps wr (checkR_ids ht2 (by simp)) hfl ((HRP.out wr HR.out.2).1 x (List.mem_of_getElem? hx)).v (by have := checkR_ps ht2; omega) (fun p hp => (hfk p hp).1)
              rw [ht1, ht2] at hvt
              obtain ⟨s, hs⟩ : ∃ s, s = (vw x.v).val := ⟨_, rfl⟩
              rw [← hs] at hvt
              have HTK : Hid (wsOf (V0.take (k3 + 1)) [] = wsOf (V0.take k3) [] ++ [vw x.v]) := Lib.hid (wsOf_takeV hxv)
              obtain ⟨id, lab, pa, pn, pc, i1, i2, i5, i6, i7⟩ : ∃ id lab pa pn pc, x.v.id = id ∧ x.v.label = lab ∧ x.a = pa ∧ x.v.ps.length = pn ∧ x.c = pc := ⟨_, _, _, _, _, rfl, rfl, rfl, rfl, rfl⟩
              have HXW : Hid (kW.cells [vw x.v] = [.int .i64 1, .int .i64 id, .int .i64 0, .string ⟨#[]⟩, .string s, .bool true]) := Lib.hid (by rw [hs, ← i1]; rfl)
              have HC0 : Hid (∀ u, Below wr.heap.size wr u → u.cell? ⟨rb, 0, none⟩ = some (.slice (some ⟨b, off, none⟩) nv0 vc2) ∧ u.cell? ⟨b, off + k3 * 3, none⟩ = some (.int .i64 id)) := Lib.hid fun u hu => ⟨(HRG.out u (below_then HR.out.2 hu)).1, by rw [← i1]; exact (hu.cell (p := ⟨b, off + k3 * 3, none⟩) hlb).trans d0⟩
              rw [i1] at d0 hvt
              rw [i2] at d1 hvt
              rw [i5, i6, i7] at d2 hvt
              have HVT := Lib.hid hvt
              have HLW : Hid ((wsOf (V0.take k3) []).length = k3) := Lib.hid (by rw [wsOf_len, List.length_take]; have := HNN.out; simp; omega)
              clear hx hat hxv hxm hfl hfk ht1 ht2 hvt hs i1 i2 i5 i6 i7 hrv hre
              go_wp2_with fail
              refine HVT.out.mono ?_
              rintro e w7 ⟨rfl, b7⟩
              obtain ⟨q0, q1⟩ := HC0.out w7 b7
              have hlb7 : b < w7.heap.size := Nat.lt_of_lt_of_le hlb b7.size
              have HB7 := Lib.hid b7
              clear b7 r0 r1 d0 d1 d2
              go_wp2_with fail
              refine (vertexKey_any id _).mono ?_
              rintro e w8 ⟨rfl, b8⟩
              obtain ⟨W8, hW8⟩ : ∃ W8, W8 = w8.alloc (.cells #[.int .i64 1, .int .i64 id, .int .i64 0, .string ⟨#[]⟩, .string s, .bool true] 44) := ⟨_, rfl⟩
              have hb8 : Below wr.heap.size wr W8 := below_then HB7.out (below_then b8 (by rw [hW8]; exact below_box _ _))
              have HVW : Hid (kW.V (w8.alloc (.cells #[.int .i64 1, .int .i64 id, .int .i64 0, .string ⟨#[]⟩, .string s, .bool true] 44)) (some ⟨w8.heap.size, 0, none⟩) [vw x.v]) := Lib.hid fun _ => ⟨_, 0, rfl, RowK.new_at (k := kW) (heap_new _ _) (by rw [HXW.out])⟩
              have HOW : Hid (kW.Own (w8.alloc (.cells #[.int .i64 1, .int .i64 id, .int .i64 0, .string ⟨#[]⟩, .string s, .bool true] 44)) w5.heap.size (.slice sa k3 sc) (wsOf (V0.take k3) [])) := Lib.hid (by rw [← hW8]; exact HR.out.1.below hb8)
              have HBB : Hid (Below w5.heap.size w5 (w8.alloc (.cells #[.int .i64 1, .int .i64 id, .int .i64 0, .string ⟨#[]⟩, .string s, .bool true] 44))) := Lib.hid (by rw [← hW8]; exact below_then HR.out.2 hb8)
              clear b8 hW8 hb8 q0 q1 hlb hlb7 HB7 HC0 HVT
              go_wp2_with (first | (at_builtin; refine RowK.wpList_app (k := kW) (B := w5.heap.size) (v := .slice sa k3 sc) (l := wsOf (V0.take k3) []) rfl _ _ rfl rfl HOW.out (some ⟨w8.heap.size, 0, none⟩) 1 [vw x.v] 1 rfl rfl HVW.out (fun e => by cases e) (by have := HLW.out; simp; omega) HBB.out.size ?_; intro v9 w9 hA; obtain ⟨a9, c9, hv9⟩ := hA.1.shape; rw [List.length_append, List.length_singleton, HLW.out] at hv9; subst hv9; have HF : Hid (kW.Own w9 w5.heap.size (.slice a9 (k3 + 1) c9) (wsOf (V0.take (k3 + 1)) []) ∧ Below w5.heap.size w5 w9) := Lib.hid ⟨by rw [HTK.out]; exact hA.1, app_below HBB.out (Nat.le_refl _) (fun j hj => (HOW.out.lt j hj).1) hA⟩; clear hA) | fail)
              exact ⟨⟨k3 + 1, a9, c9, by omega, rfl, by go_num, HF⟩, by simp [intOf]; omega⟩
            · obtain rfl : k3 = nv0 := by omega
              have HI3 : Hid (kW.Own wr w5.heap.size (.slice sa (k3 + 0) sc) (wsOf V0 (E0.take 0)) ∧ Below w5.heap.size w5 wr) := Lib.hid ⟨by
                have := HR.out.1
                rw [List.take_of_length_le (by have := HNN.out; omega)] at this
                exact this, HR.out.2⟩
              clear HR hlt hrv hre HVI
              go_wp2_with fail
              clear r0 r1
              go_loopw [8, 12] (fun sv i wr => ∃ (j : Nat) (sa : Option Addr) (sc : Nat), j ≤ ne0 ∧ sv = .slice sa (k3 + j) sc ∧ i = .int .i64 j ∧ Hid (kW.Own wr w5.heap.size (.slice sa (k3 + j) sc) (wsOf V0 (E0.take j)) ∧ Below w5.heap.size w5 wr)) (fun _ i _ => ne0 - (intOf i).toNat)
              case atStart => exact ⟨0, sa, sc, by omega, rfl, rfl, HI3⟩
              case round =>
                obtain ⟨j3, sa, sc, hj3, rfl, rfl, HR⟩ := hrel
                clear HI3
                obtain ⟨r0, r1, hrv, hre⟩ := HRG.out wr HR.out.2
                by_cases hlt : j3 < ne0
                · obtain ⟨x, hx⟩ : ∃ x, EB[j3]? = some x := ⟨_, List.getElem?_eq_getElem (by rw [← HNN.out.2.1]; exact hlt)⟩
                  obtain ⟨b, off, rfl, hat⟩ := hre (fun e => by rw [e] at hx; simp at hx)
                  obtain ⟨d0, d1, d2, d3, d4⟩ := er_cells hat hx
                  have hlb := hat.lt
                  have hxv := HEI.out j3 x hx
                  have hxm := List.mem_of_getElem? hxv
                  obtain ⟨hfl, hfk⟩ := HFT.out.e _ hxm
                  obtain ⟨ht1, ht2⟩ := vtext_ew HPG.out hxm
                  have hvt := edgeText_any x.e.id x.e.fr x.e.to x.e.label x.a x.c x.e.ps wr (checkR_ids ht2 (by simp)) (checkR_ids ht2 (by simp)) (checkR_ids ht2 (by simp)) hfl ((HRP.out wr HR.out.2).2 x (List.mem_of_getElem? hx)).v (by have := checkR_ps ht2; omega) (fun p hp => (hfk p hp).1)
                  rw [ht1, ht2] at hvt
                  obtain ⟨s, hs⟩ : ∃ s, s = (ew x.e).val := ⟨_, rfl⟩
                  rw [← hs] at hvt
                  have HTK : Hid (wsOf V0 (E0.take (j3 + 1)) = wsOf V0 (E0.take j3) ++ [ew x.e]) := Lib.hid (wsOf_takeE hxv)
                  obtain ⟨id, lab, fr, to', pa, pn, pc, i1, i2, i3, i4, i5, i6, i7⟩ : ∃ id lab fr to' pa pn pc, x.e.id = id ∧ x.e.label = lab ∧ x.e.fr = fr ∧ x.e.to = to' ∧ x.a = pa ∧ x.e.ps.length = pn ∧ x.c = pc := ⟨_, _, _, _, _, _, _, rfl, rfl, rfl, rfl, rfl, rfl, rfl⟩
                  have HXW : Hid (kW.cells [ew x.e] = [.int .i64 2, .int .i64 id, .int .i64 0, .string ⟨#[]⟩, .string s, .bool true]) := Lib.hid (by rw [hs, ← i1]; rfl)
                  have HC0 : Hid (∀ u, Below wr.heap.size wr u → u.cell? ⟨rb, 1, none⟩ = some (.slice (some ⟨b, off, none⟩) ne0 ec2) ∧ u.cell? ⟨b, off + j3 * 5, none⟩ = some (.int .i64 id)) := Lib.hid fun u hu => ⟨(HRG.out u (below_then HR.out.2 hu)).2.1, by rw [← i1]; exact (hu.cell (p := ⟨b, off + j3 * 5, none⟩) hlb).trans d0⟩
                  rw [i1] at d0
                  rw [i2] at d1
                  rw [i3] at d2
                  rw [i4] at d3
                  rw [i5, i6, i7] at d4
                  rw [i1, i2, i3, i4, i5, i6, i7] at hvt
                  have HVT := Lib.hid hvt
                  have HLW : Hid ((wsOf V0 (E0.take j3)).length = k3 + j3) := Lib.hid (by rw [wsOf_len, List.length_take]; have := HNN.out; omega)
                  clear hx hat hxv hxm hfl hfk ht1 ht2 hvt hs i1 i2 i3 i4 i5 i6 i7 hrv hre
                  go_wp2_with fail
                  refine HVT.out.mono ?_
                  rintro e w7 ⟨rfl, b7⟩
                  obtain ⟨q0, q1⟩ := HC0.out w7 b7
                  have hlb7 : b < w7.heap.size := Nat.lt_of_lt_of_le hlb b7.size
                  have HB7 := Lib.hid b7
                  clear b7 r0 r1 d0 d1 d2 d3 d4
                  go_wp2_with fail
                  refine (edgeKey_any id _).mono ?_
                  rintro e w8 ⟨rfl, b8⟩
                  obtain ⟨W8, hW8⟩ : ∃ W8, W8 = w8.alloc (.cells #[.int .i64 2, .int .i64 id, .int .i64 0, .string ⟨#[]⟩, .string s, .bool true] 44) := ⟨_, rfl⟩
                  have hb8 : Below wr.heap.size wr W8 := below_then HB7.out (below_then b8 (by rw [hW8]; exact below_box _ _))
                  have HVW : Hid (kW.V (w8.alloc (.cells #[.int .i64 2, .int .i64 id, .int .i64 0, .string ⟨#[]⟩, .string s, .bool true] 44)) (some ⟨w8.heap.size, 0, none⟩) [ew x.e]) := Lib.hid fun _ => ⟨_, 0, rfl, RowK.new_at (k := kW) (heap_new _ _) (by rw [HXW.out])⟩
                  have HOW : Hid (kW.Own (w8.alloc (.cells #[.int .i64 2, .int .i64 id, .int .i64 0, .string ⟨#[]⟩, .string s, .bool true] 44)) w5.heap.size (.slice sa (k3 + j3) sc) (wsOf V0 (E0.take j3))) := Lib.hid (by rw [← hW8]; exact HR.out.1.below hb8)
                  have HBB : Hid (Below w5.heap.size w5 (w8.alloc (.cells #[.int .i64 2, .int .i64 id, .int .i64 0, .string ⟨#[]⟩, .string s, .bool true] 44))) := Lib.hid (by rw [← hW8]; exact below_then HR.out.2 hb8)
                  clear b8 hW8 hb8 q0 q1 hlb hlb7 HB7 HC0 HVT
                  go_wp2_with (first | (at_builtin; refine RowK.wpList_app (k := kW) (B := w5.heap.size) (v := .slice sa (k3 + j3) sc) (l := wsOf V0 (E0.take j3)) rfl _ _ rfl rfl HOW.out (some ⟨w8.heap.size, 0, none⟩) 1 [ew x.e] 1 rfl rfl HVW.out (fun e => by cases e) (by have := HLW.out; simp; omega) HBB.out.size ?_; intro v9 w9 hA; obtain ⟨a9, c9, hv9⟩ := hA.1.shape; rw [List.length_append, List.length_singleton, HLW.out] at hv9; subst hv9; have HF : Hid (kW.Own w9 w5.heap.size (.slice a9 (k3 + (j3 + 1)) c9) (wsOf V0 (E0.take (j3 + 1))) ∧ Below w5.heap.size w5 w9) := Lib.hid ⟨by rw [HTK.out]; exact hA.1, app_below HBB.out (Nat.le_refl _) (fun j hj => (HOW.out.lt j hj).1) hA⟩; clear hA) | fail)
                  exact ⟨⟨j3 + 1, a9, c9, by omega, rfl, by go_num, HF⟩, by simp [intOf]; omega⟩
                · obtain rfl : j3 = ne0 := by omega
                  have hws := HR.out.1
                  rw [List.take_of_length_le (by have := HNN.out; omega)] at hws
                  have hwl : (wsOf V0 E0).length = k3 + j3 := by rw [wsOf_len]; have := HNN.out; omega
                  obtain ⟨n, hn⟩ : ∃ n, n = k3 + j3 := ⟨_, rfl⟩
                  rw [← hn] at hws hwl ⊢
                  have hn40 : n ≤ 40 := by omega
                  have hV20 : V0.length ≤ 1000 ∧ E0.length ≤ 1000 := by have := HNN.out; omega
                  have HWV0 : Hid (∀ u, Below wr.heap.size wr u → kW.V u sa (wsOf V0 E0)) := Lib.hid fun u hu => hws.toV.below hu
                  have HGO : Hid (Calls Tryz.prog 11 #[.slice sa n sc] wr (GraphPost wr V0 E0)) := Lib.hid (by
                    have h := graph_ok sa sc V0 E0 wr hws.toV HPG.out HFT.out hV20.1 hV20.2
                    rw [hwl] at h
                    exact h)
                  have HSO : Hid (∀ u, Below wr.heap.size wr u → Calls Tryz.prog 15 #[.slice sa n sc] u (WsdPost u (n == 0))) := Lib.hid fun u hu => by
                    have h := sound_ok sa sc V0 E0 u (hws.toV.below hu) HPG.out HFT.out hV20.1 hV20.2
                    rw [hwl] at h
                    exact h
                  have HWL : Hid ((wsOf V0 E0).length = n) := Lib.hid hwl
                  have HBR : Hid (Below w5.heap.size w5 wr) := Lib.hid HR.out.2
                  clear hws hwl hn hV20 HR hlt hrv hre HEI
                  go_wp2_with fail
                  refine HGO.out.mono ?_
                  rintro e wg ⟨gb, vb, eb, rfl, hg, hbg, _⟩
                  have HG := Lib.hid hg
                  have HBG := Lib.hid hbg
                  clear hg hbg r0 r1 HGO
                  go_wp2_with fail
                  refine (gall_any gb vb eb V0 E0 wg HG.out (by have := HNN.out; omega) (by have := HNN.out; omega)).mono ?_
                  rintro e wa ⟨v1, v2, VA, EA, rfl, rv, re, hVA, hEA, hba⟩
                  obtain ⟨a1, c1, rfl⟩ := rv.o.shape
                  obtain ⟨a2, c2, rfl⟩ := re.o.shape
                  have hla : VA.length = k3 := by have h1 := HNN.out.2.2.1; rw [← h1, ← hVA]; simp
                  have hle : EA.length = j3 := by have h1 := HNN.out.2.2.2; rw [← h1, ← hEA]; simp
                  have HBA : Hid (Below wr.heap.size wr wa) := Lib.hid (below_then HBG.out hba)
                  have HSV : Hid (Calls Tryz.prog 13 #[.slice a1 k3 c1, .slice va2 k3 vc2] wa fun e w' => e = .returned (.bool true) ∧ ∃ m, w' = wa.drewN m) := Lib.hid (by
                    have h := sameV_any a1 va2 c1 vc2 VA VB wa rv.o.toV (HRG.out wa (below_then HBR.out HBA.out)).2.2.1 (fun x hx => ⟨(rv.p x hx).1, by
                      have hm : x.v ∈ V0 := by rw [← hVA]; exact List.mem_map_of_mem hx
                      have := checkR_ps (HPG.out.v _ hm)
                      omega⟩) (HRP.out wa (below_then HBR.out HBA.out)).1 (hVA.trans HMP.out.1.symm) (by omega)
                    rw [hla, ← HNN.out.1] at h
                    exact h)
                  have HSE : Hid (∀ u, Below wa.heap.size wa u → Calls Tryz.prog 14 #[.slice a2 j3 c2, .slice ea2 j3 ec2] u fun e w' => e = .returned (.bool true) ∧ ∃ m, w' = u.drewN m) := Lib.hid fun u hu => by
                    have h := sameE_any a2 ea2 c2 ec2 EA EB u (re.o.toV.below hu) (HRG.out u (below_then HBR.out (below_then HBA.out hu))).2.2.2 (fun x hx => ⟨(re.p x hx).1.below hu, by
                      have hm : x.e ∈ E0 := by rw [← hEA]; exact List.mem_map_of_mem hx
                      have := checkR_ps (HPG.out.e _ hm)
                      omega⟩) (HRP.out u (below_then HBR.out (below_then HBA.out hu))).2 (hEA.trans HMP.out.2.symm) (by omega)
                    rw [hle, ← HNN.out.2.1] at h
                    exact h
                  rw [hla, hle]
                  obtain ⟨r0, r1, _, _⟩ := HRG.out wa (below_then HBR.out HBA.out)
                  clear rv re hVA hEA hba hla hle HG HBG HMP HRP
                  go_wp2_with fail
                  refine HSV.out.mono ?_
                  rintro e wb ⟨rfl, m1, rfl⟩
                  have hbb : Below wa.heap.size wa (wa.drewN m1) := below_drewN (Below.refl _ _) _
                  have HSE2 := Lib.hid (HSE.out _ hbb)
                  have HBB : Hid (Below wr.heap.size wr (wa.drewN m1)) := Lib.hid (below_then HBA.out hbb)
                  clear r0 r1 hbb
                  obtain ⟨r0, r1, _, _⟩ := HRG.out _ (below_then HBR.out HBB.out)
                  clear HSV HSE
                  go_wp2_with fail
                  refine HSE2.out.mono ?_
                  rintro e wc ⟨rfl, m2, hwc⟩
                  have HBC : Hid (Below wr.heap.size wr wc) := Lib.hid (below_then HBB.out (by rw [hwc]; exact below_drewN (Below.refl _ _) _))
                  have HSN := Lib.hid (HSO.out wc HBC.out)
                  clear hwc r0 r1 HSE2 HBB HRG HSO
                  go_wp2_with fail
                  refine HSN.out.mono ?_
                  rintro e wd ⟨rfl, hbd⟩
                  have HBD : Hid (Below wr.heap.size wr wd) := Lib.hid (below_then HBC.out hbd)
                  clear hbd HSN HBC
                  by_cases hn0 : n = 0
                  · have hz : ((n : Int) == 0) = true := by simp; omega
                    have hz1 : (n == 0) = true := by simp; omega
                    rw [hz1]
                    subst hn0
                    go_wp2_with fail
                    go_ret
                    exact ⟨rfl, HBW.out _ (below_then HBR.out HBD.out)⟩
                  · have hz1 : (n == 0) = false := by simp; omega
                    rw [hz1]
                    have hnp : (0 : Int) < (n : Int) := by omega
                    have m1' := Int.lt_tmod_of_pos leave hnp
                    have m2' := Int.tmod_lt_of_pos leave hnp
                    obtain ⟨kk, hK⟩ : ∃ K : Nat, (leave.tmod n + n) % n = (K : Int) := ⟨((leave.tmod n + n) % n).toNat, by have := Int.emod_nonneg (leave.tmod n + n) (show (n : Int) ≠ 0 by omega); omega⟩
                    have hK3 : (leave.tmod n + n).tmod n = (kk : Int) := by rw [Int.tmod_eq_emod_of_nonneg (by omega)]; exact hK
                    have hkk : kk < n := by have := Int.emod_lt_of_pos (leave.tmod n + n) hnp; omega
                    have hz : ((n : Int) == 0) = false := by simp; omega
                    have hz2 : (n : Int) ≠ 0 := by omega
                    have hz3 : n ≠ 0 := by omega
                    have q1 : IntKind.i64.wrap (leave.tmod n) = leave.tmod n := IntWalk.i64_in _ (by omega)
                    have q2 : IntKind.i64.wrap (leave.tmod n + n) = leave.tmod n + n := IntWalk.i64_in _ (by omega)
                    have q3 : IntKind.i64.wrap (kk : Int) = kk := IntWalk.i64_in _ (by omega)
                    clear hK hz1
                    go_upto_region 38 with fail
                    clear m1' m2' hK3 hz hz2 hz3 q1 q2 q3 hnp
                    obtain ⟨ws, hwsd⟩ : ∃ ws, ws = wsOf V0 E0 := ⟨_, rfl⟩
                    have hwl := HWL.out
                    rw [← hwsd] at hwl
                    have hwv := HWV0.out wd HBD.out
                    rw [← hwsd] at hwv
                    obtain ⟨⟨⟨x0, x1, x2, x3⟩, x4, x5⟩, hx⟩ : ∃ x, ws[kk]? = some x := ⟨_, List.getElem?_eq_getElem (by rw [hwl]; exact hkk)⟩
                    obtain ⟨b, off, rfl, hat⟩ := hwv (fun e => by rw [e] at hx; simp at hx)
                    obtain ⟨w6, hw6⟩ : ∃ w6, w6 = wd := ⟨_, rfl⟩
                    rw [← hw6] at hat HBD ⊢
                    clear hw6
                    have HS : Hid (∀ u, Below w6.heap.size w6 u → u.cell? ⟨b, off + kk * 6, none⟩ = some (.int .i64 x0) ∧ u.cell? ⟨b, off + kk * 6 + 1, none⟩ = some (.int .i64 x1) ∧ u.cell? ⟨b, off + kk * 6 + 2, none⟩ = some (.int .i64 x2) ∧ u.cell? ⟨b, off + kk * 6 + 3, none⟩ = some (.string x3) ∧ u.cell? ⟨b, off + kk * 6 + 4, none⟩ = some (.string x4) ∧ u.cell? ⟨b, off + kk * 6 + 5, none⟩ = some (.bool x5)) := Lib.hid fun u hu => kW_cells (hat.below hu) hx
                    have HWV : Hid (∀ u, Below w6.heap.size w6 u → kW.V u (some ⟨b, off, none⟩) ws) := Lib.hid fun u hu _ => ⟨b, off, rfl, hat.below hu⟩
                    have HWN : Hid (ws.length = n ∧ n ≤ 40) := Lib.hid ⟨hwl, hn40⟩
                    have hlb6 := hat.lt
                    have HXM : Hid (⟨⟨x0, x1, x2, x3⟩, x4, x5⟩ ∈ ws) := Lib.hid (List.mem_of_getElem? hx)
                    have HWD := Lib.hid hwsd
                    clear hwsd hwl hx hat HWV0 HWL
                    go_cut [20] from 214 to 223 (fun s20 wc => ∃ (ta : Option Addr) (tc : Nat) (u : World), s20 = .slice ta (n + 1) tc ∧ u = wc ∧ Hid (kW.V u ta (ws ++ [⟨⟨x0, x1, x2, x3⟩, x4, x5⟩]) ∧ Below w6.heap.size w6 u))
                    case first =>
                      refine wp_region_held_drew (S := (fun w' : World => w'.cell? ⟨b, off + kk * 6, none⟩ = some (.int .i64 x0) ∧ w'.cell? ⟨b, off + kk * 6 + 1, none⟩ = some (.int .i64 x1) ∧ w'.cell? ⟨b, off + kk * 6 + 2, none⟩ = some (.int .i64 x2) ∧ w'.cell? ⟨b, off + kk * 6 + 3, none⟩ = some (.string x3) ∧ w'.cell? ⟨b, off + kk * 6 + 4, none⟩ = some (.string x4) ∧ w'.cell? ⟨b, off + kk * 6 + 5, none⟩ = some (.bool x5))) (by kernel_rfl) (HS.out _ (below_drewN (Below.refl _ _) 1)) (fun hHeld => ?_)
                      obtain ⟨X4, hGen⟩ : ∃ u, u = World.drew w6 := ⟨_, rfl⟩
                      rw [← hGen] at hHeld ⊢
                      have HX4 : Hid (Below w6.heap.size w6 X4) := Lib.hid (by rw [hGen]; exact below_drewN (Below.refl _ _) 1)
                      clear hGen
                      refine wpAnyH_take (i := 1) (oi := ⟨some 215, _, _, _, _, _⟩) (v := ?vvz1) rfl (by kernel_rfl) (by kernel_rfl) (by kernel_rfl) (fun _ _ _ h => h) (Or.inl ⟨by rfl, ?yyz1⟩) hHeld ?rrz1
                      case yyz1 => (intro wq hSw; (try dsimp only at hSw); go_simp; first | done | with_reducible rfl)
                      simp only [Act.put, List.setIfInBounds_toArray, List.set_cons_zero, List.set_cons_succ]
                      refine wpAnyH_take (i := 3) (oi := ⟨some 217, _, _, _, _, _⟩) (v := ?vvz2) rfl (by kernel_rfl) (by kernel_rfl) (by kernel_rfl) (fun _ _ _ h => h) (Or.inl ⟨by rfl, ?yyz2⟩) hHeld ?rrz2
                      case yyz2 => (intro wq hSw; (try dsimp only at hSw); go_simp; first | done | with_reducible rfl)
                      simp only [Act.put, List.setIfInBounds_toArray, List.set_cons_zero, List.set_cons_succ]
                      refine wpAnyH_take (i := 4) (oi := ⟨some 218, _, _, _, _, _⟩) (v := ?vvz3) rfl (by kernel_rfl) (by kernel_rfl) (by kernel_rfl) (fun _ _ _ h => h) (Or.inl ⟨by rfl, ?yyz3⟩) hHeld ?rrz3
                      case yyz3 => (intro wq hSw; (try dsimp only at hSw); go_simp; first | done | with_reducible rfl)
                      simp only [Act.put, List.setIfInBounds_toArray, List.set_cons_zero, List.set_cons_succ]
                      refine wpAnyH_take (i := 5) (oi := ⟨some 219, _, _, _, _, _⟩) (v := ?vvz4) rfl (by kernel_rfl) (by kernel_rfl) (by kernel_rfl) (fun _ _ _ h => h) (Or.inl ⟨by rfl, ?yyz4⟩) hHeld ?rrz4
                      case yyz4 => (intro wq hSw; (try dsimp only at hSw); go_simp; first | done | with_reducible rfl)
                      simp only [Act.put, List.setIfInBounds_toArray, List.set_cons_zero, List.set_cons_succ]
                      refine wpAnyH_take (i := 6) (oi := ⟨some 220, _, _, _, _, _⟩) (v := ?vvz5) rfl (by kernel_rfl) (by kernel_rfl) (by kernel_rfl) (fun _ _ _ h => h) (Or.inl ⟨by rfl, ?yyz5⟩) hHeld ?rrz5
                      case yyz5 => (intro wq hSw; (try dsimp only at hSw); go_simp; first | done | with_reducible rfl)
                      simp only [Act.put, List.setIfInBounds_toArray, List.set_cons_zero, List.set_cons_succ]
                      refine wpAnyH_ready (rs := [0, 7]) (by kernel_rfl) (by simp) ?_
                      refine AllReadyH.cons (o := ⟨some 214, _, _, _, _, _⟩) rfl (fun K hK => ?_) (AllReadyH.cons (o := ⟨some 221, _, _, _, _, _⟩) rfl (fun K hK => ?_) AllReadyH.nil)
                      · go_simp
                        obtain ⟨n1, hn⟩ : ∃ u, u = X4.alloc (.cells #[] 44) := ⟨_, rfl⟩
                        obtain ⟨g2, hg⟩ : ∃ g, g = X4.heap.size := ⟨_, rfl⟩
                        rw [← hn, ← hg]
                        have hb4 : Below X4.heap.size X4 n1 := by rw [hn]; exact below_box _ _
                        have HB3 : Hid (Below w6.heap.size w6 n1) := Lib.hid (below_then HX4.out hb4)
                        have HE5 : Hid (TwE w6 n1 g2) := Lib.hid ⟨by rw [hg]; exact HX4.out.size, by rw [hn, hg]; exact heap_new _ _⟩
                        clear hn hg hb4
                        try dsimp only
                        refine hK.out _ _ ?ssz6 (fun hHeld => ?_)
                        case ssz6 => (exact HS.out _ HB3.out)
                        clear hK K
                        try simp only [Act.put, List.setIfInBounds_toArray, List.set_cons_zero, List.set_cons_succ]
                        refine wpAnyH_ready (rs := [2, 7]) (by kernel_rfl) (by simp) ?_
                        refine AllReadyH.cons (o := ⟨some 216, _, _, _, _, _⟩) rfl (fun K hK => ?_) (AllReadyH.cons (o := ⟨some 221, _, _, _, _, _⟩) rfl (fun K hK => ?_) AllReadyH.nil)
                        · refine RowK.step_app (k := kW) (B := w6.heap.size) (v := .slice (some ⟨g2, 0, none⟩) 0 0) (l := []) rfl (.tmp 214) (.tmp 215) rfl rfl HE5.out.own (some ⟨b, off, none⟩) n ws sc rfl HWN.out.1 (HWV.out _ HB3.out) (fun e => by cases e) (by have := HWN.out; simp; omega) HB3.out.size ?_
                          intro v5 u6 hA
                          have HB7 := Lib.hid (app_below HB3.out (Nat.le_refl _) (fun j hj => by injection hj with hj; subst hj; exact HE5.out.1) hA)
                          have HA8 : Hid (kW.Own u6 w6.heap.size v5 ws) := Lib.hid (by have := hA.1; rw [List.nil_append] at this; exact this)
                          clear hA
                          try dsimp only
                          refine hK.out _ _ ?ssz7 (fun hHeld => ?_)
                          case ssz7 => (exact HS.out _ HB7.out)
                          clear hK K
                          try simp only [Act.put, List.setIfInBounds_toArray, List.set_cons_zero, List.set_cons_succ]
                          refine wpAnyH_ready (rs := [7]) (by kernel_rfl) (by simp) ?_
                          refine AllReadyH.cons (o := ⟨some 221, _, _, _, _, _⟩) rfl (fun K hK => ?_) AllReadyH.nil
                          go_simp
                          obtain ⟨n9, hn⟩ : ∃ u, u = u6.alloc (.cells #[.int .i64 x0, .int .i64 x1, .int .i64 x2, .string x3, .string x4, .bool x5] 44) := ⟨_, rfl⟩
                          obtain ⟨g10, hg⟩ : ∃ g, g = u6.heap.size := ⟨_, rfl⟩
                          rw [← hn, ← hg]
                          have hb12 : Below u6.heap.size u6 n9 := by rw [hn]; exact below_box _ _
                          have HA13 := Lib.hid (HA8.out.below hb12)
                          have HB11 : Hid (Below w6.heap.size w6 n9) := Lib.hid (below_then HB7.out hb12)
                          have HX14 : Hid (TwX w6 n9 ⟨⟨x0, x1, x2, x3⟩, x4, x5⟩ g10) := Lib.hid ⟨by rw [hg]; exact HB7.out.size, by rw [hn, hg]; exact heap_new _ _⟩
                          clear hn hg hb12
                          try dsimp only
                          refine hK.out _ _ ?ssz8 (fun hHeld => ?_)
                          case ssz8 => (exact HS.out _ HB11.out)
                          clear hK K
                          try simp only [Act.put, List.setIfInBounds_toArray, List.set_cons_zero, List.set_cons_succ]
                          refine wpAnyH_ready (rs := [8]) (by kernel_rfl) (by simp) ?_
                          refine AllReadyH.cons (o := ⟨some 222, _, _, _, _, _⟩) rfl (fun K hK => ?_) AllReadyH.nil
                          refine RowK.step_app (k := kW) (B := w6.heap.size) (v := v5) (l := ws) rfl (.tmp 216) (.tmp 221) rfl rfl HA13.out (some ⟨g10, 0, none⟩) 1 [⟨⟨x0, x1, x2, x3⟩, x4, x5⟩] 1 rfl rfl HX14.out.row (fun e => by cases e) (by have := HWN.out; simp; omega) HB11.out.size ?_
                          intro v6 u15 hA
                          have HB16 := Lib.hid (app_below HB11.out (Nat.le_refl _) (fun j hj => (HA13.out.lt j hj).1) hA)
                          obtain ⟨ta, tc, hv6⟩ := hA.1.shape
                          rw [List.length_append, List.length_singleton, HWN.out.1] at hv6
                          subst hv6
                          have HA17 := Lib.hid hA.1.toV
                          clear hA
                          try dsimp only
                          refine hK.out _ _ ?ssz9 (fun hHeld => ?_)
                          case ssz9 => (exact HS.out _ HB16.out)
                          clear hK K
                          try simp only [Act.put, List.setIfInBounds_toArray, List.set_cons_zero, List.set_cons_succ]
                          refine wpAnyH_take (i := 9) (oi := ⟨some 20, _, _, _, _, _⟩) (v := ?vvz10) rfl (by kernel_rfl) (by kernel_rfl) (by kernel_rfl) (fun _ _ _ h => h) (Or.inl ⟨by rfl, ?yyz10⟩) hHeld ?rrz10
                          case yyz10 => (intro wq hSw; (try dsimp only at hSw); go_simp; first | done | with_reducible rfl)
                          simp only [Act.put, List.setIfInBounds_toArray, List.set_cons_zero, List.set_cons_succ]
                          refine wpAnyH_done (by kernel_rfl) ?_ _
                          clear hHeld
                          go_wp2_with fail
                          go_meet
                          exact ⟨_, _, _, rfl, rfl, Lib.hid ⟨HA17.out, HB16.out⟩⟩
                        · go_simp
                          obtain ⟨n18, hn⟩ : ∃ u, u = n1.alloc (.cells #[.int .i64 x0, .int .i64 x1, .int .i64 x2, .string x3, .string x4, .bool x5] 44) := ⟨_, rfl⟩
                          obtain ⟨g19, hg⟩ : ∃ g, g = n1.heap.size := ⟨_, rfl⟩
                          rw [← hn, ← hg]
                          have hb21 : Below n1.heap.size n1 n18 := by rw [hn]; exact below_box _ _
                          have HE22 := Lib.hid (HE5.out.below hb21)
                          have HB20 : Hid (Below w6.heap.size w6 n18) := Lib.hid (below_then HB3.out hb21)
                          have HX23 : Hid (TwX w6 n18 ⟨⟨x0, x1, x2, x3⟩, x4, x5⟩ g19) := Lib.hid ⟨by rw [hg]; exact HB3.out.size, by rw [hn, hg]; exact heap_new _ _⟩
                          clear hn hg hb21
                          try dsimp only
                          refine hK.out _ _ ?ssz11 (fun hHeld => ?_)
                          case ssz11 => (exact HS.out _ HB20.out)
                          clear hK K
                          try simp only [Act.put, List.setIfInBounds_toArray, List.set_cons_zero, List.set_cons_succ]
                          refine wpAnyH_ready (rs := [2]) (by kernel_rfl) (by simp) ?_
                          refine AllReadyH.cons (o := ⟨some 216, _, _, _, _, _⟩) rfl (fun K hK => ?_) AllReadyH.nil
                          refine RowK.step_app (k := kW) (B := w6.heap.size) (v := .slice (some ⟨g2, 0, none⟩) 0 0) (l := []) rfl (.tmp 214) (.tmp 215) rfl rfl HE22.out.own (some ⟨b, off, none⟩) n ws sc rfl HWN.out.1 (HWV.out _ HB20.out) (fun e => by cases e) (by have := HWN.out; simp; omega) HB20.out.size ?_
                          intro v5 u24 hA
                          have HB25 := Lib.hid (app_below HB20.out (Nat.le_refl _) (fun j hj => by injection hj with hj; subst hj; exact HE22.out.1) hA)
                          have HX27 := Lib.hid (HX23.out.grown HE22.out hA.2.1)
                          have HA26 : Hid (kW.Own u24 w6.heap.size v5 ws) := Lib.hid (by have := hA.1; rw [List.nil_append] at this; exact this)
                          clear hA
                          try dsimp only
                          refine hK.out _ _ ?ssz12 (fun hHeld => ?_)
                          case ssz12 => (exact HS.out _ HB25.out)
                          clear hK K
                          try simp only [Act.put, List.setIfInBounds_toArray, List.set_cons_zero, List.set_cons_succ]
                          refine wpAnyH_ready (rs := [8]) (by kernel_rfl) (by simp) ?_
                          refine AllReadyH.cons (o := ⟨some 222, _, _, _, _, _⟩) rfl (fun K hK => ?_) AllReadyH.nil
                          refine RowK.step_app (k := kW) (B := w6.heap.size) (v := v5) (l := ws) rfl (.tmp 216) (.tmp 221) rfl rfl HA26.out (some ⟨g19, 0, none⟩) 1 [⟨⟨x0, x1, x2, x3⟩, x4, x5⟩] 1 rfl rfl HX27.out.row (fun e => by cases e) (by have := HWN.out; simp; omega) HB25.out.size ?_
                          intro v6 u28 hA
                          have HB29 := Lib.hid (app_below HB25.out (Nat.le_refl _) (fun j hj => (HA26.out.lt j hj).1) hA)
                          obtain ⟨ta, tc, hv6⟩ := hA.1.shape
                          rw [List.length_append, List.length_singleton, HWN.out.1] at hv6
                          subst hv6
                          have HA30 := Lib.hid hA.1.toV
                          clear hA
                          try dsimp only
                          refine hK.out _ _ ?ssz13 (fun hHeld => ?_)
                          case ssz13 => (exact HS.out _ HB29.out)
                          clear hK K
                          try simp only [Act.put, List.setIfInBounds_toArray, List.set_cons_zero, List.set_cons_succ]
                          refine wpAnyH_take (i := 9) (oi := ⟨some 20, _, _, _, _, _⟩) (v := ?vvz14) rfl (by kernel_rfl) (by kernel_rfl) (by kernel_rfl) (fun _ _ _ h => h) (Or.inl ⟨by rfl, ?yyz14⟩) hHeld ?rrz14
                          case yyz14 => (intro wq hSw; (try dsimp only at hSw); go_simp; first | done | with_reducible rfl)
                          simp only [Act.put, List.setIfInBounds_toArray, List.set_cons_zero, List.set_cons_succ]
                          refine wpAnyH_done (by kernel_rfl) ?_ _
                          clear hHeld
                          go_wp2_with fail
                          go_meet
                          exact ⟨_, _, _, rfl, rfl, Lib.hid ⟨HA30.out, HB29.out⟩⟩
                      · go_simp
                        obtain ⟨n31, hn⟩ : ∃ u, u = X4.alloc (.cells #[.int .i64 x0, .int .i64 x1, .int .i64 x2, .string x3, .string x4, .bool x5] 44) := ⟨_, rfl⟩
                        obtain ⟨g32, hg⟩ : ∃ g, g = X4.heap.size := ⟨_, rfl⟩
                        rw [← hn, ← hg]
                        have hb34 : Below X4.heap.size X4 n31 := by rw [hn]; exact below_box _ _
                        have HB33 : Hid (Below w6.heap.size w6 n31) := Lib.hid (below_then HX4.out hb34)
                        have HX35 : Hid (TwX w6 n31 ⟨⟨x0, x1, x2, x3⟩, x4, x5⟩ g32) := Lib.hid ⟨by rw [hg]; exact HX4.out.size, by rw [hn, hg]; exact heap_new _ _⟩
                        clear hn hg hb34
                        try dsimp only
                        refine hK.out _ _ ?ssz15 (fun hHeld => ?_)
                        case ssz15 => (exact HS.out _ HB33.out)
                        clear hK K
                        try simp only [Act.put, List.setIfInBounds_toArray, List.set_cons_zero, List.set_cons_succ]
                        refine wpAnyH_ready (rs := [0]) (by kernel_rfl) (by simp) ?_
                        refine AllReadyH.cons (o := ⟨some 214, _, _, _, _, _⟩) rfl (fun K hK => ?_) AllReadyH.nil
                        go_simp
                        obtain ⟨n36, hn⟩ : ∃ u, u = n31.alloc (.cells #[] 44) := ⟨_, rfl⟩
                        obtain ⟨g37, hg⟩ : ∃ g, g = n31.heap.size := ⟨_, rfl⟩
                        rw [← hn, ← hg]
                        have hb39 : Below n31.heap.size n31 n36 := by rw [hn]; exact below_box _ _
                        have HX40 := Lib.hid (HX35.out.below hb39)
                        have HB38 : Hid (Below w6.heap.size w6 n36) := Lib.hid (below_then HB33.out hb39)
                        have HE41 : Hid (TwE w6 n36 g37) := Lib.hid ⟨by rw [hg]; exact HB33.out.size, by rw [hn, hg]; exact heap_new _ _⟩
                        clear hn hg hb39
                        try dsimp only
                        refine hK.out _ _ ?ssz16 (fun hHeld => ?_)
                        case ssz16 => (exact HS.out _ HB38.out)
                        clear hK K
                        try simp only [Act.put, List.setIfInBounds_toArray, List.set_cons_zero, List.set_cons_succ]
                        refine wpAnyH_ready (rs := [2]) (by kernel_rfl) (by simp) ?_
                        refine AllReadyH.cons (o := ⟨some 216, _, _, _, _, _⟩) rfl (fun K hK => ?_) AllReadyH.nil
                        refine RowK.step_app (k := kW) (B := w6.heap.size) (v := .slice (some ⟨g37, 0, none⟩) 0 0) (l := []) rfl (.tmp 214) (.tmp 215) rfl rfl HE41.out.own (some ⟨b, off, none⟩) n ws sc rfl HWN.out.1 (HWV.out _ HB38.out) (fun e => by cases e) (by have := HWN.out; simp; omega) HB38.out.size ?_
                        intro v5 u42 hA
                        have HB43 := Lib.hid (app_below HB38.out (Nat.le_refl _) (fun j hj => by injection hj with hj; subst hj; exact HE41.out.1) hA)
                        have HX45 := Lib.hid (HX40.out.grown HE41.out hA.2.1)
                        have HA44 : Hid (kW.Own u42 w6.heap.size v5 ws) := Lib.hid (by have := hA.1; rw [List.nil_append] at this; exact this)
                        clear hA
                        try dsimp only
                        refine hK.out _ _ ?ssz17 (fun hHeld => ?_)
                        case ssz17 => (exact HS.out _ HB43.out)
                        clear hK K
                        try simp only [Act.put, List.setIfInBounds_toArray, List.set_cons_zero, List.set_cons_succ]
                        refine wpAnyH_ready (rs := [8]) (by kernel_rfl) (by simp) ?_
                        refine AllReadyH.cons (o := ⟨some 222, _, _, _, _, _⟩) rfl (fun K hK => ?_) AllReadyH.nil
                        refine RowK.step_app (k := kW) (B := w6.heap.size) (v := v5) (l := ws) rfl (.tmp 216) (.tmp 221) rfl rfl HA44.out (some ⟨g32, 0, none⟩) 1 [⟨⟨x0, x1, x2, x3⟩, x4, x5⟩] 1 rfl rfl HX45.out.row (fun e => by cases e) (by have := HWN.out; simp; omega) HB43.out.size ?_
                        intro v6 u46 hA
                        have HB47 := Lib.hid (app_below HB43.out (Nat.le_refl _) (fun j hj => (HA44.out.lt j hj).1) hA)
                        obtain ⟨ta, tc, hv6⟩ := hA.1.shape
                        rw [List.length_append, List.length_singleton, HWN.out.1] at hv6
                        subst hv6
                        have HA48 := Lib.hid hA.1.toV
                        clear hA
                        try dsimp only
                        refine hK.out _ _ ?ssz18 (fun hHeld => ?_)
                        case ssz18 => (exact HS.out _ HB47.out)
                        clear hK K
                        try simp only [Act.put, List.setIfInBounds_toArray, List.set_cons_zero, List.set_cons_succ]
                        refine wpAnyH_take (i := 9) (oi := ⟨some 20, _, _, _, _, _⟩) (v := ?vvz19) rfl (by kernel_rfl) (by kernel_rfl) (by kernel_rfl) (fun _ _ _ h => h) (Or.inl ⟨by rfl, ?yyz19⟩) hHeld ?rrz19
                        case yyz19 => (intro wq hSw; (try dsimp only at hSw); go_simp; first | done | with_reducible rfl)
                        simp only [Act.put, List.setIfInBounds_toArray, List.set_cons_zero, List.set_cons_succ]
                        refine wpAnyH_done (by kernel_rfl) ?_ _
                        clear hHeld
                        go_wp2_with fail
                        go_meet
                        exact ⟨_, _, _, rfl, rfl, Lib.hid ⟨HA48.out, HB47.out⟩⟩
                    case rest =>
                    obtain ⟨ta, tc, w7, rfl, rfl, HT⟩ := hcut
                    obtain ⟨zs, hzs⟩ : ∃ zs, zs = ws ++ [(⟨⟨x0, x1, x2, x3⟩, x4, x5⟩ : Wr)] := ⟨_, rfl⟩
                    have hzl : zs.length = n + 1 := by rw [hzs, List.length_append, List.length_singleton, HWN.out.1]
                    have hzh : ∀ x ∈ zs, x.has = true := fun x hx => by
                      rw [hzs] at hx
                      have hx2 : x ∈ ws := by
                        rcases List.mem_append.1 hx with h | h
                        · exact h
                        · rw [List.mem_singleton.1 h]; exact HXM.out
                      rw [HWD.out] at hx2
                      exact wsOf_has x hx2
                    have hzd : adjW (srtW zs) := adjW_dup (by rw [hzs]; exact dup_app HXM.out)
                    have hzv := HT.out.1
                    rw [← hzs] at hzv
                    have HGD : Hid (Calls Tryz.prog 11 #[.slice ta (n + 1) tc] w7 (DupPost w7)) := Lib.hid (by
                      have h := graph_dup ta tc zs w7 hzv (by omega) hzh hzd
                      rw [hzl] at h
                      exact h)
                    have HSD : Hid (∀ u, Below w7.heap.size w7 u → Calls Tryz.prog 15 #[.slice ta (n + 1) tc] u (WsdPost u false)) := Lib.hid fun u hu => by
                      have h := sound_dup ta tc zs u (hzv.below hu) (by omega) hzh hzd
                      rw [hzl] at h
                      exact h
                    have HB7 : Hid (Below w6.heap.size w6 w7) := Lib.hid HT.out.2
                    clear hzs hzl hzh hzd hzv HT HS HWV HXM HWD
                    go_wp2_with fail
                    refine HGD.out.mono ?_
                    rintro e w8 ⟨rfl, hb8⟩
                    have HB8 := Lib.hid hb8
                    have HSD2 := Lib.hid (HSD.out w8 hb8)
                    clear hb8 HGD HSD
                    go_wp2_with fail
                    refine HSD2.out.mono ?_
                    rintro e w9 ⟨rfl, hb9⟩
                    have HB9 : Hid (Below w.heap.size w w9) := Lib.hid (HBW.out _ (below_then HBR.out (below_then HBD.out (below_then HB7.out (below_then HB8.out hb9)))))
                    clear hb9
                    go_wp2_with fail
                    go_ret
                    exact ⟨rfl, HB9.out⟩
end Go.Proofs.YtkbmipmegljidaaGreat
namespace Go.Proofs.YtkbmipmegljidaaGreat
open Go.RowKit Go.Maps

set_option maxRecDepth 100000 in
theorem wpartsM {w : World} {cs : List Value} (h : Mem Tryz.prog w 25 cs) : ∃ (va : Option Addr) (VL : List Vr) (vc : Nat) (ea : Option Addr) (EL : List Er) (ec : Nat), cs = [.slice va VL.length vc, .slice ea EL.length ec] ∧ kVr.V w va VL ∧ kEr.V w ea EL ∧ (∀ x ∈ VL, VrRaw w x) ∧ ∀ x ∈ EL, ErRaw w x := by
  obtain ⟨hl, hf⟩ := h.struct Tryz.underlying25
  have e0 : Tryz.prog.cellsOf 25 = 2 := by kernel_rfl
  have e1 : Tryz.prog.cellsOf 22 = 1 := by kernel_rfl
  have e2 : Tryz.prog.cellsOf 23 = 1 := by kernel_rfl
  rw [e0] at hl
  obtain ⟨va, VL, vc, h1, _, h4, h5⟩ := verticesM (hf 0 _ rfl)
  obtain ⟨ea, EL, ec, g1, _, g4, g5⟩ := edgesM (hf 1 _ rfl)
  obtain ⟨p, q, rfl⟩ : ∃ p q, cs = [p, q] := by
    match cs, hl with
    | [p, q], _ => exact ⟨p, q, rfl⟩
  simp [e1, e2] at h1 g1
  subst h1 g1
  exact ⟨va, VL, vc, ea, EL, ec, rfl, h4, g4, h5, g5⟩
end Go.Proofs.YtkbmipmegljidaaGreat
