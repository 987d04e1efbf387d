/- Reference 16 and 3: the place of a vertex, of a key; a vertex' value, for a graph whose rows lie anywhere. Conditions: each contract's own premises. (The first is printed by gen_gf1.py out of Rg2.) Reference 16: Value. Conditions: the contract's own premises. -/
import Derived.Test.YtonilojjahfboaaGreatGlA
import Derived.Test.YtonilojjahfboaaGreatQb3
import Derived.Test.YtonilojjahfboaaGreatRgA
namespace Go.Proofs.YtonilojjahfboaaGreat
open Go.RowKit Go.Maps

set_option maxRecDepth 100000 in
set_option maxHeartbeats 2000000 in
theorem r16V_at {w : World} {rb : Nat} {VL : List Vr} {va : Option Addr} {vc : Nat} (c0 : w.cell? ⟨rb, 0, none⟩ = some (.slice va VL.length vc)) (hv : kVr.V w va VL) (hl : VL.length ≤ 1000000) (n : Int) :
    Calls Tryz.prog 66 #[.pointer (some ⟨rb, 0, none⟩), .int .i64 n] w fun e w' => w = w' ∧ ∃ r, e = .returned (.int .i64 r) ∧ AtB (fun x : Vr => x.v.id) VL n r := by
  obtain ⟨m, hm⟩ : ∃ m, m = VL.length := ⟨_, rfl⟩
  have HV := Lib.hid hv
  have HZ : Hid (rb < w.heap.size) := Lib.hid (block_lt_of_cell c0)
  have HM := Lib.hid hm
  have HL : Hid (m ≤ 1000000) := Lib.hid (by rw [hm]; exact hl)
  rw [← hm] at c0
  clear hl hm hv
  have hzz := HZ.out
  go_enter Tryz.func66, Tryz.ntmps66
  go_wp2_with fail
  go_loopw [5] (fun i wr => ∃ j : Nat, i = .int .i64 j ∧ wr = w ∧ j ≤ m ∧ Hid (∀ j' x, j' < j → VL[j']? = some x → ((fun x : Vr => x.v.id) x) ≠ n)) (fun i _ => m - (intOf i).toNat)
  case atStart => exact ⟨0, rfl, rfl, Nat.zero_le _, Lib.hid (fun _ _ h => absurd h (Nat.not_lt_zero _))⟩
  case round =>
    obtain ⟨j, rfl, rfl, hj, HNO⟩ := hrel
    have hml := HL.out
    by_cases hlt : j < m
    · have hne : VL ≠ [] := fun e => by have := HM.out; rw [e] at this; simp at this; omega
      obtain ⟨b, off, rfl, hat⟩ := HV.out hne
      obtain ⟨x, hx⟩ : ∃ x, VL[j]? = some x := ⟨_, List.getElem?_eq_getElem (by have := HM.out; omega)⟩
      have k0 := hat.cells j x hx 0 _ rfl
      simp [kVr] at k0
      have hbl := hat.lt
      have HX := Lib.hid hx
      clear hat hx hne
      by_cases he : x.v.id = n
      · have HE := Lib.hid he
        go_wp2_with fail
        go_ret
        exact ⟨by trivial, _, rfl, .inr ⟨j, x, rfl, HX.out, HE.out⟩⟩
      · have HE := Lib.hid he
        go_wp2_with fail
        refine ⟨⟨j + 1, by simp, trivial, hlt, Lib.hid (fun j' y hj' hy => ?_)⟩, by simp [intOf]; omega⟩
        by_cases e : j' < j
        · exact HNO.out j' y e hy
        · obtain rfl : j' = j := by omega
          rw [HX.out] at hy
          injection hy with hy
          subst hy
          exact HE.out
    · obtain rfl : j = m := by omega
      go_wp2_with fail
      go_ret
      refine ⟨by trivial, _, rfl, .inl ⟨rfl, fun x hx => ?_⟩⟩
      obtain ⟨i, hi, e⟩ := List.getElem_of_mem hx
      exact HNO.out i x (by rw [HM.out]; exact hi) (by rw [List.getElem?_eq_getElem hi, e])

set_option maxRecDepth 100000 in
set_option maxHeartbeats 2000000 in
theorem r3find_any (a : Option Addr) (cap : Nat) (ps : List Pr) (k : ByteArray) (w : World) (h : PsV w a ps) (hl : ps.length ≤ 1000000) :
    Calls Tryz.prog 141 #[.slice a ps.length cap, .string k] w fun e w' => e = .returned (.int .i64 (idxG (fun p : Pr => decide (p.key = k)) ps 0)) ∧ w = w' := by
  have HR := Lib.hid h
  clear h
  obtain ⟨n, hn⟩ : ∃ n, n = ps.length := ⟨_, rfl⟩
  have HN := Lib.hid hn
  rw [← hn] at hl ⊢
  clear hn
  go_enter Tryz.func141, Tryz.ntmps141
  go_wp2_with fail
  go_loopw [5] (fun i wr => ∃ j : Nat, i = .int .i64 j ∧ w = wr ∧ j ≤ n ∧ Hid (idxG (fun p : Pr => decide (p.key = k)) ps 0 = idxG (fun p : Pr => decide (p.key = k)) (ps.drop j) j)) (fun i _ => n - (intOf i).toNat)
  case atStart => exact ⟨0, rfl, rfl, Nat.zero_le _, Lib.hid rfl⟩
  case round =>
    obtain ⟨j, rfl, rfl, hj, HI⟩ := hrel
    by_cases hlt : j < n
    · obtain ⟨x, hx⟩ : ∃ x, ps[j]? = some x := ⟨_, List.getElem?_eq_getElem (by have := HN.out; omega)⟩
      obtain ⟨b, off, rfl, hat⟩ := HR.out (fun e => by rw [e] at hx; simp at hx)
      have c0 := (hat.cells j x hx).1
      have hbl := hat.lt
      have hD := Lib.hid (idxG_drop (p := fun p : Pr => decide (p.key = k)) hx)
      have hne : (x.key.toList == k.toList) = decide (x.key = k) := bytes_eqB _ _
      obtain ⟨q, hq⟩ : ∃ q, decide (x.key = k) = q := ⟨_, rfl⟩
      have HQ := Lib.hid hq
      rw [hq] at hne
      clear hx hat hq
      cases q
      · have HN2 : Hid (idxG (fun p : Pr => decide (p.key = k)) ps 0 = idxG (fun p : Pr => decide (p.key = k)) (ps.drop (j + 1)) ((j + 1 : Nat) : Int)) := Lib.hid (by rw [HI.out, hD.out, HQ.out, if_neg (by decide)]; rfl)
        go_wp2_with fail
        exact ⟨⟨j + 1, by go_num, by first | rfl | trivial, by omega, HN2⟩, by simp [intOf]; omega⟩
      · have HN2 : Hid (idxG (fun p : Pr => decide (p.key = k)) ps 0 = j) := Lib.hid (by rw [HI.out, hD.out, HQ.out, if_pos rfl])
        go_wp2_with fail
        go_ret
        exact ⟨by rw [HN2.out]; rfl, by first | rfl | trivial⟩
    · obtain rfl : j = n := by omega
      have HN2 : Hid (idxG (fun p : Pr => decide (p.key = k)) ps 0 = -1) := Lib.hid (by rw [HI.out, HN.out, List.drop_length]; rfl)
      go_wp2_with fail
      go_ret
      exact ⟨by rw [HN2.out]; rfl, by first | rfl | trivial⟩
end Go.Proofs.YtonilojjahfboaaGreat
namespace Go.Proofs.YtonilojjahfboaaGreat
open Go.RowKit Go.Maps

theorem atB_sorted {VL : List Vr} (hs : SortB Vt.id (VL.map Vr.v)) {i : Nat} {x : Vr} (hx : VL[i]? = some x) {r : Int} (h : AtB (fun x : Vr => x.v.id) VL x.v.id r) : r = i := by
  rcases h with ⟨_, h⟩ | ⟨j, y, h1, h2, h3⟩
  · exact absurd rfl (h x (List.mem_of_getElem? hx))
  · have hp : VL.Pairwise (fun a b => a.v.id < b.v.id) := by
      have h' : (VL.map Vr.v).Pairwise (fun a b => a.id < b.id) := hs
      rwa [List.pairwise_map] at h'
    rw [h1]
    rcases Nat.lt_trichotomy i j with hij | hij | hij
    · have hi := (List.getElem?_eq_some_iff.1 hx)
      have hj := (List.getElem?_eq_some_iff.1 h2)
      have := List.pairwise_iff_getElem.1 hp i j hi.1 hj.1 hij
      rw [hi.2, hj.2] at this
      have h3' : y.v.id = x.v.id := h3
      omega
    · rw [hij]
    · have hi := (List.getElem?_eq_some_iff.1 hx)
      have hj := (List.getElem?_eq_some_iff.1 h2)
      have := List.pairwise_iff_getElem.1 hp j i hj.1 hi.1 hij
      rw [hi.2, hj.2] at this
      have h3' : y.v.id = x.v.id := h3
      omega
theorem kVr_cells {w : World} {b off i : Nat} {VL : List Vr} {x : Vr} (h : kVr.At w b off VL) (hx : VL[i]? = some x) :
    w.cell? ⟨b, off + i * 3, none⟩ = some (.int .i64 x.v.id) ∧ w.cell? ⟨b, off + i * 3 + 1, none⟩ = some (.string x.v.label) ∧ w.cell? ⟨b, off + i * 3 + 2, none⟩ = some (.slice x.a x.v.ps.length x.c) :=
  ⟨h.cells i x hx 0 _ rfl, h.cells i x hx 1 _ rfl, h.cells i x hx 2 _ rfl⟩
set_option maxRecDepth 100000 in
set_option maxHeartbeats 4000000 in
theorem r16value_any {w : World} {rb : Nat} {VL : List Vr} {va : Option Addr} {vc i : Nat} {x : Vr} (c0 : w.cell? ⟨rb, 0, none⟩ = some (.slice va VL.length vc)) (hv : kVr.V w va VL) (hl : VL.length ≤ 1000000) (hs : SortB Vt.id (VL.map Vr.v)) (hx : VL[i]? = some x) (hp : PsV w x.a x.v.ps) (hpl : x.v.ps.length ≤ 1000000) (k : ByteArray) :
    Calls Tryz.prog 59 #[.pointer (some ⟨rb, 0, none⟩), .int .i64 x.v.id, .string k] w (V1Post w (vo x.v k) (vq x.v k)) := by
  have hG := gotP_vo x.v k
  obtain ⟨vx, hvx⟩ : ∃ v, vo x.v k = v := ⟨_, rfl⟩
  obtain ⟨q, hq⟩ : ∃ v, vq x.v k = v := ⟨_, rfl⟩
  rw [hvx, hq] at hG ⊢
  obtain ⟨vk, vn, vs⟩ := vx
  obtain ⟨W, hW⟩ : ∃ W, W = w.alloc (.cells #[.int .i64 0, .int .i64 0, .string ⟨#[]⟩] 98) := ⟨_, rfl⟩
  have hBW : Below w.heap.size w W := by rw [hW]; exact below_box w _
  have eV : W.heap[w.heap.size]? = some (.cells #[.int .i64 0, .int .i64 0, .string ⟨#[]⟩] 98) := by rw [hW]; exact heap_new w _
  have hrl := block_lt_of_cell c0
  have cw := below_cell hBW 0 hrl c0
  have h16 := r16V_at cw (hv.below hBW) hl x.v.id
  obtain ⟨b, off, rfl, hat⟩ := (hv.below hBW) (fun e => by rw [e] at hx; simp at hx)
  obtain ⟨k0, k1, k2⟩ := kVr_cells hat hx
  have hbl := hat.lt
  have hil : i < VL.length := (List.getElem?_eq_some_iff.1 hx).1
  have z0 := cell_of_blk eV 0
  have z1 := cell_of_blk eV 1
  have z2 := cell_of_blk eV 2
  have y0 := frozen_of_blk eV 0
  have y1 := frozen_of_blk eV 1
  have y2 := frozen_of_blk eV 2
  simp at z0 z1 z2
  have HAT : Hid (∀ r, AtB (fun x : Vr => x.v.id) VL x.v.id r → r = i) := Lib.hid (fun r hr => atB_sorted hs hx hr)
  have hfi := r3find_any x.a x.c x.v.ps k W (hp.below hBW) hpl
  have HPS := Lib.hid (hp.below hBW)
  obtain ⟨xa, hxa⟩ : ∃ a, a = x.a := ⟨_, rfl⟩
  obtain ⟨pn, hpn⟩ : ∃ a, a = x.v.ps.length := ⟨_, rfl⟩
  have HPN := Lib.hid hpn
  rw [← hxa, ← hpn] at k2 hfi
  rw [← hxa] at HPS
  rw [← hpn] at hpl
  obtain ⟨n, hn⟩ : ∃ n, n = VL.length := ⟨_, rfl⟩
  rw [← hn] at cw hil hl
  have n1 : decide ((i : Int) < 0) = false := decide_eq_false (by omega)
  have hzi : (i : Int) < (n : Int) := by omega
  have H16 := Lib.hid h16
  have HW := Lib.hid hW
  have HBW := Lib.hid hBW
  have HEV := Lib.hid eV
  have hcases := find_idxG (fun p : Pr => decide (p.key = k)) x.v.ps
  obtain ⟨gi, hgi⟩ : ∃ g, g = idxG (fun p : Pr => decide (p.key = k)) x.v.ps 0 := ⟨_, rfl⟩
  rw [← hgi] at hfi hcases
  have HFI := Lib.hid hfi
  clear hxa hpn hv hs hx hp hat h16 hW hBW eV hfi hvx hq hn hgi c0
  rcases hcases with ⟨h1, h2⟩ | ⟨j, p, h1, h2, h3⟩
  · have HG : Hid (vk = 0 ∧ vn = 0 ∧ vs = ⟨#[]⟩ ∧ q = false) := Lib.hid (by
      unfold gotP getP at hG; rw [h2] at hG
      simp at hG
      exact ⟨hG.1.1.symm, hG.1.2.1.symm, hG.1.2.2.symm, by simpa using hG.2.symm⟩)
    subst h1
    clear h2 hG
    go_enter Tryz.func59, Tryz.ntmps59
    go_upto_region 1 with fail
    rw [← HW.out]
    go_wp2_with (first | (go_at_call 66; (with_reducible refine H16.out.mono ?_); rintro e w1 ⟨rfl, r, rfl, hr⟩; obtain rfl := HAT.out r hr; clear hr) | (go_at_call 141; (with_reducible refine HFI.out.mono ?_); rintro e w2 ⟨rfl, rfl⟩) | fail)
    obtain ⟨W9, hW9⟩ : ∃ W9, W9 = ((W.setCell ⟨w.heap.size, 0, none⟩ (.int .i64 0)).setCell ⟨w.heap.size, 1, none⟩ (.int .i64 0)).setCell ⟨w.heap.size, 2, none⟩ (.string ⟨#[]⟩) := ⟨_, rfl⟩
    obtain ⟨hB9, hb9⟩ := res3 (Nat.le_refl _) HBW.out HEV.out _ _ _ hW9
    rw [← hW9]
    have r0 := cell_of_blk hb9 0
    have r1 := cell_of_blk hb9 1
    have r2 := cell_of_blk hb9 2
    simp at r0 r1 r2
    refine bodyPost_ret (v := .tuple #[.agg #[.int .i64 0, .int .i64 0, .string ⟨#[]⟩], .bool false]) (by simp [results, Tryz.results59, go_sem, r0, r1, r2]) rfl (show V1Post _ _ _ _ _ from ⟨by rw [HG.out.1, HG.out.2.1, HG.out.2.2.1, HG.out.2.2.2], hB9⟩)
  · have HG : Hid (vk = p.v.kind ∧ vn = p.v.n ∧ vs = p.v.s ∧ q = true) := Lib.hid (by
      unfold gotP getP at hG; rw [h3] at hG
      simp at hG
      exact ⟨hG.1.1.symm, hG.1.2.1.symm, hG.1.2.2.symm, by simpa using hG.2.symm⟩)
    subst h1
    have hjl : j < pn := by have := (List.getElem?_eq_some_iff.1 h2).1; have := HPN.out; omega
    obtain ⟨b2, off2, rfl, hat2⟩ := HPS.out (fun e => by rw [e] at h2; simp at h2)
    obtain ⟨d0, d1, d2, d3⟩ := hat2.cells j p h2
    have hb2l := hat2.lt
    have n2 : decide ((j : Int) < 0) = false := decide_eq_false (by omega)
    have hzj : (j : Int) < (pn : Int) := by omega
    obtain ⟨ek, en, es, eq⟩ := HG.out
    have HEQ := Lib.hid (And.intro ek (And.intro en (And.intro es eq)))
    obtain ⟨⟨pk, pn', ps'⟩, hpv⟩ : ∃ v : Vl, v = p.v := ⟨_, rfl⟩
    rw [← hpv] at d1 d2 d3 HEQ
    clear h2 h3 hG hat2 ek en es eq HG hpv
    go_enter Tryz.func59, Tryz.ntmps59
    go_upto_region 1 with fail
    rw [← HW.out]
    go_wp2_with (first | (go_at_call 66; (with_reducible refine H16.out.mono ?_); rintro e w1 ⟨rfl, r, rfl, hr⟩; obtain rfl := HAT.out r hr; clear hr) | (go_at_call 141; (with_reducible refine HFI.out.mono ?_); rintro e w2 ⟨rfl, rfl⟩) | fail)
    obtain ⟨W9, hW9⟩ : ∃ W9, W9 = ((W.setCell ⟨w.heap.size, 0, none⟩ (.int .i64 pk)).setCell ⟨w.heap.size, 1, none⟩ (.int .i64 pn')).setCell ⟨w.heap.size, 2, none⟩ (.string ps') := ⟨_, rfl⟩
    obtain ⟨hB9, hb9⟩ := res3 (Nat.le_refl _) HBW.out HEV.out _ _ _ hW9
    rw [← hW9]
    have r0 := cell_of_blk hb9 0
    have r1 := cell_of_blk hb9 1
    have r2 := cell_of_blk hb9 2
    simp at r0 r1 r2
    refine bodyPost_ret (v := .tuple #[.agg #[.int .i64 pk, .int .i64 pn', .string ps'], .bool true]) (by simp [results, Tryz.results59, go_sem, r0, r1, r2]) rfl (show V1Post _ _ _ _ _ from ⟨by rw [HEQ.out.1, HEQ.out.2.1, HEQ.out.2.2.1, HEQ.out.2.2.2], hB9⟩)
end Go.Proofs.YtonilojjahfboaaGreat
