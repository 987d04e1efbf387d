/- The reference's Keys. Conditions: the contract's own premises. -/
import Derived.Test.YtaanohgkdpohhaaRc7
import Derived.Deep.RegionHeld3
namespace Go.Proofs.Ytaanohgkdpohhaa
open Go.RowKit Go.Maps

theorem below_grownQ {w w' : World} {B : Nat} {v : Value} {l : List Ky} (h : kK.Own w B v l) (hg : w.grownBy w' v.ownBlock) (hB : B ≤ w.heap.size) : Below B w w' :=
  ⟨hg.os, hg.tape, hg.output, hg.size, fun k hk => hg.block k (by omega) (fun e => by have := (h.lt k e.symm).1; omega)⟩
def RKs (w : World) (p : Cl → Bool) (L : List (Ky × Cl)) (e : Ending) (w' : World) : Prop := ∃ v, e = .returned v ∧ kK.Own w' w.heap.size v (keysL p L) ∧ Below w.heap.size w w'

set_option maxRecDepth 100000 in
set_option maxHeartbeats 16000000 in
theorem rkeys0_any (rb cap room : Nat) (a : Option Addr) (L : List (Ky × Cl)) (who : Int) (w : World) (h : RV w rb a cap room L) (hok : ∀ q ∈ L, q.1.s.size ≤ maxLen) :
    Calls Try.prog 32 #[.pointer (some ⟨rb, 0, none⟩), .int .i64 0, .int .i64 who] w (RKs w (heldC who) L) := by
  obtain ⟨p, hp⟩ : ∃ p, p = (heldC who) := ⟨_, rfl⟩
  rw [← hp]
  have HPD := Lib.hid hp
  obtain ⟨m, hm⟩ : ∃ m, m = L.length := ⟨_, rfl⟩
  have HM : Hid (m = L.length ∧ m ≤ 1048576) := Lib.hid ⟨hm, by have := h.len; omega⟩
  have HRV : Hid (∀ u, Below w.heap.size w u → u.cell? ⟨rb, 1, none⟩ = some (.slice a m cap) ∧ rb < u.heap.size ∧ (L ≠ [] → ∃ lb, a = some ⟨lb, 0, none⟩ ∧ RAt u lb L)) := Lib.hid (fun u hu => by
    have h2 := h.below hu
    rw [hm]
    exact ⟨h2.cell1, h2.lt, h2.row⟩)
  have HOK := Lib.hid hok
  clear h hok hp hm
  go_enter Try.func32, Try.ntmps32
  go_wp2_with fail
  go_loopw [7, 8] (fun ov iv wr => ∃ (i : Nat) (ks : List Ky), iv = .int .i64 (i : Int) ∧ i ≤ m ∧ Hid (ks = keysL p (L.take i)) ∧ Hid (kK.Own wr w.heap.size ov ks) ∧ Hid (Below w.heap.size w wr)) (fun _ iv _ => m - (intOf iv).toNat)
  case atStart => exact ⟨0, [], rfl, Nat.zero_le _, Lib.hid rfl, Lib.hid (RowK.Own.nil kK _ _), Lib.hid (Below.refl _ _)⟩
  case round =>
    obtain ⟨i, ks, rfl, hi, HKS, HO, HB⟩ := hrel
    obtain ⟨oa, oc, rfl⟩ := HO.out.shape
    obtain ⟨n, hn⟩ : ∃ n, n = ks.length := ⟨_, rfl⟩
    have HN : Hid (n = ks.length ∧ n ≤ 1048576) := Lib.hid ⟨hn, by have h1 := keysL_len p (L.take i); rw [← HKS.out, List.length_take] at h1; have := HM.out; omega⟩
    rw [← hn] at HO ⊢
    clear hn
    obtain ⟨c0, z0, hrow⟩ := HRV.out wr HB.out
    have hm6 := HM.out.2
    by_cases hlt : i < m
    · obtain ⟨⟨k, x⟩, hx⟩ : ∃ q, L[i]? = some q := ⟨_, List.getElem?_eq_getElem (by have := HM.out.1; omega)⟩
      obtain ⟨lb, rfl, hat⟩ := hrow (fun e => by rw [e] at hx; simp at hx)
      obtain ⟨x0, x1, x2, x3, x4, x5, x6, x7, x8⟩ := hat.cells i k x hx
      have zl := hat.lt
      have HX := Lib.hid hx
      have HTK : Hid (L.take (i + 1) = L.take i ++ [(k, x)]) := Lib.hid (by rw [List.take_add_one, hx]; rfl)
      clear hx hat hrow
      go_upto_region 6 with fail
      clear x0 x1 x2 x3 x4 x5 x6 x7 x8 zl c0 z0
      obtain ⟨u0, hu0⟩ : ∃ u, u = wr.alloc (.cells #[.int .i64 k.kind, .int .i64 k.a, .int .i64 k.b, .string k.s, .int .u64 x.st, .bool (!x.ab), .string x.text, .bool x.lk, .int .i64 x.who] 71) := ⟨_, rfl⟩
      obtain ⟨xb, hxb⟩ : ∃ b, b = wr.heap.size := ⟨_, rfl⟩
      rw [← hu0, ← hxb]
      have HU0 : Hid (Below w.heap.size w u0) := Lib.hid (by rw [hu0]; exact HB.out.alloc HB.out.size _)
      have HO0 : Hid (kK.Own u0 w.heap.size (.slice oa n oc) ks) := Lib.hid (by rw [hu0]; exact HO.out.alloc _)
      have hbx : u0.heap[xb]? = some (.cells #[.int .i64 k.kind, .int .i64 k.a, .int .i64 k.b, .string k.s, .int .u64 x.st, .bool (!x.ab), .string x.text, .bool x.lk, .int .i64 x.who] 71 (0, 0)) := by rw [hu0, hxb]; exact heap_new _ _
      have HBX : Hid (∀ u, Below u0.heap.size u0 u → u.cell? ⟨xb, 0, none⟩ = some (.int .i64 k.kind) ∧ u.cell? ⟨xb, 1, none⟩ = some (.int .i64 k.a) ∧ u.cell? ⟨xb, 2, none⟩ = some (.int .i64 k.b) ∧ u.cell? ⟨xb, 3, none⟩ = some (.string k.s) ∧ xb < u.heap.size) := Lib.hid (fun u hu => by
        have e := (hu.block _ (Array.getElem?_eq_some_iff.1 hbx).1).trans hbx
        exact ⟨by rw [cell_of_blk e]; rfl, by rw [cell_of_blk e]; rfl, by rw [cell_of_blk e]; rfl, by rw [cell_of_blk e]; rfl, (Array.getElem?_eq_some_iff.1 e).1⟩)
      have b5 := cell_of_blk hbx 5
      have b7 := cell_of_blk hbx 7
      have b8 := cell_of_blk hbx 8
      have zx := (Array.getElem?_eq_some_iff.1 hbx).1
      simp at b5 b7 b8
      clear hu0 hxb hbx
      cases hlk : x.lk
      case false =>
        rw [hlk] at b7
        have HPX : Hid (p x = false) := Lib.hid (by rw [HPD.out]; unfold heldC; rw [hlk]; rfl)
        clear hlk
        go_wp2_with fail
        exact ⟨⟨i + 1, ks, by simp, hlt, Lib.hid (by rw [HTK.out, keysL_snoc, if_neg (by have := HPX.out; show ¬ p x = true; rw [this]; decide)]; exact HKS.out), HO0, HU0⟩, by simp [intOf]; omega⟩
      case true =>
      rw [hlk] at b7
      by_cases hwh : x.who = who
      case neg =>
        have tw : (x.who != who) = true := by simpa using hwh
        have HPX : Hid (p x = false) := Lib.hid (by rw [HPD.out]; unfold heldC; rw [hlk]; simp [hwh])
        clear hlk hwh
        go_wp2_with fail
        exact ⟨⟨i + 1, ks, by simp, hlt, Lib.hid (by rw [HTK.out, keysL_snoc, if_neg (by have := HPX.out; show ¬ p x = true; rw [this]; decide)]; exact HKS.out), HO0, HU0⟩, by simp [intOf]; omega⟩
      case pos =>
      have tw : (x.who != who) = false := by simpa using hwh
      have HPX : Hid (p x = true) := Lib.hid (by rw [HPD.out]; unfold heldC; rw [hlk]; simp [hwh])
      clear hlk hwh
      go_wp2_with fail
      clear b5 b7 b8 zx
      go_loopw [10] (fun jv wk => ∃ j : Nat, jv = .int .i64 (j : Int) ∧ j ≤ n ∧ Hid (Below u0.heap.size u0 wk) ∧ Hid (∀ (q : Nat) (y : Ky), q < j → ks[q]? = some y → y.cmp k < 0)) (fun jv _ => n - (intOf jv).toNat)
      case atStart => exact ⟨0, rfl, Nat.zero_le _, Lib.hid (Below.refl _ _), Lib.hid (fun q y hq => absurd hq (Nat.not_lt_zero _))⟩
      case round =>
        obtain ⟨j, rfl, hj, HBJ, HLT⟩ := hrel
        have hn6 := HN.out.2
        obtain ⟨p0, p1, p2, p3, zb⟩ := HBX.out wr HBJ.out
        by_cases hlj : j < n
        · obtain ⟨y, hy⟩ : ∃ y, ks[j]? = some y := ⟨_, List.getElem?_eq_getElem (by have := HN.out.1; omega)⟩
          obtain ⟨ob, oo, hoa, hat⟩ := (HO0.out.below HBJ.out).toV (fun e => by rw [e] at hy; simp at hy)
          subst hoa
          have r0 := hat.cells j y hy 0 _ rfl
          have r1 := hat.cells j y hy 1 _ rfl
          have r2 := hat.cells j y hy 2 _ rfl
          have r3 := hat.cells j y hy 3 _ rfl
          simp [kK] at r0 r1 r2 r3
          have zo := hat.lt
          obtain ⟨c, hc⟩ : ∃ c, c = y.cmp k := ⟨_, rfl⟩
          have HCC := Lib.hid hc
          have hys : y.s.size ≤ maxLen := by
            have hm := List.mem_of_getElem? hy
            rw [HKS.out] at hm
            obtain ⟨q, hq, e, _⟩ := (mem_keysL p _ _).1 hm
            rw [← e]
            exact HOK.out q (List.mem_of_mem_take hq)
          have HORD : Hid (Calls Try.prog 97 #[.agg #[.int .i64 y.kind, .int .i64 y.a, .int .i64 y.b, .string y.s], .agg #[.int .i64 k.kind, .int .i64 k.a, .int .i64 k.b, .string k.s]] wr.drew fun e w' => e = .returned (.int .i64 c) ∧ Below wr.drew.heap.size wr.drew w') := Lib.hid (by rw [hc]; exact r9order_any y k wr.drew hys)
          have hbd : Below wr.heap.size wr wr.drew := below_drewN (Below.refl _ _) 1
          have KS : Hid (∀ u, Below wr.drew.heap.size wr.drew u → u.cell? ⟨ob, oo + j * 4, none⟩ = some (.int .i64 y.kind) ∧ u.cell? ⟨ob, oo + j * 4 + 1, none⟩ = some (.int .i64 y.a) ∧ u.cell? ⟨ob, oo + j * 4 + 2, none⟩ = some (.int .i64 y.b) ∧ u.cell? ⟨ob, oo + j * 4 + 3, none⟩ = some (.string y.s) ∧ u.cell? ⟨xb, 0, none⟩ = some (.int .i64 k.kind) ∧ u.cell? ⟨xb, 1, none⟩ = some (.int .i64 k.a) ∧ u.cell? ⟨xb, 2, none⟩ = some (.int .i64 k.b) ∧ u.cell? ⟨xb, 3, none⟩ = some (.string k.s)) := Lib.hid (fun u hu => by
            have h := below_then hbd hu
            exact ⟨below_cell h _ zo r0, below_cell h _ zo r1, below_cell h _ zo r2, below_cell h _ zo r3, below_cell h _ zb p0, below_cell h _ zb p1, below_cell h _ zb p2, below_cell h _ zb p3⟩)
          have HBD : Hid (Below u0.heap.size u0 wr.drew) := Lib.hid (below_then HBJ.out hbd)
          have HY := Lib.hid hy
          have tn : decide (j < n) = true := decide_eq_true hlj
          have tn2 : decide ((j : Int) < (n : Int)) = true := decide_eq_true (by omega)
          clear hy hat hc hys hbd
          by_cases hc0 : c < 0
          · have tc : decide (c < 0) = true := decide_eq_true hc0
            have HLT2 : Hid (∀ (q : Nat) (z : Ky), q < j + 1 → ks[q]? = some z → z.cmp k < 0) := Lib.hid (fun q z hq hz => by
              by_cases hqj : q < j
              · exact HLT.out q z hqj hz
              · obtain rfl : q = j := by omega
                rw [HY.out] at hz
                injection hz with hz
                rw [← hz, ← HCC.out]
                exact hc0)
            clear hc0
            go_upto_region 8 with fail
            go_region_held3 (fun w' => w'.cell? ⟨ob, oo + j * 4, none⟩ = some (.int .i64 y.kind) ∧ w'.cell? ⟨ob, oo + j * 4 + 1, none⟩ = some (.int .i64 y.a) ∧ w'.cell? ⟨ob, oo + j * 4 + 2, none⟩ = some (.int .i64 y.b) ∧ w'.cell? ⟨ob, oo + j * 4 + 3, none⟩ = some (.string y.s) ∧ w'.cell? ⟨xb, 0, none⟩ = some (.int .i64 k.kind) ∧ w'.cell? ⟨xb, 1, none⟩ = some (.int .i64 k.a) ∧ w'.cell? ⟨xb, 2, none⟩ = some (.int .i64 k.b) ∧ w'.cell? ⟨xb, 3, none⟩ = some (.string k.s))
              (first | exact KS.out _ (Below.refl _ _) | exact KS.out _ HB6.out)
              (first | (go_at_call 97; (with_reducible refine HORD.out.mono ?_); rintro e w6 ⟨rfl, b6⟩; have HB6 := Lib.hid b6; clear b6) | fail)
            all_goals (
              go_wp2_with fail
              exact ⟨⟨j + 1, by simp, hlj, Lib.hid (below_then HBD.out HB6.out), HLT2⟩, by simp [intOf]; omega⟩)
          · have tc : decide (c < 0) = false := decide_eq_false hc0
            have HGE : Hid (∀ z, ks[j]? = some z → ¬ z.cmp k < 0) := Lib.hid (fun z hz => by
              rw [HY.out] at hz
              injection hz with hz
              rw [← hz, ← HCC.out]
              exact hc0)
            clear hc0
            go_upto_region 8 with fail
            go_region_held3 (fun w' => w'.cell? ⟨ob, oo + j * 4, none⟩ = some (.int .i64 y.kind) ∧ w'.cell? ⟨ob, oo + j * 4 + 1, none⟩ = some (.int .i64 y.a) ∧ w'.cell? ⟨ob, oo + j * 4 + 2, none⟩ = some (.int .i64 y.b) ∧ w'.cell? ⟨ob, oo + j * 4 + 3, none⟩ = some (.string y.s) ∧ w'.cell? ⟨xb, 0, none⟩ = some (.int .i64 k.kind) ∧ w'.cell? ⟨xb, 1, none⟩ = some (.int .i64 k.a) ∧ w'.cell? ⟨xb, 2, none⟩ = some (.int .i64 k.b) ∧ w'.cell? ⟨xb, 3, none⟩ = some (.string k.s))
              (first | exact KS.out _ (Below.refl _ _) | exact KS.out _ HB6.out)
              (first | (go_at_call 97; (with_reducible refine HORD.out.mono ?_); rintro e w6 ⟨rfl, b6⟩; have HB6 := Lib.hid b6; clear b6) | fail)
            all_goals (
              clear p0 p1 p2 p3 zb r0 r1 r2 r3 zo tn tn2 tc
              go_upto_region 11 with fail
              obtain ⟨wq, hwq⟩ : ∃ wq : World, wq = w6 := ⟨_, rfl⟩
              rw [← hwq]
              have HBQ : Hid (Below u0.heap.size u0 wq) := Lib.hid (by rw [hwq]; exact below_then HBD.out HB6.out)
              clear hwq
              have HOQ := Lib.hid (HO0.out.below HBQ.out)
              obtain ⟨a1, ha1⟩ : ∃ a1, kK.pfx ((some ⟨ob, oo, none⟩) : Option Addr) oc = a1 := ⟨_, rfl⟩
              obtain ⟨a3, ha3⟩ : ∃ a3, kK.sfx ((some ⟨ob, oo, none⟩) : Option Addr) oc j = a3 := ⟨_, rfl⟩
              obtain ⟨n3, hn3⟩ : ∃ n3, n - j = n3 := ⟨_, rfl⟩
              obtain ⟨c3, hc3⟩ : ∃ c3, oc - j = c3 := ⟨_, rfl⟩
              have HCP : Hid (n ≤ oc) := Lib.hid (by have := HOQ.out.cap; have := HN.out; omega)
              have HV1 : Hid (∀ u, Below wq.heap.size wq u → kK.V u a1 (ks.take j)) := Lib.hid (fun u hu => by rw [← ha1]; exact (HOQ.out.below hu).toV.take j oc)
              have HV3 : Hid (∀ u, Below wq.heap.size wq u → kK.V u a3 (ks.drop j)) := Lib.hid (fun u hu => by rw [← ha3]; exact (HOQ.out.below hu).toV.drop (by have := HCP.out; have := HN.out; omega))
              have HON : Hid (((some ⟨ob, oo, none⟩) : Option Addr) = none → oc = 0) := Lib.hid (fun e => by first | (cases e; done) | (have h := HOQ.out; rw [e] at h; exact h.noneCap))
              have HNN1 : Hid (a1 = none → oc = 0) := Lib.hid (fun e => RowK.pfx_none (k := kK) (a := ((some ⟨ob, oo, none⟩) : Option Addr)) HON.out (ha1.trans e))
              have HNN3 : Hid (a3 = none → c3 = 0) := Lib.hid (fun e => by rw [← hc3]; exact RowK.sfx_none (k := kK) (a := ((some ⟨ob, oo, none⟩) : Option Addr)) HON.out (ha3.trans e))
              have HL1 : Hid ((ks.take j).length = j) := Lib.hid (by rw [List.length_take]; have := HN.out; omega)
              have HL3 : Hid ((ks.drop j).length = n3) := Lib.hid (by rw [List.length_drop]; have := HN.out; omega)
              have HA1 := Lib.hid ha1
              have HA3 := Lib.hid ha3
              have HN3 := Lib.hid hn3
              have HC3 := Lib.hid hc3
              have hjc : j ≤ oc := Nat.le_trans hj HCP.out
              have HWQ : Hid (w.heap.size ≤ wq.heap.size) := Lib.hid (Nat.le_trans HU0.out.size HBQ.out.size)
              clear ha1 ha3 hn3 hc3
              go_upto_region 12 with (first | (refine RowK.wpList_pfx (k := kK) (o := ⟨some 69, _, _, _, _, _⟩) rfl (.tmp 67) (.tmp 68) rfl _ n oc j rfl rfl hjc HA1.out ?_) | (at_builtin; refine RowK.wpList_app (k := kK) (B := w.heap.size) (v := .slice none 0 0) (l := []) rfl (.tmp 66) (.tmp 69) rfl rfl (RowK.Own.nil kK _ _) a1 j (ks.take j) oc rfl HL1.out (HV1.out wq (Below.refl _ _)) HNN1.out (by have := HN.out; rw [HL1.out]; simp; omega) HWQ.out ?_; rintro v1 u1 g1; have G1 := Lib.hid (show kK.App wq w.heap.size (.slice none 0 0) (ks.take j) v1 u1 from g1); clear g1))
              have HB1 : Hid (Below wq.heap.size wq u1) := Lib.hid ⟨G1.out.2.1.os, G1.out.2.1.tape, G1.out.2.1.output, G1.out.2.1.size, fun q hq => G1.out.2.1.block q hq (fun e => by cases e)⟩
              obtain ⟨p0, p1, p2, p3, zb⟩ := HBX.out u1 (below_then HBQ.out HB1.out)
              obtain ⟨W2, hW2⟩ : ∃ W2, W2 = u1.alloc (.cells #[.int .i64 k.kind, .int .i64 k.a, .int .i64 k.b, .string k.s] 32) := ⟨_, rfl⟩
              have hb2 : Below u1.heap.size u1 W2 := by rw [hW2]; exact below_box u1 _
              have HB2 : Hid (Below wq.heap.size wq W2) := Lib.hid (below_then HB1.out hb2)
              have HO2 : Hid (kK.Own W2 w.heap.size v1 (ks.take j)) := Lib.hid (G1.out.1.below hb2)
              have HXV : Hid (kK.V W2 (some ⟨u1.heap.size, 0, none⟩) [k]) := Lib.hid (by rw [hW2]; exact fun _ => ⟨_, 0, rfl, RowK.new_at (k := kK) (heap_new u1 _) (by simp [RowK.cells, kK, Ky.enc])⟩)
              have HW2 := Lib.hid hW2.symm
              clear hW2 hb2
              go_upto_region 13 with (first | (at_builtin; rw [HW2.out]; refine RowK.wpList_app (k := kK) (B := w.heap.size) (v := v1) (l := ks.take j) rfl (.tmp 71) (.tmp 74) rfl rfl HO2.out (some ⟨u1.heap.size, 0, none⟩) 1 [k] 1 rfl rfl HXV.out (fun e => by cases e) (by have := HN.out; rw [HL1.out]; simp; omega) (Nat.le_trans HWQ.out HB2.out.size) ?_; rintro v2 u2 g2; have G2 := Lib.hid g2; clear g2))
              clear p0 p1 p2 p3 zb
              have HB3 : Hid (Below w.heap.size wq u2) := Lib.hid ((HB2.out.mono HWQ.out).trans (below_grownQ HO2.out G2.out.2.1 (Nat.le_trans HWQ.out HB2.out.size)))
              have HV33 : Hid (kK.V u2 a3 (ks.drop j)) := Lib.hid (fun hne => by
                obtain ⟨b3, o3, e3, hat3⟩ := HV3.out wq (Below.refl _ _) hne
                have hat4 := hat3.below HB2.out
                refine ⟨b3, o3, e3, hat4.of_block (G2.out.2.1.block b3 hat4.lt (fun e => ?_))⟩
                rcases G1.out.2.2 with q | q
                · rw [q] at e; cases e
                · rw [q] at e
                  injection e with e
                  have := hat3.lt
                  omega)
              go_wp2_with (first | (refine RowK.wpList_sfx (k := kK) (o := ⟨some 79, _, _, _, _, _⟩) rfl (.tmp 77) (.tmp 78) rfl _ n oc j rfl rfl hj HA3.out HN3.out HC3.out ?_) | (at_builtin; refine RowK.wpList_app (k := kK) (B := w.heap.size) (v := v2) (l := ks.take j ++ [k]) rfl (.tmp 76) (.tmp 79) rfl rfl G2.out.1 a3 n3 (ks.drop j) c3 rfl HL3.out HV33.out HNN3.out (by have := HN.out; have := HL1.out; have := HL3.out; have := HN3.out; simp only [List.length_append, List.length_cons, List.length_nil]; omega) (Nat.le_trans HWQ.out HB3.out.size) ?_; rintro v3 u3 g3; have G3 := Lib.hid g3; clear g3) | fail)
              have HINS : ks.take j ++ [k] ++ ks.drop j = insK k ks := (insK_at HLT.out (fun z hz => by have := HGE.out z hz; omega)).symm
              exact ⟨⟨i + 1, insK k ks, by simp, hlt, Lib.hid (by rw [HTK.out, keysL_snoc, if_pos (show p (k, x).2 = true from HPX.out), ← HKS.out]), Lib.hid (by rw [← HINS]; exact G3.out.1), Lib.hid (((HU0.out.trans (HBQ.out.mono HU0.out.size)).trans HB3.out).trans (below_grownQ G2.out.1 G3.out.2.1 (Nat.le_trans HWQ.out HB3.out.size)))⟩, by simp [intOf]; omega⟩
              )
        · have hjn : j = n := by omega
          have tn : decide (j < n) = false := decide_eq_false hlj
          have tn2 : decide ((j : Int) < (n : Int)) = false := decide_eq_false (by omega)
          have HGE : Hid (∀ z, ks[j]? = some z → ¬ z.cmp k < 0) := Lib.hid (fun z hz => by have := (List.getElem?_eq_some_iff.1 hz).1; have := HN.out.1; omega)
          go_upto_region 8 with fail
          go_quiet (fail)
          clear p0 p1 p2 p3 zb tn tn2 hjn
          go_upto_region 11 with fail
          obtain ⟨wq, hwq⟩ : ∃ wq : World, wq = wr.drewN nq := ⟨_, rfl⟩
          rw [← hwq]
          have HBQ : Hid (Below u0.heap.size u0 wq) := Lib.hid (by rw [hwq]; exact below_drewN HBJ.out _)
          clear hwq
          have HOQ := Lib.hid (HO0.out.below HBQ.out)
          obtain ⟨a1, ha1⟩ : ∃ a1, kK.pfx (oa : Option Addr) oc = a1 := ⟨_, rfl⟩
          obtain ⟨a3, ha3⟩ : ∃ a3, kK.sfx (oa : Option Addr) oc j = a3 := ⟨_, rfl⟩
          obtain ⟨n3, hn3⟩ : ∃ n3, n - j = n3 := ⟨_, rfl⟩
          obtain ⟨c3, hc3⟩ : ∃ c3, oc - j = c3 := ⟨_, rfl⟩
          have HCP : Hid (n ≤ oc) := Lib.hid (by have := HOQ.out.cap; have := HN.out; omega)
          have HV1 : Hid (∀ u, Below wq.heap.size wq u → kK.V u a1 (ks.take j)) := Lib.hid (fun u hu => by rw [← ha1]; exact (HOQ.out.below hu).toV.take j oc)
          have HV3 : Hid (∀ u, Below wq.heap.size wq u → kK.V u a3 (ks.drop j)) := Lib.hid (fun u hu => by rw [← ha3]; exact (HOQ.out.below hu).toV.drop (by have := HCP.out; have := HN.out; omega))
          have HON : Hid ((oa : Option Addr) = none → oc = 0) := Lib.hid (fun e => by first | (cases e; done) | (have h := HOQ.out; rw [e] at h; exact h.noneCap))
          have HNN1 : Hid (a1 = none → oc = 0) := Lib.hid (fun e => RowK.pfx_none (k := kK) (a := (oa : Option Addr)) HON.out (ha1.trans e))
          have HNN3 : Hid (a3 = none → c3 = 0) := Lib.hid (fun e => by rw [← hc3]; exact RowK.sfx_none (k := kK) (a := (oa : Option Addr)) HON.out (ha3.trans e))
          have HL1 : Hid ((ks.take j).length = j) := Lib.hid (by rw [List.length_take]; have := HN.out; omega)
          have HL3 : Hid ((ks.drop j).length = n3) := Lib.hid (by rw [List.length_drop]; have := HN.out; omega)
          have HA1 := Lib.hid ha1
          have HA3 := Lib.hid ha3
          have HN3 := Lib.hid hn3
          have HC3 := Lib.hid hc3
          have hjc : j ≤ oc := Nat.le_trans hj HCP.out
          have HWQ : Hid (w.heap.size ≤ wq.heap.size) := Lib.hid (Nat.le_trans HU0.out.size HBQ.out.size)
          clear ha1 ha3 hn3 hc3
          go_upto_region 12 with (first | (refine RowK.wpList_pfx (k := kK) (o := ⟨some 69, _, _, _, _, _⟩) rfl (.tmp 67) (.tmp 68) rfl _ n oc j rfl rfl hjc HA1.out ?_) | (at_builtin; refine RowK.wpList_app (k := kK) (B := w.heap.size) (v := .slice none 0 0) (l := []) rfl (.tmp 66) (.tmp 69) rfl rfl (RowK.Own.nil kK _ _) a1 j (ks.take j) oc rfl HL1.out (HV1.out wq (Below.refl _ _)) HNN1.out (by have := HN.out; rw [HL1.out]; simp; omega) HWQ.out ?_; rintro v1 u1 g1; have G1 := Lib.hid (show kK.App wq w.heap.size (.slice none 0 0) (ks.take j) v1 u1 from g1); clear g1))
          have HB1 : Hid (Below wq.heap.size wq u1) := Lib.hid ⟨G1.out.2.1.os, G1.out.2.1.tape, G1.out.2.1.output, G1.out.2.1.size, fun q hq => G1.out.2.1.block q hq (fun e => by cases e)⟩
          obtain ⟨p0, p1, p2, p3, zb⟩ := HBX.out u1 (below_then HBQ.out HB1.out)
          obtain ⟨W2, hW2⟩ : ∃ W2, W2 = u1.alloc (.cells #[.int .i64 k.kind, .int .i64 k.a, .int .i64 k.b, .string k.s] 32) := ⟨_, rfl⟩
          have hb2 : Below u1.heap.size u1 W2 := by rw [hW2]; exact below_box u1 _
          have HB2 : Hid (Below wq.heap.size wq W2) := Lib.hid (below_then HB1.out hb2)
          have HO2 : Hid (kK.Own W2 w.heap.size v1 (ks.take j)) := Lib.hid (G1.out.1.below hb2)
          have HXV : Hid (kK.V W2 (some ⟨u1.heap.size, 0, none⟩) [k]) := Lib.hid (by rw [hW2]; exact fun _ => ⟨_, 0, rfl, RowK.new_at (k := kK) (heap_new u1 _) (by simp [RowK.cells, kK, Ky.enc])⟩)
          have HW2 := Lib.hid hW2.symm
          clear hW2 hb2
          go_upto_region 13 with (first | (at_builtin; rw [HW2.out]; refine RowK.wpList_app (k := kK) (B := w.heap.size) (v := v1) (l := ks.take j) rfl (.tmp 71) (.tmp 74) rfl rfl HO2.out (some ⟨u1.heap.size, 0, none⟩) 1 [k] 1 rfl rfl HXV.out (fun e => by cases e) (by have := HN.out; rw [HL1.out]; simp; omega) (Nat.le_trans HWQ.out HB2.out.size) ?_; rintro v2 u2 g2; have G2 := Lib.hid g2; clear g2))
          clear p0 p1 p2 p3 zb
          have HB3 : Hid (Below w.heap.size wq u2) := Lib.hid ((HB2.out.mono HWQ.out).trans (below_grownQ HO2.out G2.out.2.1 (Nat.le_trans HWQ.out HB2.out.size)))
          have HV33 : Hid (kK.V u2 a3 (ks.drop j)) := Lib.hid (fun hne => by
            obtain ⟨b3, o3, e3, hat3⟩ := HV3.out wq (Below.refl _ _) hne
            have hat4 := hat3.below HB2.out
            refine ⟨b3, o3, e3, hat4.of_block (G2.out.2.1.block b3 hat4.lt (fun e => ?_))⟩
            rcases G1.out.2.2 with q | q
            · rw [q] at e; cases e
            · rw [q] at e
              injection e with e
              have := hat3.lt
              omega)
          go_wp2_with (first | (refine RowK.wpList_sfx (k := kK) (o := ⟨some 79, _, _, _, _, _⟩) rfl (.tmp 77) (.tmp 78) rfl _ n oc j rfl rfl hj HA3.out HN3.out HC3.out ?_) | (at_builtin; refine RowK.wpList_app (k := kK) (B := w.heap.size) (v := v2) (l := ks.take j ++ [k]) rfl (.tmp 76) (.tmp 79) rfl rfl G2.out.1 a3 n3 (ks.drop j) c3 rfl HL3.out HV33.out HNN3.out (by have := HN.out; have := HL1.out; have := HL3.out; have := HN3.out; simp only [List.length_append, List.length_cons, List.length_nil]; omega) (Nat.le_trans HWQ.out HB3.out.size) ?_; rintro v3 u3 g3; have G3 := Lib.hid g3; clear g3) | fail)
          have HINS : ks.take j ++ [k] ++ ks.drop j = insK k ks := (insK_at HLT.out (fun z hz => by have := HGE.out z hz; omega)).symm
          exact ⟨⟨i + 1, insK k ks, by simp, hlt, Lib.hid (by rw [HTK.out, keysL_snoc, if_pos (show p (k, x).2 = true from HPX.out), ← HKS.out]), Lib.hid (by rw [← HINS]; exact G3.out.1), Lib.hid (((HU0.out.trans (HBQ.out.mono HU0.out.size)).trans HB3.out).trans (below_grownQ G2.out.1 G3.out.2.1 (Nat.le_trans HWQ.out HB3.out.size)))⟩, by simp [intOf]; omega⟩
    · have hin : i = m := by omega
      have ti : decide ((i : Int) < (m : Int)) = false := decide_eq_false (by omega)
      go_wp2_with fail
      go_ret
      refine ⟨_, rfl, ?_, HB.out⟩
      have h := HO.out
      rw [HKS.out, List.take_of_length_le (by have := HM.out; omega)] at h
      have h2 : n = (keysL p L).length := by rw [HN.out.1, HKS.out, List.take_of_length_le (by have := HM.out; omega)]
      exact h

set_option maxRecDepth 100000 in
set_option maxHeartbeats 16000000 in
theorem rkeys1_any (rb cap room : Nat) (a : Option Addr) (L : List (Ky × Cl)) (who : Int) (w : World) (h : RV w rb a cap room L) (hok : ∀ q ∈ L, q.1.s.size ≤ maxLen) :
    Calls Try.prog 32 #[.pointer (some ⟨rb, 0, none⟩), .int .i64 1, .int .i64 who] w (RKs w (hasC) L) := by
  obtain ⟨p, hp⟩ : ∃ p, p = (hasC) := ⟨_, rfl⟩
  rw [← hp]
  have HPD := Lib.hid hp
  obtain ⟨m, hm⟩ : ∃ m, m = L.length := ⟨_, rfl⟩
  have HM : Hid (m = L.length ∧ m ≤ 1048576) := Lib.hid ⟨hm, by have := h.len; omega⟩
  have HRV : Hid (∀ u, Below w.heap.size w u → u.cell? ⟨rb, 1, none⟩ = some (.slice a m cap) ∧ rb < u.heap.size ∧ (L ≠ [] → ∃ lb, a = some ⟨lb, 0, none⟩ ∧ RAt u lb L)) := Lib.hid (fun u hu => by
    have h2 := h.below hu
    rw [hm]
    exact ⟨h2.cell1, h2.lt, h2.row⟩)
  have HOK := Lib.hid hok
  clear h hok hp hm
  go_enter Try.func32, Try.ntmps32
  go_wp2_with fail
  go_loopw [7, 8] (fun ov iv wr => ∃ (i : Nat) (ks : List Ky), iv = .int .i64 (i : Int) ∧ i ≤ m ∧ Hid (ks = keysL p (L.take i)) ∧ Hid (kK.Own wr w.heap.size ov ks) ∧ Hid (Below w.heap.size w wr)) (fun _ iv _ => m - (intOf iv).toNat)
  case atStart => exact ⟨0, [], rfl, Nat.zero_le _, Lib.hid rfl, Lib.hid (RowK.Own.nil kK _ _), Lib.hid (Below.refl _ _)⟩
  case round =>
    obtain ⟨i, ks, rfl, hi, HKS, HO, HB⟩ := hrel
    obtain ⟨oa, oc, rfl⟩ := HO.out.shape
    obtain ⟨n, hn⟩ : ∃ n, n = ks.length := ⟨_, rfl⟩
    have HN : Hid (n = ks.length ∧ n ≤ 1048576) := Lib.hid ⟨hn, by have h1 := keysL_len p (L.take i); rw [← HKS.out, List.length_take] at h1; have := HM.out; omega⟩
    rw [← hn] at HO ⊢
    clear hn
    obtain ⟨c0, z0, hrow⟩ := HRV.out wr HB.out
    have hm6 := HM.out.2
    by_cases hlt : i < m
    · obtain ⟨⟨k, x⟩, hx⟩ : ∃ q, L[i]? = some q := ⟨_, List.getElem?_eq_getElem (by have := HM.out.1; omega)⟩
      obtain ⟨lb, rfl, hat⟩ := hrow (fun e => by rw [e] at hx; simp at hx)
      obtain ⟨x0, x1, x2, x3, x4, x5, x6, x7, x8⟩ := hat.cells i k x hx
      have zl := hat.lt
      have HX := Lib.hid hx
      have HTK : Hid (L.take (i + 1) = L.take i ++ [(k, x)]) := Lib.hid (by rw [List.take_add_one, hx]; rfl)
      clear hx hat hrow
      go_upto_region 6 with fail
      clear x0 x1 x2 x3 x4 x5 x6 x7 x8 zl c0 z0
      obtain ⟨u0, hu0⟩ : ∃ u, u = wr.alloc (.cells #[.int .i64 k.kind, .int .i64 k.a, .int .i64 k.b, .string k.s, .int .u64 x.st, .bool (!x.ab), .string x.text, .bool x.lk, .int .i64 x.who] 71) := ⟨_, rfl⟩
      obtain ⟨xb, hxb⟩ : ∃ b, b = wr.heap.size := ⟨_, rfl⟩
      rw [← hu0, ← hxb]
      have HU0 : Hid (Below w.heap.size w u0) := Lib.hid (by rw [hu0]; exact HB.out.alloc HB.out.size _)
      have HO0 : Hid (kK.Own u0 w.heap.size (.slice oa n oc) ks) := Lib.hid (by rw [hu0]; exact HO.out.alloc _)
      have hbx : u0.heap[xb]? = some (.cells #[.int .i64 k.kind, .int .i64 k.a, .int .i64 k.b, .string k.s, .int .u64 x.st, .bool (!x.ab), .string x.text, .bool x.lk, .int .i64 x.who] 71 (0, 0)) := by rw [hu0, hxb]; exact heap_new _ _
      have HBX : Hid (∀ u, Below u0.heap.size u0 u → u.cell? ⟨xb, 0, none⟩ = some (.int .i64 k.kind) ∧ u.cell? ⟨xb, 1, none⟩ = some (.int .i64 k.a) ∧ u.cell? ⟨xb, 2, none⟩ = some (.int .i64 k.b) ∧ u.cell? ⟨xb, 3, none⟩ = some (.string k.s) ∧ xb < u.heap.size) := Lib.hid (fun u hu => by
        have e := (hu.block _ (Array.getElem?_eq_some_iff.1 hbx).1).trans hbx
        exact ⟨by rw [cell_of_blk e]; rfl, by rw [cell_of_blk e]; rfl, by rw [cell_of_blk e]; rfl, by rw [cell_of_blk e]; rfl, (Array.getElem?_eq_some_iff.1 e).1⟩)
      have b5 := cell_of_blk hbx 5
      have b7 := cell_of_blk hbx 7
      have b8 := cell_of_blk hbx 8
      have zx := (Array.getElem?_eq_some_iff.1 hbx).1
      simp at b5 b7 b8
      clear hu0 hxb hbx
      rcases Bool.eq_false_or_eq_true x.ab with hab | hab
      case inl =>
        rw [hab] at b5
        simp only [Bool.not_true] at b5
        have HPX : Hid (p x = false) := Lib.hid (by rw [HPD.out]; unfold hasC; rw [hab]; rfl)
        clear hab
        go_wp2_with fail
        exact ⟨⟨i + 1, ks, by simp, hlt, Lib.hid (by rw [HTK.out, keysL_snoc, if_neg (by have := HPX.out; show ¬ p x = true; rw [this]; decide)]; exact HKS.out), HO0, HU0⟩, by simp [intOf]; omega⟩
      case inr =>
      rw [hab] at b5
      simp only [Bool.not_false] at b5
      have HPX : Hid (p x = true) := Lib.hid (by rw [HPD.out]; unfold hasC; rw [hab]; rfl)
      clear hab
      go_wp2_with fail
      clear b5 b7 b8 zx
      go_loopw [10] (fun jv wk => ∃ j : Nat, jv = .int .i64 (j : Int) ∧ j ≤ n ∧ Hid (Below u0.heap.size u0 wk) ∧ Hid (∀ (q : Nat) (y : Ky), q < j → ks[q]? = some y → y.cmp k < 0)) (fun jv _ => n - (intOf jv).toNat)
      case atStart => exact ⟨0, rfl, Nat.zero_le _, Lib.hid (Below.refl _ _), Lib.hid (fun q y hq => absurd hq (Nat.not_lt_zero _))⟩
      case round =>
        obtain ⟨j, rfl, hj, HBJ, HLT⟩ := hrel
        have hn6 := HN.out.2
        obtain ⟨p0, p1, p2, p3, zb⟩ := HBX.out wr HBJ.out
        by_cases hlj : j < n
        · obtain ⟨y, hy⟩ : ∃ y, ks[j]? = some y := ⟨_, List.getElem?_eq_getElem (by have := HN.out.1; omega)⟩
          obtain ⟨ob, oo, hoa, hat⟩ := (HO0.out.below HBJ.out).toV (fun e => by rw [e] at hy; simp at hy)
          subst hoa
          have r0 := hat.cells j y hy 0 _ rfl
          have r1 := hat.cells j y hy 1 _ rfl
          have r2 := hat.cells j y hy 2 _ rfl
          have r3 := hat.cells j y hy 3 _ rfl
          simp [kK] at r0 r1 r2 r3
          have zo := hat.lt
          obtain ⟨c, hc⟩ : ∃ c, c = y.cmp k := ⟨_, rfl⟩
          have HCC := Lib.hid hc
          have hys : y.s.size ≤ maxLen := by
            have hm := List.mem_of_getElem? hy
            rw [HKS.out] at hm
            obtain ⟨q, hq, e, _⟩ := (mem_keysL p _ _).1 hm
            rw [← e]
            exact HOK.out q (List.mem_of_mem_take hq)
          have HORD : Hid (Calls Try.prog 97 #[.agg #[.int .i64 y.kind, .int .i64 y.a, .int .i64 y.b, .string y.s], .agg #[.int .i64 k.kind, .int .i64 k.a, .int .i64 k.b, .string k.s]] wr.drew fun e w' => e = .returned (.int .i64 c) ∧ Below wr.drew.heap.size wr.drew w') := Lib.hid (by rw [hc]; exact r9order_any y k wr.drew hys)
          have hbd : Below wr.heap.size wr wr.drew := below_drewN (Below.refl _ _) 1
          have KS : Hid (∀ u, Below wr.drew.heap.size wr.drew u → u.cell? ⟨ob, oo + j * 4, none⟩ = some (.int .i64 y.kind) ∧ u.cell? ⟨ob, oo + j * 4 + 1, none⟩ = some (.int .i64 y.a) ∧ u.cell? ⟨ob, oo + j * 4 + 2, none⟩ = some (.int .i64 y.b) ∧ u.cell? ⟨ob, oo + j * 4 + 3, none⟩ = some (.string y.s) ∧ u.cell? ⟨xb, 0, none⟩ = some (.int .i64 k.kind) ∧ u.cell? ⟨xb, 1, none⟩ = some (.int .i64 k.a) ∧ u.cell? ⟨xb, 2, none⟩ = some (.int .i64 k.b) ∧ u.cell? ⟨xb, 3, none⟩ = some (.string k.s)) := Lib.hid (fun u hu => by
            have h := below_then hbd hu
            exact ⟨below_cell h _ zo r0, below_cell h _ zo r1, below_cell h _ zo r2, below_cell h _ zo r3, below_cell h _ zb p0, below_cell h _ zb p1, below_cell h _ zb p2, below_cell h _ zb p3⟩)
          have HBD : Hid (Below u0.heap.size u0 wr.drew) := Lib.hid (below_then HBJ.out hbd)
          have HY := Lib.hid hy
          have tn : decide (j < n) = true := decide_eq_true hlj
          have tn2 : decide ((j : Int) < (n : Int)) = true := decide_eq_true (by omega)
          clear hy hat hc hys hbd
          by_cases hc0 : c < 0
          · have tc : decide (c < 0) = true := decide_eq_true hc0
            have HLT2 : Hid (∀ (q : Nat) (z : Ky), q < j + 1 → ks[q]? = some z → z.cmp k < 0) := Lib.hid (fun q z hq hz => by
              by_cases hqj : q < j
              · exact HLT.out q z hqj hz
              · obtain rfl : q = j := by omega
                rw [HY.out] at hz
                injection hz with hz
                rw [← hz, ← HCC.out]
                exact hc0)
            clear hc0
            go_upto_region 8 with fail
            go_region_held3 (fun w' => w'.cell? ⟨ob, oo + j * 4, none⟩ = some (.int .i64 y.kind) ∧ w'.cell? ⟨ob, oo + j * 4 + 1, none⟩ = some (.int .i64 y.a) ∧ w'.cell? ⟨ob, oo + j * 4 + 2, none⟩ = some (.int .i64 y.b) ∧ w'.cell? ⟨ob, oo + j * 4 + 3, none⟩ = some (.string y.s) ∧ w'.cell? ⟨xb, 0, none⟩ = some (.int .i64 k.kind) ∧ w'.cell? ⟨xb, 1, none⟩ = some (.int .i64 k.a) ∧ w'.cell? ⟨xb, 2, none⟩ = some (.int .i64 k.b) ∧ w'.cell? ⟨xb, 3, none⟩ = some (.string k.s))
              (first | exact KS.out _ (Below.refl _ _) | exact KS.out _ HB6.out)
              (first | (go_at_call 97; (with_reducible refine HORD.out.mono ?_); rintro e w6 ⟨rfl, b6⟩; have HB6 := Lib.hid b6; clear b6) | fail)
            all_goals (
              go_wp2_with fail
              exact ⟨⟨j + 1, by simp, hlj, Lib.hid (below_then HBD.out HB6.out), HLT2⟩, by simp [intOf]; omega⟩)
          · have tc : decide (c < 0) = false := decide_eq_false hc0
            have HGE : Hid (∀ z, ks[j]? = some z → ¬ z.cmp k < 0) := Lib.hid (fun z hz => by
              rw [HY.out] at hz
              injection hz with hz
              rw [← hz, ← HCC.out]
              exact hc0)
            clear hc0
            go_upto_region 8 with fail
            go_region_held3 (fun w' => w'.cell? ⟨ob, oo + j * 4, none⟩ = some (.int .i64 y.kind) ∧ w'.cell? ⟨ob, oo + j * 4 + 1, none⟩ = some (.int .i64 y.a) ∧ w'.cell? ⟨ob, oo + j * 4 + 2, none⟩ = some (.int .i64 y.b) ∧ w'.cell? ⟨ob, oo + j * 4 + 3, none⟩ = some (.string y.s) ∧ w'.cell? ⟨xb, 0, none⟩ = some (.int .i64 k.kind) ∧ w'.cell? ⟨xb, 1, none⟩ = some (.int .i64 k.a) ∧ w'.cell? ⟨xb, 2, none⟩ = some (.int .i64 k.b) ∧ w'.cell? ⟨xb, 3, none⟩ = some (.string k.s))
              (first | exact KS.out _ (Below.refl _ _) | exact KS.out _ HB6.out)
              (first | (go_at_call 97; (with_reducible refine HORD.out.mono ?_); rintro e w6 ⟨rfl, b6⟩; have HB6 := Lib.hid b6; clear b6) | fail)
            all_goals (
              clear p0 p1 p2 p3 zb r0 r1 r2 r3 zo tn tn2 tc
              go_upto_region 11 with fail
              obtain ⟨wq, hwq⟩ : ∃ wq : World, wq = w6 := ⟨_, rfl⟩
              rw [← hwq]
              have HBQ : Hid (Below u0.heap.size u0 wq) := Lib.hid (by rw [hwq]; exact below_then HBD.out HB6.out)
              clear hwq
              have HOQ := Lib.hid (HO0.out.below HBQ.out)
              obtain ⟨a1, ha1⟩ : ∃ a1, kK.pfx ((some ⟨ob, oo, none⟩) : Option Addr) oc = a1 := ⟨_, rfl⟩
              obtain ⟨a3, ha3⟩ : ∃ a3, kK.sfx ((some ⟨ob, oo, none⟩) : Option Addr) oc j = a3 := ⟨_, rfl⟩
              obtain ⟨n3, hn3⟩ : ∃ n3, n - j = n3 := ⟨_, rfl⟩
              obtain ⟨c3, hc3⟩ : ∃ c3, oc - j = c3 := ⟨_, rfl⟩
              have HCP : Hid (n ≤ oc) := Lib.hid (by have := HOQ.out.cap; have := HN.out; omega)
              have HV1 : Hid (∀ u, Below wq.heap.size wq u → kK.V u a1 (ks.take j)) := Lib.hid (fun u hu => by rw [← ha1]; exact (HOQ.out.below hu).toV.take j oc)
              have HV3 : Hid (∀ u, Below wq.heap.size wq u → kK.V u a3 (ks.drop j)) := Lib.hid (fun u hu => by rw [← ha3]; exact (HOQ.out.below hu).toV.drop (by have := HCP.out; have := HN.out; omega))
              have HON : Hid (((some ⟨ob, oo, none⟩) : Option Addr) = none → oc = 0) := Lib.hid (fun e => by first | (cases e; done) | (have h := HOQ.out; rw [e] at h; exact h.noneCap))
              have HNN1 : Hid (a1 = none → oc = 0) := Lib.hid (fun e => RowK.pfx_none (k := kK) (a := ((some ⟨ob, oo, none⟩) : Option Addr)) HON.out (ha1.trans e))
              have HNN3 : Hid (a3 = none → c3 = 0) := Lib.hid (fun e => by rw [← hc3]; exact RowK.sfx_none (k := kK) (a := ((some ⟨ob, oo, none⟩) : Option Addr)) HON.out (ha3.trans e))
              have HL1 : Hid ((ks.take j).length = j) := Lib.hid (by rw [List.length_take]; have := HN.out; omega)
              have HL3 : Hid ((ks.drop j).length = n3) := Lib.hid (by rw [List.length_drop]; have := HN.out; omega)
              have HA1 := Lib.hid ha1
              have HA3 := Lib.hid ha3
              have HN3 := Lib.hid hn3
              have HC3 := Lib.hid hc3
              have hjc : j ≤ oc := Nat.le_trans hj HCP.out
              have HWQ : Hid (w.heap.size ≤ wq.heap.size) := Lib.hid (Nat.le_trans HU0.out.size HBQ.out.size)
              clear ha1 ha3 hn3 hc3
              go_upto_region 12 with (first | (refine RowK.wpList_pfx (k := kK) (o := ⟨some 69, _, _, _, _, _⟩) rfl (.tmp 67) (.tmp 68) rfl _ n oc j rfl rfl hjc HA1.out ?_) | (at_builtin; refine RowK.wpList_app (k := kK) (B := w.heap.size) (v := .slice none 0 0) (l := []) rfl (.tmp 66) (.tmp 69) rfl rfl (RowK.Own.nil kK _ _) a1 j (ks.take j) oc rfl HL1.out (HV1.out wq (Below.refl _ _)) HNN1.out (by have := HN.out; rw [HL1.out]; simp; omega) HWQ.out ?_; rintro v1 u1 g1; have G1 := Lib.hid (show kK.App wq w.heap.size (.slice none 0 0) (ks.take j) v1 u1 from g1); clear g1))
              have HB1 : Hid (Below wq.heap.size wq u1) := Lib.hid ⟨G1.out.2.1.os, G1.out.2.1.tape, G1.out.2.1.output, G1.out.2.1.size, fun q hq => G1.out.2.1.block q hq (fun e => by cases e)⟩
              obtain ⟨p0, p1, p2, p3, zb⟩ := HBX.out u1 (below_then HBQ.out HB1.out)
              obtain ⟨W2, hW2⟩ : ∃ W2, W2 = u1.alloc (.cells #[.int .i64 k.kind, .int .i64 k.a, .int .i64 k.b, .string k.s] 32) := ⟨_, rfl⟩
              have hb2 : Below u1.heap.size u1 W2 := by rw [hW2]; exact below_box u1 _
              have HB2 : Hid (Below wq.heap.size wq W2) := Lib.hid (below_then HB1.out hb2)
              have HO2 : Hid (kK.Own W2 w.heap.size v1 (ks.take j)) := Lib.hid (G1.out.1.below hb2)
              have HXV : Hid (kK.V W2 (some ⟨u1.heap.size, 0, none⟩) [k]) := Lib.hid (by rw [hW2]; exact fun _ => ⟨_, 0, rfl, RowK.new_at (k := kK) (heap_new u1 _) (by simp [RowK.cells, kK, Ky.enc])⟩)
              have HW2 := Lib.hid hW2.symm
              clear hW2 hb2
              go_upto_region 13 with (first | (at_builtin; rw [HW2.out]; refine RowK.wpList_app (k := kK) (B := w.heap.size) (v := v1) (l := ks.take j) rfl (.tmp 71) (.tmp 74) rfl rfl HO2.out (some ⟨u1.heap.size, 0, none⟩) 1 [k] 1 rfl rfl HXV.out (fun e => by cases e) (by have := HN.out; rw [HL1.out]; simp; omega) (Nat.le_trans HWQ.out HB2.out.size) ?_; rintro v2 u2 g2; have G2 := Lib.hid g2; clear g2))
              clear p0 p1 p2 p3 zb
              have HB3 : Hid (Below w.heap.size wq u2) := Lib.hid ((HB2.out.mono HWQ.out).trans (below_grownQ HO2.out G2.out.2.1 (Nat.le_trans HWQ.out HB2.out.size)))
              have HV33 : Hid (kK.V u2 a3 (ks.drop j)) := Lib.hid (fun hne => by
                obtain ⟨b3, o3, e3, hat3⟩ := HV3.out wq (Below.refl _ _) hne
                have hat4 := hat3.below HB2.out
                refine ⟨b3, o3, e3, hat4.of_block (G2.out.2.1.block b3 hat4.lt (fun e => ?_))⟩
                rcases G1.out.2.2 with q | q
                · rw [q] at e; cases e
                · rw [q] at e
                  injection e with e
                  have := hat3.lt
                  omega)
              go_wp2_with (first | (refine RowK.wpList_sfx (k := kK) (o := ⟨some 79, _, _, _, _, _⟩) rfl (.tmp 77) (.tmp 78) rfl _ n oc j rfl rfl hj HA3.out HN3.out HC3.out ?_) | (at_builtin; refine RowK.wpList_app (k := kK) (B := w.heap.size) (v := v2) (l := ks.take j ++ [k]) rfl (.tmp 76) (.tmp 79) rfl rfl G2.out.1 a3 n3 (ks.drop j) c3 rfl HL3.out HV33.out HNN3.out (by have := HN.out; have := HL1.out; have := HL3.out; have := HN3.out; simp only [List.length_append, List.length_cons, List.length_nil]; omega) (Nat.le_trans HWQ.out HB3.out.size) ?_; rintro v3 u3 g3; have G3 := Lib.hid g3; clear g3) | fail)
              have HINS : ks.take j ++ [k] ++ ks.drop j = insK k ks := (insK_at HLT.out (fun z hz => by have := HGE.out z hz; omega)).symm
              exact ⟨⟨i + 1, insK k ks, by simp, hlt, Lib.hid (by rw [HTK.out, keysL_snoc, if_pos (show p (k, x).2 = true from HPX.out), ← HKS.out]), Lib.hid (by rw [← HINS]; exact G3.out.1), Lib.hid (((HU0.out.trans (HBQ.out.mono HU0.out.size)).trans HB3.out).trans (below_grownQ G2.out.1 G3.out.2.1 (Nat.le_trans HWQ.out HB3.out.size)))⟩, by simp [intOf]; omega⟩
              )
        · have hjn : j = n := by omega
          have tn : decide (j < n) = false := decide_eq_false hlj
          have tn2 : decide ((j : Int) < (n : Int)) = false := decide_eq_false (by omega)
          have HGE : Hid (∀ z, ks[j]? = some z → ¬ z.cmp k < 0) := Lib.hid (fun z hz => by have := (List.getElem?_eq_some_iff.1 hz).1; have := HN.out.1; omega)
          go_upto_region 8 with fail
          go_quiet (fail)
          clear p0 p1 p2 p3 zb tn tn2 hjn
          go_upto_region 11 with fail
          obtain ⟨wq, hwq⟩ : ∃ wq : World, wq = wr.drewN nq := ⟨_, rfl⟩
          rw [← hwq]
          have HBQ : Hid (Below u0.heap.size u0 wq) := Lib.hid (by rw [hwq]; exact below_drewN HBJ.out _)
          clear hwq
          have HOQ := Lib.hid (HO0.out.below HBQ.out)
          obtain ⟨a1, ha1⟩ : ∃ a1, kK.pfx (oa : Option Addr) oc = a1 := ⟨_, rfl⟩
          obtain ⟨a3, ha3⟩ : ∃ a3, kK.sfx (oa : Option Addr) oc j = a3 := ⟨_, rfl⟩
          obtain ⟨n3, hn3⟩ : ∃ n3, n - j = n3 := ⟨_, rfl⟩
          obtain ⟨c3, hc3⟩ : ∃ c3, oc - j = c3 := ⟨_, rfl⟩
          have HCP : Hid (n ≤ oc) := Lib.hid (by have := HOQ.out.cap; have := HN.out; omega)
          have HV1 : Hid (∀ u, Below wq.heap.size wq u → kK.V u a1 (ks.take j)) := Lib.hid (fun u hu => by rw [← ha1]; exact (HOQ.out.below hu).toV.take j oc)
          have HV3 : Hid (∀ u, Below wq.heap.size wq u → kK.V u a3 (ks.drop j)) := Lib.hid (fun u hu => by rw [← ha3]; exact (HOQ.out.below hu).toV.drop (by have := HCP.out; have := HN.out; omega))
          have HON : Hid ((oa : Option Addr) = none → oc = 0) := Lib.hid (fun e => by first | (cases e; done) | (have h := HOQ.out; rw [e] at h; exact h.noneCap))
          have HNN1 : Hid (a1 = none → oc = 0) := Lib.hid (fun e => RowK.pfx_none (k := kK) (a := (oa : Option Addr)) HON.out (ha1.trans e))
          have HNN3 : Hid (a3 = none → c3 = 0) := Lib.hid (fun e => by rw [← hc3]; exact RowK.sfx_none (k := kK) (a := (oa : Option Addr)) HON.out (ha3.trans e))
          have HL1 : Hid ((ks.take j).length = j) := Lib.hid (by rw [List.length_take]; have := HN.out; omega)
          have HL3 : Hid ((ks.drop j).length = n3) := Lib.hid (by rw [List.length_drop]; have := HN.out; omega)
          have HA1 := Lib.hid ha1
          have HA3 := Lib.hid ha3
          have HN3 := Lib.hid hn3
          have HC3 := Lib.hid hc3
          have hjc : j ≤ oc := Nat.le_trans hj HCP.out
          have HWQ : Hid (w.heap.size ≤ wq.heap.size) := Lib.hid (Nat.le_trans HU0.out.size HBQ.out.size)
          clear ha1 ha3 hn3 hc3
          go_upto_region 12 with (first | (refine RowK.wpList_pfx (k := kK) (o := ⟨some 69, _, _, _, _, _⟩) rfl (.tmp 67) (.tmp 68) rfl _ n oc j rfl rfl hjc HA1.out ?_) | (at_builtin; refine RowK.wpList_app (k := kK) (B := w.heap.size) (v := .slice none 0 0) (l := []) rfl (.tmp 66) (.tmp 69) rfl rfl (RowK.Own.nil kK _ _) a1 j (ks.take j) oc rfl HL1.out (HV1.out wq (Below.refl _ _)) HNN1.out (by have := HN.out; rw [HL1.out]; simp; omega) HWQ.out ?_; rintro v1 u1 g1; have G1 := Lib.hid (show kK.App wq w.heap.size (.slice none 0 0) (ks.take j) v1 u1 from g1); clear g1))
          have HB1 : Hid (Below wq.heap.size wq u1) := Lib.hid ⟨G1.out.2.1.os, G1.out.2.1.tape, G1.out.2.1.output, G1.out.2.1.size, fun q hq => G1.out.2.1.block q hq (fun e => by cases e)⟩
          obtain ⟨p0, p1, p2, p3, zb⟩ := HBX.out u1 (below_then HBQ.out HB1.out)
          obtain ⟨W2, hW2⟩ : ∃ W2, W2 = u1.alloc (.cells #[.int .i64 k.kind, .int .i64 k.a, .int .i64 k.b, .string k.s] 32) := ⟨_, rfl⟩
          have hb2 : Below u1.heap.size u1 W2 := by rw [hW2]; exact below_box u1 _
          have HB2 : Hid (Below wq.heap.size wq W2) := Lib.hid (below_then HB1.out hb2)
          have HO2 : Hid (kK.Own W2 w.heap.size v1 (ks.take j)) := Lib.hid (G1.out.1.below hb2)
          have HXV : Hid (kK.V W2 (some ⟨u1.heap.size, 0, none⟩) [k]) := Lib.hid (by rw [hW2]; exact fun _ => ⟨_, 0, rfl, RowK.new_at (k := kK) (heap_new u1 _) (by simp [RowK.cells, kK, Ky.enc])⟩)
          have HW2 := Lib.hid hW2.symm
          clear hW2 hb2
          go_upto_region 13 with (first | (at_builtin; rw [HW2.out]; refine RowK.wpList_app (k := kK) (B := w.heap.size) (v := v1) (l := ks.take j) rfl (.tmp 71) (.tmp 74) rfl rfl HO2.out (some ⟨u1.heap.size, 0, none⟩) 1 [k] 1 rfl rfl HXV.out (fun e => by cases e) (by have := HN.out; rw [HL1.out]; simp; omega) (Nat.le_trans HWQ.out HB2.out.size) ?_; rintro v2 u2 g2; have G2 := Lib.hid g2; clear g2))
          clear p0 p1 p2 p3 zb
          have HB3 : Hid (Below w.heap.size wq u2) := Lib.hid ((HB2.out.mono HWQ.out).trans (below_grownQ HO2.out G2.out.2.1 (Nat.le_trans HWQ.out HB2.out.size)))
          have HV33 : Hid (kK.V u2 a3 (ks.drop j)) := Lib.hid (fun hne => by
            obtain ⟨b3, o3, e3, hat3⟩ := HV3.out wq (Below.refl _ _) hne
            have hat4 := hat3.below HB2.out
            refine ⟨b3, o3, e3, hat4.of_block (G2.out.2.1.block b3 hat4.lt (fun e => ?_))⟩
            rcases G1.out.2.2 with q | q
            · rw [q] at e; cases e
            · rw [q] at e
              injection e with e
              have := hat3.lt
              omega)
          go_wp2_with (first | (refine RowK.wpList_sfx (k := kK) (o := ⟨some 79, _, _, _, _, _⟩) rfl (.tmp 77) (.tmp 78) rfl _ n oc j rfl rfl hj HA3.out HN3.out HC3.out ?_) | (at_builtin; refine RowK.wpList_app (k := kK) (B := w.heap.size) (v := v2) (l := ks.take j ++ [k]) rfl (.tmp 76) (.tmp 79) rfl rfl G2.out.1 a3 n3 (ks.drop j) c3 rfl HL3.out HV33.out HNN3.out (by have := HN.out; have := HL1.out; have := HL3.out; have := HN3.out; simp only [List.length_append, List.length_cons, List.length_nil]; omega) (Nat.le_trans HWQ.out HB3.out.size) ?_; rintro v3 u3 g3; have G3 := Lib.hid g3; clear g3) | fail)
          have HINS : ks.take j ++ [k] ++ ks.drop j = insK k ks := (insK_at HLT.out (fun z hz => by have := HGE.out z hz; omega)).symm
          exact ⟨⟨i + 1, insK k ks, by simp, hlt, Lib.hid (by rw [HTK.out, keysL_snoc, if_pos (show p (k, x).2 = true from HPX.out), ← HKS.out]), Lib.hid (by rw [← HINS]; exact G3.out.1), Lib.hid (((HU0.out.trans (HBQ.out.mono HU0.out.size)).trans HB3.out).trans (below_grownQ G2.out.1 G3.out.2.1 (Nat.le_trans HWQ.out HB3.out.size)))⟩, by simp [intOf]; omega⟩
    · have hin : i = m := by omega
      have ti : decide ((i : Int) < (m : Int)) = false := decide_eq_false (by omega)
      go_wp2_with fail
      go_ret
      refine ⟨_, rfl, ?_, HB.out⟩
      have h := HO.out
      rw [HKS.out, List.take_of_length_le (by have := HM.out; omega)] at h
      have h2 : n = (keysL p L).length := by rw [HN.out.1, HKS.out, List.take_of_length_le (by have := HM.out; omega)]
      exact h

end Go.Proofs.Ytaanohgkdpohhaa
