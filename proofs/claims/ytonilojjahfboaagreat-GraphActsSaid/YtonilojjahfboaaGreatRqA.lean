/- The document's put, Set, Drop of properties. Conditions: each contract's own premises. The document's Set of properties. Conditions: the contract's own premises. The document's Drop of properties. Conditions: the contract's own premises. -/
import Derived.Test.YtonilojjahfboaaGreatPqA
import Derived.Test.YtonilojjahfboaaGreatGcA
import Derived.Deep.RegionHeld3
namespace Go.Proofs.YtonilojjahfboaaGreat
open Go.RowKit Go.Maps

theorem kP_new (w : World) (p : Pr) : kP.V (w.alloc (.cells #[.string p.key, .int .i64 p.v.kind, .int .i64 p.v.n, .string p.v.s] 137)) (some ⟨w.heap.size, 0, none⟩) [p] := fun _ => ⟨_, 0, rfl, kP_one (heap_new w _)⟩
theorem app_below {w u w' : World} {B : Nat} {v v' : Value} {l m : List Pr} (ho : kP.Own w B v l) (hA : kP.App w B v m v' w') (hb : Below B u w) (hB : B ≤ w.heap.size) : Below B u w' :=
  hb.trans ⟨hA.2.1.os, hA.2.1.tape, hA.2.1.output, hA.2.1.size, fun j hj => hA.2.1.block j (Nat.lt_of_lt_of_le hj hB) (fun e => by have := (ho.lt j e.symm).1; omega)⟩
def OwPost (w : World) (l : List Pr) (e : Ending) (w' : World) : Prop := ∃ v, e = .returned v ∧ kP.Own w' w.heap.size v l ∧ Below w.heap.size w w'
/-- half-way -/
structure RpI (W : World) (ps : List Pr) (p : Pr) (k : Nat) (v : Value) (O : List Pr) (d : Bool) (wr : World) : Prop where
  own : kP.Own wr W.heap.size v O
  put : PutI ps p k O d
  bel : Below W.heap.size W wr
set_option maxRecDepth 100000 in
set_option maxHeartbeats 4000000 in
theorem r3put_any (a : Option Addr) (cap : Nat) (ps : List Pr) (p : Pr) (w : World) (h : PsV w a ps) (hu : UpP ps) (hl : ps.length ≤ 100000) (hpk : p.key.size ≤ 2000000) :
    Calls Tryz.prog 271 #[.slice a ps.length cap, .agg #[.string p.key, .int .i64 p.v.kind, .int .i64 p.v.n, .string p.v.s]] w (OwPost w (putP ps p)) := by
  obtain ⟨W, hW⟩ : ∃ W, W = w.alloc (.cells #[.string p.key, .int .i64 p.v.kind, .int .i64 p.v.n, .string p.v.s] 137) := ⟨_, rfl⟩
  have hBW : Below w.heap.size w W := by rw [hW]; exact below_box w _
  obtain ⟨bx, hbx⟩ : ∃ bx, bx = w.heap.size := ⟨_, rfl⟩
  have eW : W.heap[bx]? = some (.cells #[.string p.key, .int .i64 p.v.kind, .int .i64 p.v.n, .string p.v.s] 137) := by rw [hW, hbx]; exact heap_new w _
  have hlW : bx < W.heap.size := (Array.getElem?_eq_some_iff.1 eW).1
  have KB : Hid (∀ w', Below W.heap.size W w' → w'.cell? ⟨bx, 0, none⟩ = some (.string p.key) ∧ w'.cell? ⟨bx, 1, none⟩ = some (.int .i64 p.v.kind) ∧ w'.cell? ⟨bx, 2, none⟩ = some (.int .i64 p.v.n) ∧ w'.cell? ⟨bx, 3, none⟩ = some (.string p.v.s) ∧ bx < w'.heap.size) := Lib.hid (fun w' hb => by
    have e := (hb.block _ hlW).trans eW
    exact ⟨by rw [cell_of_blk e]; rfl, by rw [cell_of_blk e]; rfl, by rw [cell_of_blk e]; rfl, by rw [cell_of_blk e]; rfl, (Array.getElem?_eq_some_iff.1 e).1⟩)
  have HR := Lib.hid (h.below hBW)
  have HU := Lib.hid hu
  have HPK := Lib.hid hpk
  have HL := Lib.hid hl
  have HW := Lib.hid hW
  have HBX := Lib.hid hbx
  have HBW := Lib.hid hBW
  have HI0 : Hid (RpI W ps p 0 (.slice none 0 0) [] false W) := Lib.hid ⟨RowK.Own.nil kP _ _, PutI.start ps p, Below.refl _ _⟩
  clear h hu hpk hW hbx hBW eW hlW
  go_enter Tryz.func271, Tryz.ntmps271
  go_upto_region 1 with fail
  rw [← HW.out, ← HBX.out]
  go_wp2_with fail
  go_loopw [5, 6, 7] (fun o d i wr => ∃ k : Nat, ∃ a9 : Option Addr, ∃ c9 : Nat, ∃ O : List Pr, ∃ dn : Bool, k ≤ ps.length ∧ i = .int .i64 k ∧ .slice a9 O.length c9 = o ∧ .bool dn = d ∧ Hid (RpI W ps p k (.slice a9 O.length c9) O dn wr)) (fun _ _ i _ => ps.length - (intOf i).toNat)
  case atStart => exact ⟨0, none, 0, [], false, Nat.zero_le _, rfl, rfl, rfl, HI0⟩
  case round =>
    clear HI0
    obtain ⟨k, a9, c9, O, dn, hk, rfl, rfl, rfl, HI⟩ := hrel
    by_cases hlt : k < ps.length
    · obtain ⟨x, hx⟩ : ∃ x, ps[k]? = some x := ⟨_, List.getElem?_eq_getElem hlt⟩
      obtain ⟨b, off, rfl, hat⟩ := HR.out (fun e => by rw [e] at hlt; simp at hlt)
      have hbl := hat.lt
      have HXC : Hid (∀ w', Below W.heap.size W w' → w'.cell? ⟨b, off + k * 4, none⟩ = some (.string x.key) ∧ w'.cell? ⟨b, off + k * 4 + 1, none⟩ = some (.int .i64 x.v.kind) ∧ w'.cell? ⟨b, off + k * 4 + 2, none⟩ = some (.int .i64 x.v.n) ∧ w'.cell? ⟨b, off + k * 4 + 3, none⟩ = some (.string x.v.s) ∧ b < w'.heap.size) := Lib.hid (fun w' hb => by
        obtain ⟨e0, e1, e2, e3⟩ := (hat.of_block (hb.block b hbl)).cells k x hx
        exact ⟨e0, e1, e2, e3, Nat.lt_of_lt_of_le hbl hb.size⟩)
      have hok := hat.ok x (List.mem_of_getElem? hx)
      have HX := Lib.hid hx
      have HXK := Lib.hid hok.key
      have HOL : Hid (O.length + 2 ≤ 200000) := Lib.hid (by have := HI.out.put.len hk; have := HL.out; omega)
      have HKS : Hid (∀ w', Below wr.heap.size wr w' → Below wr.heap.size wr w' ∧ w'.cell? ⟨b, off + k * 4, none⟩ = some (.string x.key) ∧ w'.cell? ⟨bx, 0, none⟩ = some (.string p.key)) := Lib.hid (fun w' hb => by
        have hb2 : Below W.heap.size W w' := below_then HI.out.bel hb
        exact ⟨hb, (HXC.out w' hb2).1, (KB.out w' hb2).1⟩)
      obtain ⟨c, hc⟩ : ∃ c, kcmp x.key p.key = c := ⟨_, rfl⟩
      have hc2 : cmpL (runes x.key) (runes p.key) = c := hc
      have HC := Lib.hid hc
      have HC2 := Lib.hid hc2
      clear hx hat hbl hok hc hc2
      go_upto_region 6 with fail
      go_region_held3 (fun w' => Below wr.heap.size wr w' ∧ w'.cell? ⟨b, off + k * 4, none⟩ = some (.string x.key) ∧ w'.cell? ⟨bx, 0, none⟩ = some (.string p.key))
        (first | exact HKS.out _ (Below.refl _ _).drew | (go_split_ands; refine HKS.out _ (below_then ?_ hbc); assumption))
        ((go_at_call 338; (with_reducible refine (r1compare_any x.key p.key _ HXK.out HPK.out).mono ?_); rintro e wc ⟨rfl, hbc⟩; rw [HC2.out]))
      all_goals
        go_split_ands
        have HBC := Lib.hid (show Below wr.heap.size wr wc by assumption)
        have HO1 : Hid (kP.Own wc W.heap.size (.slice a9 O.length c9) O) := Lib.hid (HI.out.own.below HBC.out)
        have HB1 : Hid (Below W.heap.size W wc) := Lib.hid (below_then HI.out.bel HBC.out)
        have HSZ : Hid (W.heap.size ≤ wc.heap.size) := Lib.hid HB1.out.size
        obtain ⟨s0, s1, s2, s3, sl⟩ := HXC.out wc HB1.out
        obtain ⟨m0, m1, m2, m3, ml⟩ := KB.out wc HB1.out
        rcases Int.lt_trichotomy c 0 with hneg | hzero | hpos
        · have t1 : decide (0 ≤ c) = false := decide_eq_false (by omega)
          have t2 : (c == 0) = false := by simp; omega
          obtain ⟨rfl, hput⟩ := HI.out.put.low HU.out HX.out (by rw [HC.out]; exact hneg)
          have HPUT := Lib.hid hput
          clear hput hneg
          go_upto_region 5 with (at_builtin; refine RowK.wpList_app (k := kP) rfl (.tmp 35) (.tmp 40) rfl rfl (HO1.out.alloc _) (some ⟨_, 0, none⟩) 1 [x] 1 rfl rfl (kP_new _ x) (fun e => by cases e) (by have := HOL.out; simp; omega) (by simp; have := HBC.out.size; have := HI.out.bel.size; omega) ?_; intro v8 w8 hA; have HA8 := Lib.hid hA; clear hA)
          have ho8 := HA8.out
          obtain ⟨a8, c8, rfl⟩ := ho8.1.shape
          have HN : Hid (RpI W ps p (k + 1) (.slice a8 (O ++ [x]).length c8) (O ++ [x]) false w8) := Lib.hid ⟨ho8.1, HPUT.out, app_below (HO1.out.alloc _) ho8 (HB1.out.alloc HSZ.out _) (by simp; exact Nat.le_succ_of_le HSZ.out)⟩
          clear ho8 HA8
          go_wp2_with fail
          exact ⟨⟨k + 1, a8, c8, O ++ [x], false, by omega, by go_num, rfl, rfl, HN⟩, by simp [intOf]; omega⟩
        · have t1 : decide (0 ≤ c) = true := decide_eq_true (by omega)
          have t2 : (c == 0) = true := by simp; omega
          obtain ⟨rfl, hput⟩ := HI.out.put.same HU.out HX.out (by rw [HC.out]; exact hzero)
          have HPUT := Lib.hid hput
          clear hput hzero
          go_upto_region 9 with (at_builtin; refine RowK.wpList_app (k := kP) rfl (.tmp 29) (.tmp 31) rfl rfl (HO1.out.alloc _) (some ⟨_, 0, none⟩) 1 [p] 1 rfl rfl (kP_new _ p) (fun e => by cases e) (by have := HOL.out; simp; omega) (by simp; have := HBC.out.size; have := HI.out.bel.size; omega) ?_; intro v8 w8 hA; have HA8 := Lib.hid hA; clear hA)
          have ho8 := HA8.out
          obtain ⟨a8, c8, rfl⟩ := ho8.1.shape
          have HN : Hid (RpI W ps p (k + 1) (.slice a8 (O ++ [p]).length c8) (O ++ [p]) true w8) := Lib.hid ⟨ho8.1, HPUT.out, app_below (HO1.out.alloc _) ho8 (HB1.out.alloc HSZ.out _) (by simp; exact Nat.le_succ_of_le HSZ.out)⟩
          clear ho8 HA8
          go_wp2_with fail
          exact ⟨⟨k + 1, a8, c8, O ++ [p], true, by omega, by go_num, rfl, rfl, HN⟩, by simp [intOf]; omega⟩
        · have t1 : decide (0 ≤ c) = true := decide_eq_true (by omega)
          have t2 : (c == 0) = false := by simp; omega
          have HPUT := Lib.hid (HI.out.put.high HX.out (by rw [HC.out]; exact hpos))
          clear hpos
          cases dn
          · go_upto_region 9 with (at_builtin; refine RowK.wpList_app (k := kP) rfl (.tmp 29) (.tmp 31) rfl rfl (HO1.out.alloc _) (some ⟨_, 0, none⟩) 1 [p] 1 rfl rfl (kP_new _ p) (fun e => by cases e) (by have := HOL.out; simp; omega) (by simp; have := HBC.out.size; have := HI.out.bel.size; omega) ?_; intro v8 w8 hA; have HA8 := Lib.hid hA; clear hA)
            have ho8 := HA8.out
            obtain ⟨a8, c8, rfl⟩ := ho8.1.shape
            have HO8 : Hid (kP.Own w8 W.heap.size (.slice a8 (O ++ [p]).length c8) (O ++ [p])) := Lib.hid ho8.1
            have HB8 : Hid (Below W.heap.size W w8) := Lib.hid (app_below (HO1.out.alloc _) ho8 (HB1.out.alloc HSZ.out _) (by simp; exact Nat.le_succ_of_le HSZ.out))
            have HS8 : Hid (W.heap.size ≤ w8.heap.size) := Lib.hid HB8.out.size
            obtain ⟨s0, s1, s2, s3, sl⟩ := HXC.out w8 HB8.out
            clear ho8 HA8
            go_upto_region 5 with (at_builtin; refine RowK.wpList_app (k := kP) rfl (.tmp 35) (.tmp 40) rfl rfl (HO8.out.alloc _) (some ⟨_, 0, none⟩) 1 [x] 1 rfl rfl (kP_new _ x) (fun e => by cases e) (by have := HOL.out; simp; omega) (by simp; have := HS8.out; omega) ?_; intro v9 w9 hA; have HA9 := Lib.hid hA; clear hA)
            have ho9 := HA9.out
            obtain ⟨a7, c7, rfl⟩ := ho9.1.shape
            have HN : Hid (RpI W ps p (k + 1) (.slice a7 (O ++ [p] ++ [x]).length c7) (O ++ [p] ++ [x]) true w9) := Lib.hid ⟨ho9.1, HPUT.out, app_below (HO8.out.alloc _) ho9 (HB8.out.alloc HS8.out _) (by simp; exact Nat.le_succ_of_le HS8.out)⟩
            clear ho9 HA9
            go_wp2_with fail
            exact ⟨⟨k + 1, a7, c7, O ++ [p] ++ [x], true, by omega, by go_num, rfl, rfl, HN⟩, by simp [intOf]; omega⟩
          · go_upto_region 5 with (at_builtin; refine RowK.wpList_app (k := kP) rfl (.tmp 35) (.tmp 40) rfl rfl (HO1.out.alloc _) (some ⟨_, 0, none⟩) 1 [x] 1 rfl rfl (kP_new _ x) (fun e => by cases e) (by have := HOL.out; simp; omega) (by simp; have := HBC.out.size; have := HI.out.bel.size; omega) ?_; intro v8 w8 hA; have HA8 := Lib.hid hA; clear hA)
            have ho8 := HA8.out
            obtain ⟨a8, c8, rfl⟩ := ho8.1.shape
            have HN : Hid (RpI W ps p (k + 1) (.slice a8 (O ++ [x]).length c8) (O ++ [x]) true w8) := Lib.hid ⟨ho8.1, HPUT.out, app_below (HO1.out.alloc _) ho8 (HB1.out.alloc HSZ.out _) (by simp; exact Nat.le_succ_of_le HSZ.out)⟩
            clear ho8 HA8
            go_wp2_with fail
            exact ⟨⟨k + 1, a8, c8, O ++ [x], true, by omega, by go_num, rfl, rfl, HN⟩, by simp [intOf]; omega⟩
    · obtain rfl : k = ps.length := by omega
      have HE := Lib.hid HI.out.put.end
      have HBC : Hid (Below wr.heap.size wr wr) := Lib.hid (Below.refl _ _)
      have HOL : Hid (O.length + 2 ≤ 200000) := Lib.hid (by have := HI.out.put.len hk; have := HL.out; omega)
      obtain ⟨m0, m1, m2, m3, ml⟩ := KB.out wr HI.out.bel
      have HZ := Lib.hid HBW.out.size
      cases dn
      · have HSZ : Hid (W.heap.size ≤ wr.heap.size) := Lib.hid HI.out.bel.size
        go_wp2_with (at_builtin; refine RowK.wpList_app (k := kP) rfl (.tmp 44) (.tmp 46) rfl rfl (HI.out.own.alloc _) (some ⟨_, 0, none⟩) 1 [p] 1 rfl rfl (kP_new _ p) (fun e => by cases e) (by have := HOL.out; simp; omega) (by simp; have := HBC.out.size; have := HI.out.bel.size; omega) ?_; intro v8 w8 hA; have HA8 := Lib.hid hA; clear hA)
        have ho8 := HA8.out
        have HO8 := Lib.hid (app_below (HI.out.own.alloc _) ho8 (HI.out.bel.alloc HSZ.out _) (by simp; exact Nat.le_succ_of_le HSZ.out))
        go_ret
        refine ⟨_, rfl, ?_, HBW.out.trans (HO8.out.mono HZ.out)⟩
        have := ho8.1.mono HZ.out
        rw [← HE.out]
        exact this
      · go_wp2_with fail
        go_ret
        refine ⟨_, rfl, ?_, HBW.out.trans (HI.out.bel.mono HZ.out)⟩
        have := HI.out.own.mono HZ.out
        rw [← HE.out]
        exact this
end Go.Proofs.YtonilojjahfboaaGreat
namespace Go.Proofs.YtonilojjahfboaaGreat
open Go.RowKit Go.Maps

set_option maxRecDepth 100000 in
set_option maxHeartbeats 4000000 in
theorem r3set_any (a na : Option Addr) (c nc : Nat) (ps news : List Pr) (w : World) (h : PsA w a c ps) (hr : rightPs ps = true) (hn : PsV w na news) (hnl : news.length ≤ 10000) :
    Calls Tryz.prog 169 #[.slice a ps.length c, .slice na news.length nc] w (StPost w ps news) := by
  obtain ⟨hrt, hpl⟩ := rightPs_iff.1 hr
  have HOK := Lib.hid h.v.ok
  have HA := Lib.hid h
  have HN := Lib.hid hn
  have HR := Lib.hid hr
  have HUP := Lib.hid hrt.up
  have HPL := Lib.hid hpl
  have HNL := Lib.hid hnl
  clear h hn hr hrt
  go_enter Tryz.func169, Tryz.ntmps169
  go_wp2_with fail
  refine (r3right_any a c ps w HA.out.v (by omega)).mono ?_
  rintro e w1 ⟨rfl, hb1⟩
  rw [HR.out]
  have HB1 := Lib.hid hb1
  clear hb1
  go_upto_region 5 with (at_builtin; refine RowK.wpList_app (k := kP) rfl (.tmp 11) (.tmp 12) rfl rfl (RowK.Own.nil kP w1 w1.heap.size) a ps.length ps c rfl rfl (HA.out.v.kP.below HB1.out) (fun e => (HA.out.nil e).1) (by have := HPL.out; simp; omega) (Nat.le_refl _) ?_; intro v8 w8 hA; have HA8 := Lib.hid hA; clear hA)
  have ho8 := HA8.out
  rw [List.nil_append] at ho8
  obtain ⟨a0, cc0, rfl⟩ := ho8.1.shape
  have HI0 : Hid (StI w w.heap.size ps news 0 (.slice a0 ps.length cc0) ps w8) := Lib.hid ⟨ho8.1.mono HB1.out.size, HUP.out, rfl, by omega, HOK.out, below_then HB1.out (app_below (RowK.Own.nil kP w1 w1.heap.size) (by have := HA8.out; exact this) (Below.refl _ _) (Nat.le_refl _))⟩
  clear ho8 HA8 HB1
  go_wp2_with fail
  go_loopw [6, 7] (fun vv i wr => ∃ j : Nat, ∃ a9 : Option Addr, ∃ c9 : Nat, ∃ M : List Pr, j ≤ news.length ∧ i = .int .i64 j ∧ .slice a9 M.length c9 = vv ∧ Hid (StI w w.heap.size ps news j (.slice a9 M.length c9) M wr)) (fun _ i _ => news.length - (intOf i).toNat)
  case atStart => exact ⟨0, a0, cc0, ps, by omega, rfl, rfl, HI0⟩
  case round =>
    clear HI0
    obtain ⟨j, a9, c9, M, hj, rfl, rfl, HI⟩ := hrel
    by_cases hlt : j < news.length
    · obtain ⟨p, hp⟩ : ∃ p, news[j]? = some p := ⟨_, List.getElem?_eq_getElem hlt⟩
      obtain ⟨b, off, rfl, hat⟩ := HN.out (fun e => by rw [e] at hp; simp at hp)
      have hbl := hat.lt
      have HXC : Hid (∀ w', Below w.heap.size w w' → w'.cell? ⟨b, off + j * 4, none⟩ = some (.string p.key) ∧ w'.cell? ⟨b, off + j * 4 + 1, none⟩ = some (.int .i64 p.v.kind) ∧ w'.cell? ⟨b, off + j * 4 + 2, none⟩ = some (.int .i64 p.v.n) ∧ w'.cell? ⟨b, off + j * 4 + 3, none⟩ = some (.string p.v.s) ∧ b < w'.heap.size) := Lib.hid (fun w' hb => by
        obtain ⟨e0, e1, e2, e3⟩ := (hat.of_block (hb.block b hbl)).cells j p hp
        exact ⟨e0, e1, e2, e3, Nat.lt_of_lt_of_le hbl hb.size⟩)
      have hok := hat.ok p (List.mem_of_getElem? hp)
      have HPO := Lib.hid hok
      have HG := Lib.hid (setGo_cons (out := M) hp)
      obtain ⟨c0, c1, c2, c3, cl⟩ := HXC.out wr HI.out.bel
      clear hp hat hok hbl
      obtain ⟨bq, hbq⟩ : ∃ bq, badS p.key = bq := ⟨_, rfl⟩
      have HBQ := Lib.hid hbq
      have HC1 := Lib.hid (r1right_any p.key wr HPO.out.key)
      rw [hbq] at HC1
      clear hbq
      cases bq
      · go_upto_region 10 with (go_at_call 126; refine HC1.out.mono ?_; rintro e w3 ⟨rfl, hb3⟩; have HB3 := Lib.hid (below_then HI.out.bel hb3); have HB3r := Lib.hid hb3; clear hb3)
        obtain ⟨c0, c1, c2, c3, cl⟩ := HXC.out w3 HB3.out
        obtain ⟨vq, hvq⟩ : ∃ vq, p.v.right = vq := ⟨_, rfl⟩
        have HVQ := Lib.hid hvq
        have HC2 := Lib.hid (r2right_any p.v w3 HPO.out.v)
        rw [hvq] at HC2
        clear hvq
        cases vq
        · go_wp2_with (go_at_call 127; refine HC2.out.mono ?_; rintro e w4 ⟨rfl, hb4⟩; have HB4 := Lib.hid (below_then HB3.out hb4); clear hb4)
          go_ret2
          exact StPost.err (by rw [HI.out.go, HG.out, HBQ.out, if_neg (by decide), HVQ.out, if_pos rfl]) HB4.out
        · go_upto_region 12 with (go_at_call 127; refine HC2.out.mono ?_; rintro e w4 ⟨rfl, hb4⟩; have HB4 := Lib.hid (below_then HB3.out hb4); have HB4r := Lib.hid (below_then HB3r.out hb4); clear hb4)
          obtain ⟨c0, c1, c2, c3, cl⟩ := HXC.out w4 HB4.out
          have HML : Hid (M.length ≤ 100000) := Lib.hid (by have := HI.out.len; have := HPL.out; have := HNL.out; omega)
          have HO4 : Hid (kP.Own w4 w.heap.size (.slice a9 M.length c9) M) := Lib.hid (HI.out.own.below HB4r.out)
          have HC3 := Lib.hid (r3put_any a9 c9 M p w4 (psV_own HO4.out HI.out.ok) HI.out.up HML.out HPO.out.key)
          go_upto_region 7 with (go_at_call 271; refine HC3.out.mono ?_; rintro e w5 ⟨v5, rfl, ho5, hb5⟩; have HO5 := Lib.hid (ho5.mono HB4.out.size); have HB5 := Lib.hid (below_then HB4.out hb5); clear ho5 hb5)
          obtain ⟨a6, c6, rfl⟩ := HO5.out.shape
          have HN6 : Hid (StI w w.heap.size ps news (j + 1) (.slice a6 (putP M p).length c6) (putP M p) w5) := Lib.hid ⟨HO5.out, HI.out.up.put p, by rw [HI.out.go, HG.out, HBQ.out, if_neg (by decide), HVQ.out, if_neg (by decide)], by have := len_putP M p; have := HI.out.len; omega, fun y hy => by
            rcases mem_putP hy with rfl | hy
            · exact HPO.out
            · exact HI.out.ok y hy, HB5.out⟩
          clear HO5 HB5
          go_wp2_with fail
          exact ⟨⟨j + 1, a6, c6, putP M p, by omega, by go_num, rfl, HN6⟩, by simp [intOf]; omega⟩
      · go_wp2_with (go_at_call 126; refine HC1.out.mono ?_; rintro e w3 ⟨rfl, hb3⟩; have HB3 := Lib.hid (below_then HI.out.bel hb3); clear hb3)
        go_ret2
        exact StPost.err (by rw [HI.out.go, HG.out, HBQ.out, if_pos rfl]) HB3.out
    · obtain rfl : j = news.length := by omega
      have HE := Lib.hid (HI.out.go.trans setGo_end)
      by_cases h16 : 16 < M.length
      · have t1 : decide (16 < M.length) = true := decide_eq_true h16
        have t1' : decide ((16 : Int) < (M.length : Int)) = true := decide_eq_true (by omega)
        have H16 := Lib.hid h16
        clear h16
        go_wp2_with fail
        go_ret2
        exact StPost.err (by rw [HE.out, if_pos H16.out]) HI.out.bel
      · have t1 : decide (16 < M.length) = false := decide_eq_false h16
        have t1' : decide ((16 : Int) < (M.length : Int)) = false := decide_eq_false (by omega)
        have H16 := Lib.hid h16
        clear h16
        go_wp2_with fail
        go_ret2
        exact StPost.okay (by rw [HE.out, if_neg H16.out]) HI.out.bel ⟨own_psA HI.out.own HI.out.ok, fun b off e => by
          rcases HI.out.own.2 with ⟨h1, _⟩ | ⟨g, cp, cur, h1, hB, _⟩
          · injection h1 with e1 _ _
            rw [e1] at e; cases e
          · injection h1 with e1 _ _
            rw [e1] at e
            injection e with e
            injection e with e
            omega⟩
end Go.Proofs.YtonilojjahfboaaGreat
namespace Go.Proofs.YtonilojjahfboaaGreat
open Go.RowKit Go.Maps

/-- half-way -/
structure RdI (w : World) (ps : List Pr) (ks : List ByteArray) (k : Nat) (v : Value) (O : List Pr) (wr : World) : Prop where
  own : kP.Own wr w.heap.size v O
  eq : O = dropP (ps.take k) ks
  bel : Below w.heap.size w wr
theorem dropP_step {ps : List Pr} {ks : List ByteArray} {k : Nat} {x : Pr} (hx : ps[k]? = some x) : dropP (ps.take (k + 1)) ks = dropP (ps.take k) ks ++ (if ks.any (fun q => decide (q = x.key)) = true then [] else [x]) := by
  unfold dropP
  rw [List.take_add_one, hx, List.filter_append]
  congr 1
  cases h : ks.any (fun q => decide (q = x.key)) <;> simp [h]
theorem any_step {ks : List ByteArray} {j : Nat} {q x : ByteArray} (hq : ks[j]? = some q) : (ks.take (j + 1)).any (fun y => decide (y = x)) = ((ks.take j).any (fun y => decide (y = x)) || decide (q = x)) := by
  rw [List.take_add_one, hq, List.any_append]
  simp
theorem dropP_len (ps : List Pr) (ks : List ByteArray) : (dropP ps ks).length ≤ ps.length := List.length_filter_le _ _
set_option maxRecDepth 100000 in
set_option maxHeartbeats 4000000 in
theorem r3drop_any (a na : Option Addr) (c nc : Nat) (ps : List Pr) (ks : List ByteArray) (w : World) (h : PsA w a c ps) (hl : ps.length ≤ 100000) (hn : SsV w na ks) (hnl : ks.length ≤ 1000000) :
    Calls Tryz.prog 168 #[.slice a ps.length c, .slice na ks.length nc] w (PsPost w (dropP ps ks)) := by
  have HOK := Lib.hid h.v.ok
  have HA := Lib.hid h
  have HN := Lib.hid hn
  have HL := Lib.hid hl
  have HI0 : Hid (RdI w ps ks 0 (.slice none 0 0) [] w) := Lib.hid ⟨RowK.Own.nil kP _ _, rfl, Below.refl _ _⟩
  clear h hn
  go_enter Tryz.func168, Tryz.ntmps168
  go_wp2_with fail
  go_loopw [5, 6] (fun o i wr => ∃ k : Nat, ∃ a9 : Option Addr, ∃ c9 : Nat, ∃ O : List Pr, k ≤ ps.length ∧ i = .int .i64 k ∧ .slice a9 O.length c9 = o ∧ Hid (RdI w ps ks k (.slice a9 O.length c9) O wr)) (fun _ i _ => ps.length - (intOf i).toNat)
  case atStart => exact ⟨0, none, 0, [], Nat.zero_le _, rfl, rfl, HI0⟩
  case round =>
    clear HI0
    obtain ⟨k, a9, c9, O, hk, rfl, rfl, HI⟩ := hrel
    obtain ⟨wo, rfl⟩ : ∃ wo : World, wo = wr := ⟨_, rfl⟩
    by_cases hlt : k < ps.length
    · obtain ⟨x, hx⟩ : ∃ x, ps[k]? = some x := ⟨_, List.getElem?_eq_getElem hlt⟩
      obtain ⟨b, off, rfl, hat⟩ := HA.out.v (fun e => by rw [e] at hlt; simp at hlt)
      have hbl := hat.lt
      have HXC : Hid (∀ w', Below w.heap.size w w' → w'.cell? ⟨b, off + k * 4, none⟩ = some (.string x.key) ∧ w'.cell? ⟨b, off + k * 4 + 1, none⟩ = some (.int .i64 x.v.kind) ∧ w'.cell? ⟨b, off + k * 4 + 2, none⟩ = some (.int .i64 x.v.n) ∧ w'.cell? ⟨b, off + k * 4 + 3, none⟩ = some (.string x.v.s) ∧ b < w'.heap.size) := Lib.hid (fun w' hb => by
        obtain ⟨e0, e1, e2, e3⟩ := (hat.of_block (hb.block b hbl)).cells k x hx
        exact ⟨e0, e1, e2, e3, Nat.lt_of_lt_of_le hbl hb.size⟩)
      have HX := Lib.hid hx
      have HST := Lib.hid (dropP_step (ks := ks) hx)
      have HOL : Hid (O.length ≤ 100000) := Lib.hid (by rw [HI.out.eq]; have h1 := dropP_len (ps.take k) ks; rw [List.length_take] at h1; have := HL.out; omega)
      clear hx hat hbl
      go_wp2_with fail
      go_loopw [7, 8] (fun d i wr => ∃ j : Nat, ∃ dn : Bool, j ≤ ks.length ∧ i = .int .i64 j ∧ .bool dn = d ∧ Hid ((ks.take j).any (fun y => decide (y = x.key)) = dn) ∧ ∃ n, wr = wo.drewN n) (fun _ i _ => ks.length - (intOf i).toNat)
      case atStart => exact ⟨0, false, Nat.zero_le _, rfl, rfl, Lib.hid rfl, 0, rfl⟩
      case round =>
        obtain ⟨j, dn, hj, rfl, rfl, HD, n, rfl⟩ := hrel
        have HBD : Hid (Below w.heap.size w (wo.drewN n)) := Lib.hid (below_drewN HI.out.bel n)
        obtain ⟨s0, s1, s2, s3, sl⟩ := HXC.out wo HI.out.bel
        by_cases hltj : j < ks.length
        · obtain ⟨q, hq⟩ : ∃ q, ks[j]? = some q := ⟨_, List.getElem?_eq_getElem hltj⟩
          obtain ⟨kb, koff, rfl, kat⟩ := (HN.out.below HI.out.bel) (fun e => by rw [e] at hltj; simp at hltj)
          have q0 := kat.cells j q hq
          have hkl := kat.lt
          have HS2 := Lib.hid (any_step (x := x.key) hq)
          obtain ⟨eq, heq⟩ : ∃ eq, decide (q = x.key) = eq := ⟨_, rfl⟩
          have heq2 : (q.toList == x.key.toList) = eq := by rw [bytes_eqB]; exact heq
          have HE := Lib.hid heq
          clear kat hq heq
          cases dn
          · have HN2 : Hid ((ks.take (j + 1)).any (fun y => decide (y = x.key)) = eq) := Lib.hid (by rw [HS2.out, HD.out, HE.out]; simp)
            cases eq
            all_goals
              go_wp2_with fail
              go_quiet (fail)
              go_wp2_with fail
              exact ⟨⟨j + 1, _, by omega, by go_num, rfl, HN2, _, rfl⟩, by simp [intOf]; omega⟩
          · have HN2 : Hid ((ks.take (j + 1)).any (fun y => decide (y = x.key)) = true) := Lib.hid (by rw [HS2.out, HD.out]; simp)
            go_wp2_with fail
            go_quiet (fail)
            go_wp2_with fail
            exact ⟨⟨j + 1, true, by omega, by go_num, rfl, HN2, _, rfl⟩, by simp [intOf]; omega⟩
        · obtain rfl : j = ks.length := by omega
          have HDF : Hid (ks.any (fun y => decide (y = x.key)) = dn) := Lib.hid (by rw [← HD.out, List.take_length])
          have HO1 : Hid (kP.Own (wo.drewN n) w.heap.size (.slice a9 O.length c9) O) := Lib.hid (HI.out.own.below (below_drewN (Below.refl _ _) n))
          have HSZ : Hid (w.heap.size ≤ (wo.drewN n).heap.size) := Lib.hid HBD.out.size
          cases dn
          · go_upto_region 4 with (at_builtin; refine RowK.wpList_app (k := kP) rfl (.tmp 36) (.tmp 41) rfl rfl (HO1.out.alloc _) (some ⟨_, 0, none⟩) 1 [x] 1 rfl rfl (kP_new _ x) (fun e => by cases e) (by have := HOL.out; simp; omega) (by simp; have := HSZ.out; simp at this; omega) ?_; intro v8 w8 hA; have HA8 := Lib.hid hA; clear hA)
            have ho8 := HA8.out
            obtain ⟨a8, c8, rfl⟩ := ho8.1.shape
            have HN8 : Hid (RdI w ps ks (k + 1) (.slice a8 (O ++ [x]).length c8) (O ++ [x]) w8) := Lib.hid ⟨ho8.1, by rw [HST.out, HDF.out, HI.out.eq]; rfl, app_below (HO1.out.alloc _) ho8 (HBD.out.alloc HSZ.out _) (by simp; have := HSZ.out; simp at this; omega)⟩
            clear ho8 HA8
            go_wp2_with fail
            exact ⟨⟨k + 1, a8, c8, O ++ [x], by omega, by go_num, rfl, HN8⟩, by simp [intOf]; omega⟩
          · have HN8 : Hid (RdI w ps ks (k + 1) (.slice a9 O.length c9) O (wo.drewN n)) := Lib.hid ⟨HO1.out, by rw [HST.out, HDF.out, ← HI.out.eq]; simp, HBD.out⟩
            go_wp2_with fail
            exact ⟨⟨k + 1, a9, c9, O, by omega, by go_num, rfl, HN8⟩, by simp [intOf]; omega⟩
    · obtain rfl : k = ps.length := by omega
      have HE : Hid (O = dropP ps ks) := Lib.hid (by have := HI.out.eq; rw [List.take_length] at this; exact this)
      have HF : Hid (PsPost w (dropP ps ks) (.returned (.slice a9 O.length c9)) wo) := Lib.hid ⟨a9, c9, by rw [HE.out], by
        have ho := HI.out.own
        have e := HE.out
        subst e
        refine ⟨own_psA ho (fun p hp => HOK.out p (List.mem_filter.1 hp).1), fun b off e => ?_⟩
        rcases ho.2 with ⟨h1, _⟩ | ⟨g, cp, cur, h1, hB, _⟩
        · injection h1 with e1 _ _
          rw [e1] at e; cases e
        · injection h1 with e1 _ _
          rw [e1] at e
          injection e with e
          injection e with e
          omega, HI.out.bel⟩
      go_wp2_with fail
      go_ret
      exact HF.out
end Go.Proofs.YtonilojjahfboaaGreat
