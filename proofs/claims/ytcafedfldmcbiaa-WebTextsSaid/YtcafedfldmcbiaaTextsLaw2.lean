/- WebTexts: the walk where nothing is too great. Conditions: the theorem's own premises. -/
import Derived.Test.YtcafedfldmcbiaaTextsLaw
namespace Go.Proofs.Ytcafedfldmcbiaa
open Go.RowKit Go.Maps Go.Lib

def vxId (id : Int) (o : Option (ByteArray × List Pr)) : Int := match o with | some _ => id | none => 0
def vxL (o : Option (ByteArray × List Pr)) : ByteArray := match o with | some x => x.1 | none => ⟨#[]⟩
def vxP (o : Option (ByteArray × List Pr)) : List Pr := match o with | some x => x.2 | none => []
theorem VxPost.uni {good bad : Value} {w w' : World} {id : Int} {o : Option (ByteArray × List Pr)} {e : Ending} (h : VxPost good bad w id o e w') :
    ∃ pa pc, e = .returned (.tuple #[.agg #[.int .i64 (vxId id o), .string (vxL o), .slice pa (vxP o).length pc], if o.isSome = true then good else bad]) ∧ PsV w' pa (vxP o) ∧ (vxP o).length ≤ 16 ∧ Below w.heap.size w w' := by
  obtain ⟨hb, h⟩ := h
  rcases h with ⟨l, ps, v, rfl, rfl, hO, hok, h16⟩ | ⟨rfl, rfl⟩
  · obtain ⟨pa, pc, rfl, hpv⟩ := hO.psV hok
    exact ⟨pa, pc, rfl, hpv, h16, hb⟩
  · exact ⟨none, 0, rfl, fun e => absurd rfl e, Nat.zero_le _, hb⟩
def exN (n : Nat) (o : Option (ByteArray × List Pr)) : Int := match o with | some _ => (n : Int) | none => 0
theorem ExPost.uni {good bad : Value} {w w' : World} {id : Int} {s : ByteArray} {e : Ending} (h : ExPost good bad w id s e w') :
    ∃ pa pc, e = .returned (.tuple #[.agg #[.int .i64 (vxId id (edgeP id s)), .string (vxL (edgeP id s)), .int .i64 (exN (num5 s) (edgeP id s)), .int .i64 (exN (num5 (s.extract 5 s.size)) (edgeP id s)), .slice pa (vxP (edgeP id s)).length pc], if (edgeP id s).isSome = true then good else bad]) ∧ PsV w' pa (vxP (edgeP id s)) ∧ (vxP (edgeP id s)).length ≤ 16 ∧ Below w.heap.size w w' := by
  obtain ⟨hb, h⟩ := h
  rcases h with ⟨l, ps, v, ho, rfl, hO, hok, h16⟩ | ⟨ho, rfl⟩
  · obtain ⟨pa, pc, rfl, hpv⟩ := hO.psV hok
    rw [ho]
    exact ⟨pa, pc, rfl, hpv, h16, hb⟩
  · rw [ho]
    exact ⟨none, 0, rfl, fun e => absurd rfl e, Nat.zero_le _, hb⟩
theorem EnO.shape {w : World} {B : Nat} {v : Value} {l} (h : EnO w B v l) : ∃ a cap, v = .slice a l.length cap := by
  rcases h.2 with ⟨rfl, hl⟩ | ⟨g, cap, cur, rfl, _⟩
  · exact ⟨none, 0, by rw [hl]⟩
  · exact ⟨_, _, rfl⟩
theorem EnO.nil (w : World) (B : Nat) : EnO w B (.slice none 0 0) [] := ⟨rfl, .inl ⟨rfl, rfl⟩⟩
theorem ent_size {id : Nat} {label : ByteArray} {ps : List Pr} {e : ByteArray × ByteArray} (hr : rightPs ps = true) (he : e ∈ entL id label ps) : e.2.size ≤ 2000 := by
  unfold entL at he
  rcases List.mem_cons.1 he with rfl | he
  · show (fiveL id).length ≤ 2000
    rw [five_len]; omega
  · obtain ⟨p, hp, rfl⟩ := List.mem_map.1 he
    show (p.v.bytes ++ fiveL id).length ≤ 2000
    have := bytes_len (right_mem hr hp).1
    rw [List.length_append, five_len]; omega
/-- what both lists of entries are -/
def EnBoth (W0 : World) (i1 : Int) (s16 s17 : Value) (wc : World) : Prop :=
  ∃ (L : List (ByteArray × ByteArray)) (B : Nat), EnO wc B s16 L ∧ EnO wc B s17 L ∧ Below W0.heap.size W0 wc ∧ (∀ e ∈ L, 5 ≤ e.2.size ∧ ((lastFive e.2 : Nat) : Int) = i1 ∧ e.2.size ≤ maxLen) ∧ L.length ≤ 100
theorem heap_new3' (w : World) (X Y : Obj) : ((w.alloc X).alloc Y).heap[w.heap.size]? = some X ∧ ((w.alloc X).alloc Y).heap[w.heap.size + 1]? = some Y :=
  ⟨by rw [Below.heap_alloc _ _ _ (by simp)]; exact heap_new w X, heap_new2 w X Y⟩
set_option maxRecDepth 100000 in
set_option maxHeartbeats 40000000 in
theorem texts_in (i1 i2 f t : Int) (l1 l2 s : ByteArray) (a1 a2 : Option Addr) (c1 c2 : Nat) (x y : List Pr) (w : World) (hx : PrV w a1 x) (hy : PrV w a2 y) (s1 : l1.size ≤ 200) (s2 : l2.size ≤ 200) (s3 : s.size ≤ 2000)
    (g1 : I64 i1) (g2 : I64 i2) (g3 : I64 f) (g4 : I64 t) (hs1 : smallP x = true) (hs2 : smallP y = true) :
    Calls Try.prog 6 #[.agg #[.int .i64 i1, .string l1, .slice a1 x.length c1], .agg #[.int .i64 i2, .string l2, .int .i64 f, .int .i64 t, .slice a2 y.length c2], .string s] w fun e w' => e = .returned (.bool true) ∧ Below w.heap.size w w' := by
  have HE := Lib.hid (boxesT w #[.int .i64 i1, .string l1, .slice a1 x.length c1] #[.int .i64 i2, .string l2, .int .i64 f, .int .i64 t, .slice a2 y.length c2])
  have HX := Lib.hid hx
  have HY := Lib.hid hy
  have lx := (small_key hs1).1
  have ly := (small_key hs2).1
  have KX := Lib.hid (small_key hs1).2
  have KY := Lib.hid (small_key hs2).2
  have PX := Lib.hid (hx.small hs1)
  have PY := Lib.hid (hy.small hs2)
  have S1 := Lib.hid hs1
  have S2 := Lib.hid hs2
  have G1 := Lib.hid g1
  have G2 := Lib.hid g2
  have G3 := Lib.hid g3
  have G4 := Lib.hid g4
  obtain ⟨W0, hW0⟩ : ∃ W0, W0 = (w.alloc (.cells #[.int .i64 i1, .string l1, .slice a1 x.length c1] 24)).alloc (.cells #[.int .i64 i2, .string l2, .int .i64 f, .int .i64 t, .slice a2 y.length c2] 35) := ⟨_, rfl⟩
  rw [← hW0] at HE
  have HW0 := Lib.hid hW0
  clear hx hy hs1 hs2 g1 g2 g3 g4 hW0
  go_enter Try.func6, Try.ntmps6
  go_wp2_with fail
  rw [← HW0.out]
  refine (awake21_any _).mono ?_
  rintro e w1 ⟨rfl, hb1⟩
  obtain ⟨k0, k1, hlw, hB⟩ := HE.out w1 hb1
  have v0 := cell_of_blk k0 0
  have v1 := cell_of_blk k0 1
  have v2 := cell_of_blk k0 2
  have u1 := cell_of_blk k1 1
  have u4 := cell_of_blk k1 4
  simp at v0 v1 v2 u1 u4
  clear k0 k1
  go_wp2_with fail
  refine (props21_any a1 c1 x _ (HX.out.below hB) (by unfold maxLen; omega)).mono ?_
  rintro e w2 ⟨rfl, rfl⟩
  rw [S1.out]
  go_wp2_with fail
  refine (props21_any a2 c2 y _ (HY.out.below hB) (by unfold maxLen; omega)).mono ?_
  rintro e w3 ⟨rfl, rfl⟩
  rw [S2.out]
  go_wp2_with fail
  refine (vertexText_any i1 l1 a1 c1 x _ G1.out s1 (PX.out.below hB) (by omega) KX.out).mono ?_
  rintro e w2 ⟨rfl, hb2⟩
  replace hb2 := below_then hb1 hb2
  clear v0 v1 v2 u1 u4 hlw hB hb1
  obtain ⟨k0, k1, hlw, hB⟩ := HE.out w2 hb2
  have v0 := cell_of_blk k0 0
  have v1 := cell_of_blk k0 1
  have v2 := cell_of_blk k0 2
  simp at v0 v1 v2
  clear k0 k1
  obtain ⟨kA, hkA⟩ : ∃ k, checkR l1 x [i1] = k := ⟨_, rfl⟩
  obtain ⟨tA, htA⟩ : ∃ k, vtext l1 x [i1] [] = k := ⟨_, rfl⟩
  have HKA := Lib.hid hkA
  have HTA := Lib.hid htA
  rw [hkA, htA]
  clear hkA htA
  go_wp2_with fail
  refine (r16check_any l1 a1 _ c1 1 x [i1] _ (by omega) (PX.out.below (below_al hB _)) (ids_new (heap_new w2 _) (fun z hz => by rw [List.mem_singleton.1 hz]; exact G1.out)) (by omega) (by simp)).mono ?_
  rintro e w3 ⟨rfl, hb3⟩
  replace hb3 := below_then hb2 (below_then (below_box w2 _) hb3)
  rw [HKA.out]
  clear v0 v1 v2 hlw hB hb2
  go_upto_region 5 with fail
  have hkk : (kA != kA) = false := by simp
  have HA : Hid (kA ≠ 0 → tA = ⟨#[]⟩) := Lib.hid (fun h => by rw [← HTA.out]; unfold vtext; rw [if_neg (by rw [HKA.out]; exact h)])
  go_cut [82] from 72 to 82 (fun s82 wc => s82 = .bool false ∧ wc = w3)
  case first =>
    by_cases hk : kA = 0
    · subst hk
      go_wp2_with fail
      go_meet
      exact ⟨rfl, rfl⟩
    · have hk' : (kA != 0) = true := by simpa using hk
      obtain rfl := HA.out hk
      clear hk
      go_wp2_with fail
      go_meet
      exact ⟨rfl, rfl⟩
  case rest =>
  obtain ⟨rfl, rfl⟩ := hcut
  obtain ⟨k0, k1, hlw, hB⟩ := HE.out wc hb3
  have v0 := cell_of_blk k1 0
  have v1 := cell_of_blk k1 1
  have v2 := cell_of_blk k1 2
  have v3 := cell_of_blk k1 3
  have v4 := cell_of_blk k1 4
  simp at v0 v1 v2 v3 v4
  clear k0 k1 hkk
  go_wp2_with fail
  refine (edgeText_any i2 f t l2 a2 c2 y _ G2.out G3.out G4.out s2 (PY.out.below hB) (by omega) KY.out).mono ?_
  rintro e w4 ⟨rfl, hb4⟩
  replace hb4 := below_then hb3 hb4
  clear v0 v1 v2 v3 v4 hlw hB hb3
  obtain ⟨k0, k1, hlw, hB⟩ := HE.out w4 hb4
  have v0 := cell_of_blk k1 0
  have v1 := cell_of_blk k1 1
  have v2 := cell_of_blk k1 2
  have v3 := cell_of_blk k1 3
  have v4 := cell_of_blk k1 4
  simp at v0 v1 v2 v3 v4
  clear k0 k1
  obtain ⟨kB, hkB⟩ : ∃ k, checkR l2 y [i2, f, t] = k := ⟨_, rfl⟩
  obtain ⟨tB, htB⟩ : ∃ k, vtext l2 y [i2, f, t] (fiveL f.toNat ++ fiveL t.toNat) = k := ⟨_, rfl⟩
  have HKB := Lib.hid hkB
  have HTB := Lib.hid htB
  rw [hkB, htB]
  clear hkB htB
  go_wp2_with fail
  refine (r16check_any l2 a2 _ c2 3 y [i2, f, t] _ (by omega) (PY.out.below (below_al hB _)) (ids_new (heap_new w4 _) (fun z hz => by
    simp at hz
    rcases hz with rfl | rfl | rfl
    · exact G2.out
    · exact G3.out
    · exact G4.out)) (by omega) (by simp)).mono ?_
  rintro e w5 ⟨rfl, hb5⟩
  replace hb5 := below_then hb4 (below_then (below_box w4 _) hb5)
  rw [HKB.out]
  clear v0 v1 v2 v3 v4 hlw hB hb4
  go_upto_region 9 with fail
  have hkk : (kB != kB) = false := by simp
  have HBB : Hid (kB ≠ 0 → tB = ⟨#[]⟩) := Lib.hid (fun h => by rw [← HTB.out]; unfold vtext; rw [if_neg (by rw [HKB.out]; exact h)])
  go_cut [110] from 100 to 110 (fun s110 wc => s110 = .bool false ∧ wc = w5)
  case first =>
    by_cases hk : kB = 0
    · subst hk
      go_wp2_with fail
      go_meet
      exact ⟨rfl, rfl⟩
    · have hk' : (kB != 0) = true := by simpa using hk
      obtain rfl := HBB.out hk
      clear hk
      go_wp2_with fail
      go_meet
      exact ⟨rfl, rfl⟩
  case rest =>
  obtain ⟨rfl, rfl⟩ := hcut
  clear hkk
  go_upto_if 112 with fail
  have HVA : Hid (kA = 0 → tA = ⟨(textL l1 x).toArray⟩) := Lib.hid (fun h => by rw [← HTA.out]; unfold vtext; rw [if_pos (by rw [HKA.out]; exact h)]; rfl)
  have HFX : Hid (∀ p ∈ x, p.key.size ≤ 200 ∧ p.v.Ok) := Lib.hid (fun p hp => ⟨KX.out p hp, by
    obtain ⟨b, off, _, hat⟩ := HX.out (fun e => by rw [e] at hp; cases hp)
    exact (hat.raw p hp).2⟩)
  have HFY : Hid (∀ p ∈ y, p.key.size ≤ 200 ∧ p.v.Ok) := Lib.hid (fun p hp => ⟨KY.out p hp, by
    obtain ⟨b, off, _, hat⟩ := HY.out (fun e => by rw [e] at hp; cases hp)
    exact (hat.raw p hp).2⟩)
  go_cut [6, 12, 13] from 111 to 138 (fun s6 s12 s13 wc => Below W0.heap.size W0 wc)
  case first =>
    by_cases hk : kA = 0
    · have hta := HVA.out hk
      have hne : tA.toList.isEmpty = false := by rw [hta, ByteArray.toList_eq]; rfl
      have HVT := Lib.hid (vertexP_text (id := i1) s1 (by rw [HKA.out]; exact hk) HFX.out)
      have HRX := Lib.hid (checkR_ok (show checkR l1 x [i1] = 0 by rw [HKA.out]; exact hk)).2.2
      have htl := textL_len s1 HRX.out KX.out
      have hts : tA.size ≤ 1000000 := by rw [hta]; show (textL l1 x).length ≤ _; omega
      have HTE := Lib.hid hta
      rw [← hta] at HVT
      clear hta htl hk
      obtain ⟨k0, k1, hlw, hB⟩ := HE.out _ hb5
      have v0 := cell_of_blk k0 0
      simp at v0
      clear k0 k1
      rw [hne, Bool.not_false]
      go_wp2_with fail
      refine (parseVertex_any i1 tA _ G1.out hts).mono ?_
      rintro e w6 ⟨hb6, hor⟩
      rw [HVT.out] at hor
      rcases hor with ⟨l', ps', v, ho, rfl, hO, hok, h16⟩ | ⟨ho, _⟩
      · simp at ho
        obtain ⟨rfl, rfl⟩ := ho
        obtain ⟨pa, pc, rfl, hpv⟩ := hO.psV hok
        replace hb6 := below_then hb5 hb6
        clear v0 hlw hB hO hok
        obtain ⟨k0, k1, hlw, hB⟩ := HE.out w6 hb6
        have v0 := cell_of_blk k0 0
        have v1 := cell_of_blk k0 1
        have v2 := cell_of_blk k0 2
        simp at v0 v1 v2
        have hl0 : w.heap.size < w6.heap.size := by omega
        have HPV := Lib.hid hpv
        clear k0 k1 hpv
        go_wp2_with fail
        refine (r21body_any l1 a1 c1 x _ s1 (PX.out.below (below_al hB _)) HRX.out KX.out).mono ?_
        rintro e w7 ⟨rfl, hb7⟩
        rw [← HTE.out]
        have hc6 := heap_new w6 (.cells #[.int .i64 i1, .string l1, .slice pa x.length pc] 24)
        have hc7 := (hb7.block _ (by simp)).trans hc6
        have hb67 := below_then (below_box w6 _) hb7
        have HPV7 := Lib.hid (HPV.out.below hb67)
        have y0 := cell_of_blk hc7 0
        have y1 := cell_of_blk hc7 1
        have y2 := cell_of_blk hc7 2
        simp at y0 y1 y2
        have hl7 := (Array.getElem?_eq_some_iff.1 hc7).1
        replace hb7 := below_then hb6 hb67
        clear v0 v1 v2 hlw hB hc6 hc7
        obtain ⟨k0, k1, hlw, hB⟩ := HE.out w7 hb7
        have v0 := cell_of_blk k0 0
        have v1 := cell_of_blk k0 1
        have v2 := cell_of_blk k0 2
        simp at v0 v1 v2
        have hl8 : w.heap.size < w7.heap.size := by omega
        clear k0 k1 hl0
        have htt : ∀ b : Bool, (b != b) = false := by intro b; simp
        go_wp2_with fail
        obtain ⟨nA, nB⟩ := heap_new3' w7 (.cells #[.int .i64 i1, .string l1, .slice pa x.length pc] 24) (.cells #[.int .i64 i1, .string l1, .slice a1 x.length c1] 24)
        refine (sameV1 _ _ i1 l1 l1 pa a1 pc c1 x x _ nA nB (HPV7.out.below (below_al (below_box w7 _) _)) (PX.out.below (below_al (below_al hB _) _)) (by omega) true (by rw [sameP_yes rfl]; simp)).mono ?_
        rintro e w8 ⟨rfl, n8, rfl⟩
        go_wp2_with fail
        go_meet
        exact below_drewN' (below_al (below_al hb7 _) _) _
      · cases ho
    · have hne : tA.toList.isEmpty = true := by rw [HA.out hk, ByteArray.toList_eq]; rfl
      clear hk
      rw [hne, Bool.not_true]
      go_wp2_with fail
      go_meet
      exact hb5
  case rest =>
  replace hb5 := hcut
  clear hcut
  go_upto_if 140 with fail
  have HVB : Hid (kB = 0 → tB = ⟨(fiveL f.toNat ++ fiveL t.toNat ++ textL l2 y).toArray⟩) := Lib.hid (fun h => by rw [← HTB.out]; unfold vtext; rw [if_pos (by rw [HKB.out]; exact h)])
  go_cut [6, 14, 15] from 139 to 174 (fun s6 s14 s15 wc => Below W0.heap.size W0 wc)
  case first =>
    by_cases hk : kB = 0
    · have hck := checkR_ok (show checkR l2 y [i2, f, t] = 0 by rw [HKB.out]; exact hk)
      obtain ⟨f', rfl, hf'⟩ : ∃ m : Nat, f = m ∧ m < 1099511627776 := idB_ok (by have := hck.1; simp at this; exact this.2.1)
      obtain ⟨t', rfl, ht'⟩ : ∃ m : Nat, t = m ∧ m < 1099511627776 := idB_ok (by have := hck.1; simp at this; exact this.2.2)
      have hta : tB = ⟨(fiveL f' ++ fiveL t' ++ textL l2 y).toArray⟩ := HVB.out hk
      have hne : tB.toList.isEmpty = false := by rw [hta, ByteArray.toList_eq]; rfl
      have HVT := Lib.hid (edgeP_text (id := i2) (f := f') (t := t') s2 (by rw [HKB.out]; exact hk) HFY.out)
      have HNF := Lib.hid (edge_from hf' t' (textL l2 y))
      have HNT := Lib.hid (edge_to ht' f' (textL l2 y))
      have HRY := Lib.hid hck.2.2
      have HF' := Lib.hid hf'
      have HT' := Lib.hid ht'
      have htl := textL_len s2 HRY.out KY.out
      have hts : tB.size ≤ 1000000 := by rw [hta]; show (fiveL f' ++ fiveL t' ++ textL l2 y).length ≤ _; simp [five_len]; omega
      have h1 : ∀ w, (Op.stringOp .add ⟨(fiveL f').toArray⟩ ⟨(fiveL t').toArray⟩).run Try.prog w = .ok (.string ⟨(fiveL f' ++ fiveL t').toArray⟩) w := fun w => run_string_add_lists w (fiveL f') (fiveL t') (by simp [five_len]) (by simp [five_len])
      have h2 : ∀ w, (Op.stringOp .add ⟨(fiveL f' ++ fiveL t').toArray⟩ ⟨(textL l2 y).toArray⟩).run Try.prog w = .ok (.string tB) w := fun w => by rw [hta]; exact run_string_add_lists w (fiveL f' ++ fiveL t') (textL l2 y) (by simp [five_len]) (by omega)
      rw [← hta] at HVT HNF HNT
      clear hta htl hk hck hf' ht'
      obtain ⟨k0, k1, hlw, hB⟩ := HE.out _ hb5
      have v0 := cell_of_blk k1 0
      simp at v0
      clear k0 k1
      rw [hne, Bool.not_false]
      go_wp2_with fail
      refine (parseEdge_any i2 tB _ G2.out hts).mono ?_
      rintro e w6 ⟨hb6, hor⟩
      rw [HVT.out, HNF.out, HNT.out] at hor
      rcases hor with ⟨l', ps', v, ho, rfl, hO, hok, h16⟩ | ⟨ho, _⟩
      · simp at ho
        obtain ⟨rfl, rfl⟩ := ho
        obtain ⟨pa, pc, rfl, hpv⟩ := hO.psV hok
        replace hb6 := below_then hb5 hb6
        clear v0 hlw hB hO hok
        obtain ⟨W7, hW7⟩ : ∃ W7, W7 = w6.alloc (.cells #[.int .i64 i2, .string l2, .int .i64 (f' : Int), .int .i64 (t' : Int), .slice pa y.length pc] 35) := ⟨_, rfl⟩
        have hb67 : Below w6.heap.size w6 W7 := by rw [hW7]; exact below_box w6 _
        have e7 : W7.heap[w6.heap.size]? = some (.cells #[.int .i64 i2, .string l2, .int .i64 (f' : Int), .int .i64 (t' : Int), .slice pa y.length pc] 35) := by rw [hW7]; exact heap_new w6 _
        have hb7 := below_then hb6 hb67
        have HPV := Lib.hid (hpv.below hb67)
        have HW7 := Lib.hid hW7
        obtain ⟨_, k1, hlw, hB⟩ := HE.out W7 hb7
        have hl7 := (Array.getElem?_eq_some_iff.1 e7).1
        have ks : ∀ w', Below W7.heap.size W7 w' → (fun w' => Below W7.heap.size W7 w' ∧ w'.cell? ⟨w.heap.size + 1, 0, none⟩ = some (.int .i64 i2) ∧ w'.cell? ⟨w.heap.size + 1, 1, none⟩ = some (.string l2) ∧ w'.cell? ⟨w.heap.size + 1, 2, none⟩ = some (.int .i64 (f' : Int)) ∧ w'.cell? ⟨w.heap.size + 1, 3, none⟩ = some (.int .i64 (t' : Int)) ∧ w'.cell? ⟨w.heap.size + 1, 4, none⟩ = some (.slice a2 y.length c2) ∧ w'.cell? ⟨w6.heap.size, 0, none⟩ = some (.int .i64 i2) ∧ w'.cell? ⟨w6.heap.size, 1, none⟩ = some (.string l2) ∧ w'.cell? ⟨w6.heap.size, 2, none⟩ = some (.int .i64 (f' : Int)) ∧ w'.cell? ⟨w6.heap.size, 3, none⟩ = some (.int .i64 (t' : Int)) ∧ w'.cell? ⟨w6.heap.size, 4, none⟩ = some (.slice pa y.length pc)) w' := fun w' hb => by
          have e := (hb.block _ (Array.getElem?_eq_some_iff.1 k1).1).trans k1
          have g := (hb.block _ hl7).trans e7
          exact ⟨hb, by rw [cell_of_blk e]; rfl, by rw [cell_of_blk e]; rfl, by rw [cell_of_blk e]; rfl, by rw [cell_of_blk e]; rfl, by rw [cell_of_blk e]; rfl, by rw [cell_of_blk g]; rfl, by rw [cell_of_blk g]; rfl, by rw [cell_of_blk g]; rfl, by rw [cell_of_blk g]; rfl, by rw [cell_of_blk g]; rfl⟩
        have KS := Lib.hid ks
        have HB7 := Lib.hid hB
        have HB70 := Lib.hid hb7
        clear ks k1 hB hpv hW7 hb67 e7 hb7
        go_upto_region 17 with fail
        rw [← HW7.out]
        go_cut [174] from 148 to 174 (fun s wc => s = .bool false ∧ Below W0.heap.size W0 wc)
        case first =>
          refine wp_region_held_drew (S := (fun w' => Below W7.heap.size W7 w' ∧ w'.cell? ⟨w.heap.size + 1, 0, none⟩ = some (.int .i64 i2) ∧ w'.cell? ⟨w.heap.size + 1, 1, none⟩ = some (.string l2) ∧ w'.cell? ⟨w.heap.size + 1, 2, none⟩ = some (.int .i64 (f' : Int)) ∧ w'.cell? ⟨w.heap.size + 1, 3, none⟩ = some (.int .i64 (t' : Int)) ∧ w'.cell? ⟨w.heap.size + 1, 4, none⟩ = some (.slice a2 y.length c2) ∧ w'.cell? ⟨w6.heap.size, 0, none⟩ = some (.int .i64 i2) ∧ w'.cell? ⟨w6.heap.size, 1, none⟩ = some (.string l2) ∧ w'.cell? ⟨w6.heap.size, 2, none⟩ = some (.int .i64 (f' : Int)) ∧ w'.cell? ⟨w6.heap.size, 3, none⟩ = some (.int .i64 (t' : Int)) ∧ w'.cell? ⟨w6.heap.size, 4, none⟩ = some (.slice pa y.length pc))) (by kernel_rfl) (KS.out _ (Below.refl _ _).drew) (fun hHeld => ?_)
          refine wpAnyH_take (i := 0) (oi := ⟨some 148, _, _, _, _, _⟩) (v := ?vvg1) rfl (by kernel_rfl) (by kernel_rfl) (by kernel_rfl) (fun _ _ _ h => h) (Or.inl ⟨by rfl, ?yyg1⟩) hHeld ?rrg1
          case yyg1 => (intro wq hSw; (try dsimp only at hSw); go_simp; first | done | with_reducible rfl)
          simp only [Act.put, List.setIfInBounds_toArray, List.set_cons_zero, List.set_cons_succ]
          refine wpAnyH_take (i := 1) (oi := ⟨some 149, _, _, _, _, _⟩) (v := ?vvg2) rfl (by kernel_rfl) (by kernel_rfl) (by kernel_rfl) (fun _ _ _ h => h) (Or.inl ⟨by rfl, ?yyg2⟩) hHeld ?rrg2
          case yyg2 => (intro wq hSw; (try dsimp only at hSw); go_simp; first | done | with_reducible rfl)
          simp only [Act.put, List.setIfInBounds_toArray, List.set_cons_zero, List.set_cons_succ]
          refine wpAnyH_take (i := 2) (oi := ⟨some 150, _, _, _, _, _⟩) (v := ?vvg3) rfl (by kernel_rfl) (by kernel_rfl) (by kernel_rfl) (fun _ _ _ h => h) (Or.inl ⟨by rfl, ?yyg3⟩) hHeld ?rrg3
          case yyg3 => (intro wq hSw; (try dsimp only at hSw); go_simp; first | done | with_reducible rfl)
          simp only [Act.put, List.setIfInBounds_toArray, List.set_cons_zero, List.set_cons_succ]
          refine wpAnyH_take (i := 4) (oi := ⟨some 152, _, _, _, _, _⟩) (v := ?vvg4) rfl (by kernel_rfl) (by kernel_rfl) (by kernel_rfl) (fun _ _ _ h => h) (Or.inl ⟨by rfl, ?yyg4⟩) hHeld ?rrg4
          case yyg4 => (intro wq hSw; (try dsimp only at hSw); go_simp; first | done | with_reducible rfl)
          simp only [Act.put, List.setIfInBounds_toArray, List.set_cons_zero, List.set_cons_succ]
          refine wpAnyH_take (i := 5) (oi := ⟨some 153, _, _, _, _, _⟩) (v := ?vvg5) rfl (by kernel_rfl) (by kernel_rfl) (by kernel_rfl) (fun _ _ _ h => h) (Or.inl ⟨by rfl, ?yyg5⟩) hHeld ?rrg5
          case yyg5 => (intro wq hSw; (try dsimp only at hSw); go_simp; first | done | with_reducible rfl)
          simp only [Act.put, List.setIfInBounds_toArray, List.set_cons_zero, List.set_cons_succ]
          refine wpAnyH_take (i := 8) (oi := ⟨some 156, _, _, _, _, _⟩) (v := ?vvg6) rfl (by kernel_rfl) (by kernel_rfl) (by kernel_rfl) (fun _ _ _ h => h) (Or.inl ⟨by rfl, ?yyg6⟩) hHeld ?rrg6
          case yyg6 => (intro wq hSw; (try dsimp only at hSw); go_simp; first | done | with_reducible rfl)
          simp only [Act.put, List.setIfInBounds_toArray, List.set_cons_zero, List.set_cons_succ]
          refine wpAnyH_take (i := 9) (oi := ⟨some 157, _, _, _, _, _⟩) (v := ?vvg7) rfl (by kernel_rfl) (by kernel_rfl) (by kernel_rfl) (fun _ _ _ h => h) (Or.inl ⟨by rfl, ?yyg7⟩) hHeld ?rrg7
          case yyg7 => (intro wq hSw; (try dsimp only at hSw); go_simp; first | done | with_reducible rfl)
          simp only [Act.put, List.setIfInBounds_toArray, List.set_cons_zero, List.set_cons_succ]
          refine wpAnyH_take (i := 10) (oi := ⟨some 158, _, _, _, _, _⟩) (v := ?vvg8) rfl (by kernel_rfl) (by kernel_rfl) (by kernel_rfl) (fun _ _ _ h => h) (Or.inl ⟨by rfl, ?yyg8⟩) hHeld ?rrg8
          case yyg8 => (intro wq hSw; (try dsimp only at hSw); go_simp; first | done | with_reducible rfl)
          simp only [Act.put, List.setIfInBounds_toArray, List.set_cons_zero, List.set_cons_succ]
          refine wpAnyH_take (i := 11) (oi := ⟨some 159, _, _, _, _, _⟩) (v := ?vvg9) rfl (by kernel_rfl) (by kernel_rfl) (by kernel_rfl) (fun _ _ _ h => h) (Or.inl ⟨by rfl, ?yyg9⟩) hHeld ?rrg9
          case yyg9 => (intro wq hSw; (try dsimp only at hSw); go_simp; first | done | with_reducible rfl)
          simp only [Act.put, List.setIfInBounds_toArray, List.set_cons_zero, List.set_cons_succ]
          refine wpAnyH_ready (rs := [3]) (by kernel_rfl) (by simp) ?_
          refine AllReadyH.cons (o := ⟨some 151, _, _, _, _, _⟩) rfl (fun K hK => ?_) AllReadyH.nil
          go_simp
          refine (r21five_any f' _ HF'.out).mono ?_
          rintro e wa ⟨rfl, hba⟩
          have hBa := below_then hHeld.1 hba
          go_wp2_with fail
          refine hK.out _ _ ?ssg10 (fun hHeld => ?_)
          case ssg10 => (exact KS.out _ hBa)
          clear hK K
          try simp only [Act.put, List.setIfInBounds_toArray, List.set_cons_zero, List.set_cons_succ]
          refine wpAnyH_ready (rs := [6]) (by kernel_rfl) (by simp) ?_
          refine AllReadyH.cons (o := ⟨some 154, _, _, _, _, _⟩) rfl (fun K hK => ?_) AllReadyH.nil
          go_simp
          refine (r21five_any t' _ HT'.out).mono ?_
          rintro e wb ⟨rfl, hbb⟩
          have hBb := below_then hBa hbb
          go_wp2_with fail
          refine hK.out _ _ ?ssg11 (fun hHeld => ?_)
          case ssg11 => (exact KS.out _ hBb)
          clear hK K
          try simp only [Act.put, List.setIfInBounds_toArray, List.set_cons_zero, List.set_cons_succ]
          refine wpAnyH_take (i := 7) (oi := ⟨some 155, _, _, _, _, _⟩) (v := ?vvg12) rfl (by kernel_rfl) (by kernel_rfl) (by kernel_rfl) (fun _ _ _ h => h) (Or.inl ⟨by rfl, ?yyg12⟩) hHeld ?rrg12
          case yyg12 => (intro wq hSw; (try dsimp only at hSw); go_simp; first | done | with_reducible rfl)
          simp only [Act.put, List.setIfInBounds_toArray, List.set_cons_zero, List.set_cons_succ]
          refine wpAnyH_ready (rs := [12]) (by kernel_rfl) (by simp) ?_
          refine AllReadyH.cons (o := ⟨some 160, _, _, _, _, _⟩) rfl (fun K hK => ?_) AllReadyH.nil
          go_simp
          refine (r21body_any l2 a2 c2 y _ s2 (PY.out.below (below_then HB7.out hBb)) HRY.out KY.out).mono ?_
          rintro e wd ⟨rfl, hbd⟩
          have hBd := below_then hBb hbd
          go_wp2_with fail
          refine hK.out _ _ ?ssg13 (fun hHeld => ?_)
          case ssg13 => (exact KS.out _ hBd)
          clear hK K
          try simp only [Act.put, List.setIfInBounds_toArray, List.set_cons_zero, List.set_cons_succ]
          refine wpAnyH_take (i := 13) (oi := ⟨some 161, _, _, _, _, _⟩) (v := ?vvg14) rfl (by kernel_rfl) (by kernel_rfl) (by kernel_rfl) (fun _ _ _ h => h) (Or.inl ⟨by rfl, ?yyg14⟩) hHeld ?rrg14
          case yyg14 => (intro wq hSw; (try dsimp only at hSw); go_simp; first | done | with_reducible rfl)
          simp only [Act.put, List.setIfInBounds_toArray, List.set_cons_zero, List.set_cons_succ]
          refine wpAnyH_take (i := 14) (oi := ⟨some 162, _, _, _, _, _⟩) (v := ?vvg15) rfl (by kernel_rfl) (by kernel_rfl) (by kernel_rfl) (fun _ _ _ h => h) (Or.inl ⟨by rfl, ?yyg15⟩) hHeld ?rrg15
          case yyg15 => (intro wq hSw; (try dsimp only at hSw); go_simp; first | done | with_reducible rfl)
          simp only [Act.put, List.setIfInBounds_toArray, List.set_cons_zero, List.set_cons_succ]
          refine wpAnyH_take (i := 15) (oi := ⟨some 163, _, _, _, _, _⟩) (v := ?vvg16) rfl (by kernel_rfl) (by kernel_rfl) (by kernel_rfl) (fun _ _ _ h => h) (Or.inl ⟨by rfl, ?yyg16⟩) hHeld ?rrg16
          case yyg16 => (intro wq hSw; (try dsimp only at hSw); go_simp; first | done | with_reducible rfl)
          simp only [Act.put, List.setIfInBounds_toArray, List.set_cons_zero, List.set_cons_succ]
          refine wpAnyH_take (i := 16) (oi := ⟨some 164, _, _, _, _, _⟩) (v := ?vvg17) rfl (by kernel_rfl) (by kernel_rfl) (by kernel_rfl) (fun _ _ _ h => h) (Or.inl ⟨by rfl, ?yyg17⟩) hHeld ?rrg17
          case yyg17 => (intro wq hSw; (try dsimp only at hSw); go_simp; first | done | with_reducible rfl)
          simp only [Act.put, List.setIfInBounds_toArray, List.set_cons_zero, List.set_cons_succ]
          refine wpAnyH_take (i := 17) (oi := ⟨some 165, _, _, _, _, _⟩) (v := ?vvg18) rfl (by kernel_rfl) (by kernel_rfl) (by kernel_rfl) (fun _ _ _ h => h) (Or.inl ⟨by rfl, ?yyg18⟩) hHeld ?rrg18
          case yyg18 => (intro wq hSw; (try dsimp only at hSw); go_simp; first | done | with_reducible rfl)
          simp only [Act.put, List.setIfInBounds_toArray, List.set_cons_zero, List.set_cons_succ]
          refine wpAnyH_take (i := 18) (oi := ⟨some 166, _, _, _, _, _⟩) (v := ?vvg19) rfl (by kernel_rfl) (by kernel_rfl) (by kernel_rfl) (fun _ _ _ h => h) (Or.inl ⟨by rfl, ?yyg19⟩) hHeld ?rrg19
          case yyg19 => (intro wq hSw; (try dsimp only at hSw); go_simp; first | done | with_reducible rfl)
          simp only [Act.put, List.setIfInBounds_toArray, List.set_cons_zero, List.set_cons_succ]
          refine wpAnyH_take (i := 19) (oi := ⟨some 167, _, _, _, _, _⟩) (v := ?vvg20) rfl (by kernel_rfl) (by kernel_rfl) (by kernel_rfl) (fun _ _ _ h => h) (Or.inl ⟨by rfl, ?yyg20⟩) hHeld ?rrg20
          case yyg20 => (intro wq hSw; (try dsimp only at hSw); go_simp; first | done | with_reducible rfl)
          simp only [Act.put, List.setIfInBounds_toArray, List.set_cons_zero, List.set_cons_succ]
          refine wpAnyH_take (i := 20) (oi := ⟨some 168, _, _, _, _, _⟩) (v := ?vvg21) rfl (by kernel_rfl) (by kernel_rfl) (by kernel_rfl) (fun _ _ _ h => h) (Or.inl ⟨by rfl, ?yyg21⟩) hHeld ?rrg21
          case yyg21 => (intro wq hSw; (try dsimp only at hSw); go_simp; first | done | with_reducible rfl)
          simp only [Act.put, List.setIfInBounds_toArray, List.set_cons_zero, List.set_cons_succ]
          refine wpAnyH_take (i := 22) (oi := ⟨some 170, _, _, _, _, _⟩) (v := ?vvg22) rfl (by kernel_rfl) (by kernel_rfl) (by kernel_rfl) (fun _ _ _ h => h) (Or.inl ⟨by rfl, ?yyg22⟩) hHeld ?rrg22
          case yyg22 => (intro wq hSw; (try dsimp only at hSw); go_simp; first | done | with_reducible rfl)
          simp only [Act.put, List.setIfInBounds_toArray, List.set_cons_zero, List.set_cons_succ]
          refine wpAnyH_ready (rs := [21, 23]) (by kernel_rfl) (by simp) ?_
          refine AllReadyH.cons (o := ⟨some 169, _, _, _, _, _⟩) rfl (fun K hK => ?_) (AllReadyH.cons (o := ⟨some 171, _, _, _, _, _⟩) rfl (fun K hK => ?_) AllReadyH.nil)
          · go_simp
            have EA := heap_new wd (.cells #[.int .i64 i2, .string l2, .int .i64 (f' : Int), .int .i64 (t' : Int), .slice pa y.length pc] 35)
            try simp only [size_alloc] at EA
            refine hK.out _ _ ?ssg23 (fun hHeld => ?_)
            case ssg23 => (exact KS.out _ (below_al hHeld.1 _))
            clear hK K
            try simp only [Act.put, List.setIfInBounds_toArray, List.set_cons_zero, List.set_cons_succ]
            refine wpAnyH_ready (rs := [23]) (by kernel_rfl) (by simp) ?_
            refine AllReadyH.cons (o := ⟨some 171, _, _, _, _, _⟩) rfl (fun K hK => ?_) AllReadyH.nil
            go_simp
            replace EA := (Below.heap_alloc (wd.alloc (.cells #[.int .i64 i2, .string l2, .int .i64 (f' : Int), .int .i64 (t' : Int), .slice pa y.length pc] 35)) (.cells #[.int .i64 i2, .string l2, .int .i64 (f' : Int), .int .i64 (t' : Int), .slice a2 y.length c2] 35) _ (Array.getElem?_eq_some_iff.1 EA).1).trans EA
            have EB := heap_new (wd.alloc (.cells #[.int .i64 i2, .string l2, .int .i64 (f' : Int), .int .i64 (t' : Int), .slice pa y.length pc] 35)) (.cells #[.int .i64 i2, .string l2, .int .i64 (f' : Int), .int .i64 (t' : Int), .slice a2 y.length c2] 35)
            try simp only [size_alloc] at EB
            refine hK.out _ _ ?ssg24 (fun hHeld => ?_)
            case ssg24 => (exact KS.out _ (below_al hHeld.1 _))
            clear hK K
            try simp only [Act.put, List.setIfInBounds_toArray, List.set_cons_zero, List.set_cons_succ]
            refine wpAnyH_ready (rs := [24]) (by kernel_rfl) (by simp) ?_
            refine AllReadyH.cons (o := ⟨some 172, _, _, _, _, _⟩) rfl (fun K hK => ?_) AllReadyH.nil
            go_simp
            refine (sameE1 _ _ i2 f' t' l2 pa a2 pc c2 y _ EA EB (HPV.out.below hHeld.1) (PY.out.below (below_then HB7.out hHeld.1)) (by omega)).mono ?_
            rintro e we ⟨rfl, ne, rfl⟩
            have hBe := below_drewN' hHeld.1 ne
            go_wp2_with fail
            refine hK.out _ _ ?ssg25 (fun hHeld => ?_)
            case ssg25 => (exact KS.out _ hBe)
            clear hK K
            try simp only [Act.put, List.setIfInBounds_toArray, List.set_cons_zero, List.set_cons_succ]
            refine wpAnyH_take (i := 25) (oi := ⟨some 173, _, _, _, _, _⟩) (v := ?vvg26) rfl (by kernel_rfl) (by kernel_rfl) (by kernel_rfl) (fun _ _ _ h => h) (Or.inl ⟨by rfl, ?yyg26⟩) hHeld ?rrg26
            case yyg26 => (intro wq hSw; (try dsimp only at hSw); go_simp; first | done | with_reducible rfl)
            simp only [Act.put, List.setIfInBounds_toArray, List.set_cons_zero, List.set_cons_succ]
            refine wpAnyH_take (i := 26) (oi := ⟨some 174, _, _, _, _, _⟩) (v := ?vvg27) rfl (by kernel_rfl) (by kernel_rfl) (by kernel_rfl) (fun _ _ _ h => h) (Or.inl ⟨by rfl, ?yyg27⟩) hHeld ?rrg27
            case yyg27 => (intro wq hSw; (try dsimp only at hSw); go_simp; first | done | with_reducible rfl)
            simp only [Act.put, List.setIfInBounds_toArray, List.set_cons_zero, List.set_cons_succ]
            refine wpAnyH_done (by kernel_rfl) ?_ _
            clear hHeld EA EB
            first | go_meet | (go_wp2_with fail; go_meet)
            exact ⟨rfl, below_then HB70.out hBe⟩
          · go_simp
            have EB := heap_new wd (.cells #[.int .i64 i2, .string l2, .int .i64 (f' : Int), .int .i64 (t' : Int), .slice a2 y.length c2] 35)
            try simp only [size_alloc] at EB
            refine hK.out _ _ ?ssg28 (fun hHeld => ?_)
            case ssg28 => (exact KS.out _ (below_al hHeld.1 _))
            clear hK K
            try simp only [Act.put, List.setIfInBounds_toArray, List.set_cons_zero, List.set_cons_succ]
            refine wpAnyH_ready (rs := [21]) (by kernel_rfl) (by simp) ?_
            refine AllReadyH.cons (o := ⟨some 169, _, _, _, _, _⟩) rfl (fun K hK => ?_) AllReadyH.nil
            go_simp
            replace EB := (Below.heap_alloc (wd.alloc (.cells #[.int .i64 i2, .string l2, .int .i64 (f' : Int), .int .i64 (t' : Int), .slice a2 y.length c2] 35)) (.cells #[.int .i64 i2, .string l2, .int .i64 (f' : Int), .int .i64 (t' : Int), .slice pa y.length pc] 35) _ (Array.getElem?_eq_some_iff.1 EB).1).trans EB
            have EA := heap_new (wd.alloc (.cells #[.int .i64 i2, .string l2, .int .i64 (f' : Int), .int .i64 (t' : Int), .slice a2 y.length c2] 35)) (.cells #[.int .i64 i2, .string l2, .int .i64 (f' : Int), .int .i64 (t' : Int), .slice pa y.length pc] 35)
            try simp only [size_alloc] at EA
            refine hK.out _ _ ?ssg29 (fun hHeld => ?_)
            case ssg29 => (exact KS.out _ (below_al hHeld.1 _))
            clear hK K
            try simp only [Act.put, List.setIfInBounds_toArray, List.set_cons_zero, List.set_cons_succ]
            refine wpAnyH_ready (rs := [24]) (by kernel_rfl) (by simp) ?_
            refine AllReadyH.cons (o := ⟨some 172, _, _, _, _, _⟩) rfl (fun K hK => ?_) AllReadyH.nil
            go_simp
            refine (sameE1 _ _ i2 f' t' l2 pa a2 pc c2 y _ EA EB (HPV.out.below hHeld.1) (PY.out.below (below_then HB7.out hHeld.1)) (by omega)).mono ?_
            rintro e we ⟨rfl, ne, rfl⟩
            have hBe := below_drewN' hHeld.1 ne
            go_wp2_with fail
            refine hK.out _ _ ?ssg30 (fun hHeld => ?_)
            case ssg30 => (exact KS.out _ hBe)
            clear hK K
            try simp only [Act.put, List.setIfInBounds_toArray, List.set_cons_zero, List.set_cons_succ]
            refine wpAnyH_take (i := 25) (oi := ⟨some 173, _, _, _, _, _⟩) (v := ?vvg31) rfl (by kernel_rfl) (by kernel_rfl) (by kernel_rfl) (fun _ _ _ h => h) (Or.inl ⟨by rfl, ?yyg31⟩) hHeld ?rrg31
            case yyg31 => (intro wq hSw; (try dsimp only at hSw); go_simp; first | done | with_reducible rfl)
            simp only [Act.put, List.setIfInBounds_toArray, List.set_cons_zero, List.set_cons_succ]
            refine wpAnyH_take (i := 26) (oi := ⟨some 174, _, _, _, _, _⟩) (v := ?vvg32) rfl (by kernel_rfl) (by kernel_rfl) (by kernel_rfl) (fun _ _ _ h => h) (Or.inl ⟨by rfl, ?yyg32⟩) hHeld ?rrg32
            case yyg32 => (intro wq hSw; (try dsimp only at hSw); go_simp; first | done | with_reducible rfl)
            simp only [Act.put, List.setIfInBounds_toArray, List.set_cons_zero, List.set_cons_succ]
            refine wpAnyH_done (by kernel_rfl) ?_ _
            clear hHeld EA EB
            first | go_meet | (go_wp2_with fail; go_meet)
            exact ⟨rfl, below_then HB70.out hBe⟩
        case rest =>
        obtain ⟨rfl, hfin⟩ := hcut
        go_wp2_with fail
        go_meet
        exact hfin
      · cases ho
    · have hne : tB.toList.isEmpty = true := by rw [HBB.out hk, ByteArray.toList_eq]; rfl
      clear hk
      rw [hne, Bool.not_true]
      go_wp2_with fail
      go_meet
      exact hb5
  case rest =>
  replace hb5 := hcut
  clear HVB HVA HBB HA hcut
  go_upto_region 19 with fail
  go_cut [16, 17] from 175 to 178 (fun s16 s17 wc => EnBoth W0 i1 s16 s17 wc)
  case first =>
    obtain ⟨k0, k1, hlw, hB⟩ := HE.out _ hb5
    obtain ⟨W7, hW7⟩ : ∃ W7, W7 = wc := ⟨_, rfl⟩
    subst hW7
    have ks : ∀ w', Below W7.heap.size W7 w' → (fun w' => Below W7.heap.size W7 w' ∧ w'.cell? ⟨w.heap.size, 0, none⟩ = some (.int .i64 i1) ∧ w'.cell? ⟨w.heap.size, 1, none⟩ = some (.string l1) ∧ w'.cell? ⟨w.heap.size, 2, none⟩ = some (.slice a1 x.length c1)) w' := fun w' hb => by
      have e := (hb.block _ (Array.getElem?_eq_some_iff.1 k0).1).trans k0
      exact ⟨hb, by rw [cell_of_blk e]; rfl, by rw [cell_of_blk e]; rfl, by rw [cell_of_blk e]; rfl⟩
    have KS := Lib.hid ks
    have HB7 := Lib.hid hB
    clear ks k0 k1 hB
    by_cases hk : kA = 0
    · have hc0 : checkR l1 x [i1] = 0 := by rw [HKA.out]; exact hk
      have hck := checkR_ok hc0
      obtain ⟨n1, rfl, hn1⟩ : ∃ m : Nat, i1 = m ∧ m < 1099511627776 := idB_ok (by have := hck.1; simpa using this)
      have HC0 := Lib.hid hc0
      have HN1 := Lib.hid hn1
      have HRX := Lib.hid hck.2.2
      clear hc0 hck hn1 hk
      refine wp_region_held_drew (S := (fun w' => Below W7.heap.size W7 w' ∧ w'.cell? ⟨w.heap.size, 0, none⟩ = some (.int .i64 (n1 : Int)) ∧ w'.cell? ⟨w.heap.size, 1, none⟩ = some (.string l1) ∧ w'.cell? ⟨w.heap.size, 2, none⟩ = some (.slice a1 x.length c1))) (by kernel_rfl) (KS.out _ (Below.refl _ _).drew) (fun hHeld => ?_)
      refine wpAnyH_take (i := 0) (oi := ⟨some 175, _, _, _, _, _⟩) (v := ?vvh1) rfl (by kernel_rfl) (by kernel_rfl) (by kernel_rfl) (fun _ _ _ h => h) (Or.inl ⟨by rfl, ?yyh1⟩) hHeld ?rrh1
      case yyh1 => (intro wq hSw; (try dsimp only at hSw); go_simp; first | done | with_reducible rfl)
      simp only [Act.put, List.setIfInBounds_toArray, List.set_cons_zero, List.set_cons_succ]
      refine wpAnyH_take (i := 2) (oi := ⟨some 177, _, _, _, _, _⟩) (v := ?vvh2) rfl (by kernel_rfl) (by kernel_rfl) (by kernel_rfl) (fun _ _ _ h => h) (Or.inl ⟨by rfl, ?yyh2⟩) hHeld ?rrh2
      case yyh2 => (intro wq hSw; (try dsimp only at hSw); go_simp; first | done | with_reducible rfl)
      simp only [Act.put, List.setIfInBounds_toArray, List.set_cons_zero, List.set_cons_succ]
      refine wpAnyH_ready (rs := [1]) (by kernel_rfl) (by simp) ?_
      refine AllReadyH.cons (o := ⟨some 176, _, _, _, _, _⟩) rfl (fun K hK => ?_) AllReadyH.nil
      go_simp
      refine (entries_any n1 l1 a1 c1 x _ s1 (PX.out.below (below_then HB7.out hHeld.1)) (by omega) KX.out HC0.out).mono ?_
      rintro e wa ⟨ra, rfl, oa, hba⟩
      have hBa := below_then hHeld.1 hba
      go_wp2_with fail
      refine hK.out _ _ ?ssh3 (fun hHeld => ?_)
      case ssh3 => (exact KS.out _ hBa)
      clear hK K
      try simp only [Act.put, List.setIfInBounds_toArray, List.set_cons_zero, List.set_cons_succ]
      refine wpAnyH_ready (rs := [3]) (by kernel_rfl) (by simp) ?_
      refine AllReadyH.cons (o := ⟨some 178, _, _, _, _, _⟩) rfl (fun K hK => ?_) AllReadyH.nil
      go_simp
      refine (r21entries_any n1 l1 a1 c1 x _ s1 (PX.out.below (below_then HB7.out hHeld.1)) (by omega) KX.out HC0.out).mono ?_
      rintro e wb ⟨rb, rfl, ob, hbb⟩
      have hBb := below_then hBa hbb
      have oa2 := oa.below hbb
      go_wp2_with fail
      refine hK.out _ _ ?ssh4 (fun hHeld => ?_)
      case ssh4 => (exact KS.out _ hBb)
      clear hK K
      try simp only [Act.put, List.setIfInBounds_toArray, List.set_cons_zero, List.set_cons_succ]
      refine wpAnyH_take (i := 4) (oi := ⟨some 16, _, _, _, _, _⟩) (v := ?vvh5) rfl (by kernel_rfl) (by kernel_rfl) (by kernel_rfl) (fun _ _ _ h => h) (Or.inl ⟨by rfl, ?yyh5⟩) hHeld ?rrh5
      case yyh5 => (intro wq hSw; (try dsimp only at hSw); go_simp; first | done | with_reducible rfl)
      simp only [Act.put, List.setIfInBounds_toArray, List.set_cons_zero, List.set_cons_succ]
      refine wpAnyH_take (i := 5) (oi := ⟨some 17, _, _, _, _, _⟩) (v := ?vvh6) rfl (by kernel_rfl) (by kernel_rfl) (by kernel_rfl) (fun _ _ _ h => h) (Or.inl ⟨by rfl, ?yyh6⟩) hHeld ?rrh6
      case yyh6 => (intro wq hSw; (try dsimp only at hSw); go_simp; first | done | with_reducible rfl)
      simp only [Act.put, List.setIfInBounds_toArray, List.set_cons_zero, List.set_cons_succ]
      refine wpAnyH_done (by kernel_rfl) ?_ _
      clear hHeld
      go_wp2_with fail
      go_meet
      exact ⟨entL n1 l1 x, W7.heap.size, oa2.mono (by simp), ob.mono (by have := hBa.size; omega), below_then hb5 hBb, fun e he => ⟨(ent_last HN1.out he).1, by rw [(ent_last HN1.out he).2], by have := ent_size HRX.out he; unfold maxLen; omega⟩, by rw [entL_len]; omega⟩
    · have hc0 : checkR l1 x [i1] ≠ 0 := by rw [HKA.out]; exact hk
      have HC0 := Lib.hid hc0
      clear hc0 hk
      refine wp_region_held_drew (S := (fun w' => Below W7.heap.size W7 w' ∧ w'.cell? ⟨w.heap.size, 0, none⟩ = some (.int .i64 i1) ∧ w'.cell? ⟨w.heap.size, 1, none⟩ = some (.string l1) ∧ w'.cell? ⟨w.heap.size, 2, none⟩ = some (.slice a1 x.length c1))) (by kernel_rfl) (KS.out _ (Below.refl _ _).drew) (fun hHeld => ?_)
      refine wpAnyH_take (i := 0) (oi := ⟨some 175, _, _, _, _, _⟩) (v := ?vvi1) rfl (by kernel_rfl) (by kernel_rfl) (by kernel_rfl) (fun _ _ _ h => h) (Or.inl ⟨by rfl, ?yyi1⟩) hHeld ?rri1
      case yyi1 => (intro wq hSw; (try dsimp only at hSw); go_simp; first | done | with_reducible rfl)
      simp only [Act.put, List.setIfInBounds_toArray, List.set_cons_zero, List.set_cons_succ]
      refine wpAnyH_take (i := 2) (oi := ⟨some 177, _, _, _, _, _⟩) (v := ?vvi2) rfl (by kernel_rfl) (by kernel_rfl) (by kernel_rfl) (fun _ _ _ h => h) (Or.inl ⟨by rfl, ?yyi2⟩) hHeld ?rri2
      case yyi2 => (intro wq hSw; (try dsimp only at hSw); go_simp; first | done | with_reducible rfl)
      simp only [Act.put, List.setIfInBounds_toArray, List.set_cons_zero, List.set_cons_succ]
      refine wpAnyH_ready (rs := [1]) (by kernel_rfl) (by simp) ?_
      refine AllReadyH.cons (o := ⟨some 176, _, _, _, _, _⟩) rfl (fun K hK => ?_) AllReadyH.nil
      go_simp
      refine (entries_no i1 l1 a1 c1 x _ G1.out s1 (PX.out.below (below_then HB7.out hHeld.1)) (by omega) HC0.out).mono ?_
      rintro e wa ⟨rfl, hba⟩
      have hBa := below_then hHeld.1 hba
      go_wp2_with fail
      refine hK.out _ _ ?ssi3 (fun hHeld => ?_)
      case ssi3 => (exact KS.out _ hBa)
      clear hK K
      try simp only [Act.put, List.setIfInBounds_toArray, List.set_cons_zero, List.set_cons_succ]
      refine wpAnyH_ready (rs := [3]) (by kernel_rfl) (by simp) ?_
      refine AllReadyH.cons (o := ⟨some 178, _, _, _, _, _⟩) rfl (fun K hK => ?_) AllReadyH.nil
      go_simp
      refine (r21entries_no i1 l1 a1 c1 x _ G1.out s1 (PX.out.below (below_then HB7.out hHeld.1)) (by omega) HC0.out).mono ?_
      rintro e wb ⟨rfl, hbb⟩
      have hBb := below_then hBa hbb
      go_wp2_with fail
      refine hK.out _ _ ?ssi4 (fun hHeld => ?_)
      case ssi4 => (exact KS.out _ hBb)
      clear hK K
      try simp only [Act.put, List.setIfInBounds_toArray, List.set_cons_zero, List.set_cons_succ]
      refine wpAnyH_take (i := 4) (oi := ⟨some 16, _, _, _, _, _⟩) (v := ?vvi5) rfl (by kernel_rfl) (by kernel_rfl) (by kernel_rfl) (fun _ _ _ h => h) (Or.inl ⟨by rfl, ?yyi5⟩) hHeld ?rri5
      case yyi5 => (intro wq hSw; (try dsimp only at hSw); go_simp; first | done | with_reducible rfl)
      simp only [Act.put, List.setIfInBounds_toArray, List.set_cons_zero, List.set_cons_succ]
      refine wpAnyH_take (i := 5) (oi := ⟨some 17, _, _, _, _, _⟩) (v := ?vvi6) rfl (by kernel_rfl) (by kernel_rfl) (by kernel_rfl) (fun _ _ _ h => h) (Or.inl ⟨by rfl, ?yyi6⟩) hHeld ?rri6
      case yyi6 => (intro wq hSw; (try dsimp only at hSw); go_simp; first | done | with_reducible rfl)
      simp only [Act.put, List.setIfInBounds_toArray, List.set_cons_zero, List.set_cons_succ]
      refine wpAnyH_done (by kernel_rfl) ?_ _
      clear hHeld
      go_wp2_with fail
      go_meet
      exact ⟨[], W7.heap.size, EnO.nil _ _, EnO.nil _ _, below_then hb5 hBb, fun e he => absurd he (by simp), by simp⟩
  case rest =>
  obtain ⟨L, B, hO1, hO2, hbc, hL, hLl⟩ := hcut
  obtain ⟨a16, c16, h16⟩ := hO1.shape
  obtain ⟨a17, c17, h17⟩ := hO2.shape
  have A16 : Hid (L ≠ [] → ∃ b, a16 = some ⟨b, 0, none⟩ ∧ b < wc.heap.size ∧ ∀ (i : Nat) (e : ByteArray × ByteArray), L[i]? = some e → wc.cell? ⟨b, i * 2, none⟩ = some (.string e.1) ∧ wc.cell? ⟨b, i * 2 + 1, none⟩ = some (.string e.2)) := Lib.hid (fun hne => by
    obtain ⟨b, cap, hv, _, hlt, hc⟩ := hO1.at' hne
    rw [h16] at hv
    injection hv with hv1 hv2 hv3
    exact ⟨b, hv1, hlt, hc⟩)
  have A17 : Hid (L ≠ [] → ∃ b, a17 = some ⟨b, 0, none⟩ ∧ b < wc.heap.size ∧ ∀ (i : Nat) (e : ByteArray × ByteArray), L[i]? = some e → wc.cell? ⟨b, i * 2, none⟩ = some (.string e.1) ∧ wc.cell? ⟨b, i * 2 + 1, none⟩ = some (.string e.2)) := Lib.hid (fun hne => by
    obtain ⟨b, cap, hv, _, hlt, hc⟩ := hO2.at' hne
    rw [h17] at hv
    injection hv with hv1 hv2 hv3
    exact ⟨b, hv1, hlt, hc⟩)
  have HL := Lib.hid hL
  have HBC := Lib.hid hbc
  subst h16 h17
  clear hO1 hO2 hbc hL hb5
  have hzz : ((L.length : Int) != (L.length : Int)) = false := by simp
  go_wp2_with fail
  clear hzz
  go_loopw [18] (fun i wr => ∃ j : Nat, j ≤ L.length ∧ i = .int .i64 j ∧ Below wc.heap.size wc wr) (fun i _ => L.length - (intOf i).toNat)
  case atStart => exact ⟨0, by omega, rfl, Below.refl _ _⟩
  case round =>
    obtain ⟨j, hj, rfl, hbr⟩ := hrel
    have hb9 := below_then HBC.out hbr
    obtain ⟨k0, k1, hlw, hB⟩ := HE.out wr hb9
    by_cases hlt : j < L.length
    · obtain ⟨e, he⟩ : ∃ e, L[j]? = some e := ⟨_, List.getElem?_eq_getElem hlt⟩
      have hne : L ≠ [] := fun h => by rw [h] at hlt; simp at hlt
      obtain ⟨b1, rfl, hlb1, hc1⟩ := A16.out hne
      obtain ⟨b2, rfl, hlb2, hc2⟩ := A17.out hne
      obtain ⟨hm1, hm2, hm3⟩ := HL.out e (List.mem_of_getElem? he)
      obtain ⟨p1, p2⟩ := hc1 j e he
      obtain ⟨q1, q2⟩ := hc2 j e he
      have ks : ∀ w', Below wr.heap.size wr w' → (fun w' => Below wr.heap.size wr w' ∧ w'.cell? ⟨w.heap.size, 0, none⟩ = some (.int .i64 i1) ∧ w'.cell? ⟨b1, j * 2, none⟩ = some (.string e.1) ∧ w'.cell? ⟨b1, j * 2 + 1, none⟩ = some (.string e.2) ∧ w'.cell? ⟨b2, j * 2, none⟩ = some (.string e.1) ∧ w'.cell? ⟨b2, j * 2 + 1, none⟩ = some (.string e.2)) w' := fun w' hb => by
        have hbb := below_then hbr hb
        have e0 := (hb.block _ (Array.getElem?_eq_some_iff.1 k0).1).trans k0
        exact ⟨hb, by rw [cell_of_blk e0]; rfl, below_cell hbb _ hlb1 p1, below_cell hbb _ hlb1 p2, below_cell hbb _ hlb2 q1, below_cell hbb _ hlb2 q2⟩
      have KS := Lib.hid ks
      have HM1 := Lib.hid hm1
      have HM2 := Lib.hid hm2
      have HM3 := Lib.hid hm3
      clear ks he hne hc1 hc2 hm1 hm2 hm3 p1 p2 q1 q2 k0 k1
      go_wp2_with fail
      refine wp_region_held_drew (S := (fun w' => Below wr.heap.size wr w' ∧ w'.cell? ⟨w.heap.size, 0, none⟩ = some (.int .i64 i1) ∧ w'.cell? ⟨b1, j * 2, none⟩ = some (.string e.1) ∧ w'.cell? ⟨b1, j * 2 + 1, none⟩ = some (.string e.2) ∧ w'.cell? ⟨b2, j * 2, none⟩ = some (.string e.1) ∧ w'.cell? ⟨b2, j * 2 + 1, none⟩ = some (.string e.2))) (by kernel_rfl) (KS.out _ (Below.refl _ _).drew) (fun hHeld => ?_)
      refine wpAnyH_take (i := 0) (oi := ⟨some 190, _, _, _, _, _⟩) (v := ?vvj1) rfl (by kernel_rfl) (by kernel_rfl) (by kernel_rfl) (fun _ _ _ h => h) (Or.inl ⟨by rfl, ?yyj1⟩) hHeld ?rrj1
      case yyj1 => (intro wq hSw; (try dsimp only at hSw); go_simp; first | done | with_reducible rfl)
      simp only [Act.put, List.setIfInBounds_toArray, List.set_cons_zero, List.set_cons_succ]
      refine wpAnyH_take (i := 1) (oi := ⟨some 191, _, _, _, _, _⟩) (v := ?vvj2) rfl (by kernel_rfl) (by kernel_rfl) (by kernel_rfl) (fun _ _ _ h => h) (Or.inl ⟨by rfl, ?yyj2⟩) hHeld ?rrj2
      case yyj2 => (intro wq hSw; (try dsimp only at hSw); go_simp; first | done | with_reducible rfl)
      simp only [Act.put, List.setIfInBounds_toArray, List.set_cons_zero, List.set_cons_succ]
      refine wpAnyH_take (i := 2) (oi := ⟨some 192, _, _, _, _, _⟩) (v := ?vvj3) rfl (by kernel_rfl) (by kernel_rfl) (by kernel_rfl) (fun _ _ _ h => h) (Or.inl ⟨by rfl, ?yyj3⟩) hHeld ?rrj3
      case yyj3 => (intro wq hSw; (try dsimp only at hSw); go_simp; first | done | with_reducible rfl)
      simp only [Act.put, List.setIfInBounds_toArray, List.set_cons_zero, List.set_cons_succ]
      refine wpAnyH_take (i := 3) (oi := ⟨some 193, _, _, _, _, _⟩) (v := ?vvj4) rfl (by kernel_rfl) (by kernel_rfl) (by kernel_rfl) (fun _ _ _ h => h) (Or.inl ⟨by rfl, ?yyj4⟩) hHeld ?rrj4
      case yyj4 => (intro wq hSw; (try dsimp only at hSw); go_simp; first | done | with_reducible rfl)
      simp only [Act.put, List.setIfInBounds_toArray, List.set_cons_zero, List.set_cons_succ]
      refine wpAnyH_take (i := 4) (oi := ⟨some 194, _, _, _, _, _⟩) (v := ?vvj5) rfl (by kernel_rfl) (by kernel_rfl) (by kernel_rfl) (fun _ _ _ h => h) (Or.inl ⟨by rfl, ?yyj5⟩) hHeld ?rrj5
      case yyj5 => (intro wq hSw; (try dsimp only at hSw); go_simp; first | done | with_reducible rfl)
      simp only [Act.put, List.setIfInBounds_toArray, List.set_cons_zero, List.set_cons_succ]
      refine wpAnyH_take (i := 5) (oi := ⟨some 195, _, _, _, _, _⟩) (v := ?vvj6) rfl (by kernel_rfl) (by kernel_rfl) (by kernel_rfl) (fun _ _ _ h => h) (Or.inl ⟨by rfl, ?yyj6⟩) hHeld ?rrj6
      case yyj6 => (intro wq hSw; (try dsimp only at hSw); go_simp; first | done | with_reducible rfl)
      simp only [Act.put, List.setIfInBounds_toArray, List.set_cons_zero, List.set_cons_succ]
      refine wpAnyH_take (i := 6) (oi := ⟨some 196, _, _, _, _, _⟩) (v := ?vvj7) rfl (by kernel_rfl) (by kernel_rfl) (by kernel_rfl) (fun _ _ _ h => h) (Or.inl ⟨by rfl, ?yyj7⟩) hHeld ?rrj7
      case yyj7 => (intro wq hSw; (try dsimp only at hSw); go_simp; first | done | with_reducible rfl)
      simp only [Act.put, List.setIfInBounds_toArray, List.set_cons_zero, List.set_cons_succ]
      refine wpAnyH_take (i := 7) (oi := ⟨some 197, _, _, _, _, _⟩) (v := ?vvj8) rfl (by kernel_rfl) (by kernel_rfl) (by kernel_rfl) (fun _ _ _ h => h) (Or.inl ⟨by rfl, ?yyj8⟩) hHeld ?rrj8
      case yyj8 => (intro wq hSw; (try dsimp only at hSw); go_simp; first | done | with_reducible rfl)
      simp only [Act.put, List.setIfInBounds_toArray, List.set_cons_zero, List.set_cons_succ]
      refine wpAnyH_take (i := 8) (oi := ⟨some 198, _, _, _, _, _⟩) (v := ?vvj9) rfl (by kernel_rfl) (by kernel_rfl) (by kernel_rfl) (fun _ _ _ h => h) (Or.inl ⟨by rfl, ?yyj9⟩) hHeld ?rrj9
      case yyj9 => (intro wq hSw; (try dsimp only at hSw); go_simp; first | done | with_reducible rfl)
      simp only [Act.put, List.setIfInBounds_toArray, List.set_cons_zero, List.set_cons_succ]
      refine wpAnyH_take (i := 9) (oi := ⟨some 199, _, _, _, _, _⟩) (v := ?vvj10) rfl (by kernel_rfl) (by kernel_rfl) (by kernel_rfl) (fun _ _ _ h => h) (Or.inl ⟨by rfl, ?yyj10⟩) hHeld ?rrj10
      case yyj10 => (intro wq hSw; (try dsimp only at hSw); go_simp; first | done | with_reducible rfl)
      simp only [Act.put, List.setIfInBounds_toArray, List.set_cons_zero, List.set_cons_succ]
      refine wpAnyH_take (i := 10) (oi := ⟨some 200, _, _, _, _, _⟩) (v := ?vvj11) rfl (by kernel_rfl) (by kernel_rfl) (by kernel_rfl) (fun _ _ _ h => h) (Or.inl ⟨by rfl, ?yyj11⟩) hHeld ?rrj11
      case yyj11 => (intro wq hSw; (try dsimp only at hSw); go_simp; first | done | with_reducible rfl)
      simp only [Act.put, List.setIfInBounds_toArray, List.set_cons_zero, List.set_cons_succ]
      refine wpAnyH_take (i := 11) (oi := ⟨some 201, _, _, _, _, _⟩) (v := ?vvj12) rfl (by kernel_rfl) (by kernel_rfl) (by kernel_rfl) (fun _ _ _ h => h) (Or.inl ⟨by rfl, ?yyj12⟩) hHeld ?rrj12
      case yyj12 => (intro wq hSw; (try dsimp only at hSw); go_simp; first | done | with_reducible rfl)
      simp only [Act.put, List.setIfInBounds_toArray, List.set_cons_zero, List.set_cons_succ]
      refine wpAnyH_take (i := 12) (oi := ⟨some 202, _, _, _, _, _⟩) (v := ?vvj13) rfl (by kernel_rfl) (by kernel_rfl) (by kernel_rfl) (fun _ _ _ h => h) (Or.inl ⟨by rfl, ?yyj13⟩) hHeld ?rrj13
      case yyj13 => (intro wq hSw; (try dsimp only at hSw); go_simp; first | done | with_reducible rfl)
      simp only [Act.put, List.setIfInBounds_toArray, List.set_cons_zero, List.set_cons_succ]
      refine wpAnyH_take (i := 13) (oi := ⟨some 203, _, _, _, _, _⟩) (v := ?vvj14) rfl (by kernel_rfl) (by kernel_rfl) (by kernel_rfl) (fun _ _ _ h => h) (Or.inl ⟨by rfl, ?yyj14⟩) hHeld ?rrj14
      case yyj14 => (intro wq hSw; (try dsimp only at hSw); go_simp; first | done | with_reducible rfl)
      simp only [Act.put, List.setIfInBounds_toArray, List.set_cons_zero, List.set_cons_succ]
      refine wpAnyH_take (i := 14) (oi := ⟨some 204, _, _, _, _, _⟩) (v := ?vvj15) rfl (by kernel_rfl) (by kernel_rfl) (by kernel_rfl) (fun _ _ _ h => h) (Or.inl ⟨by rfl, ?yyj15⟩) hHeld ?rrj15
      case yyj15 => (intro wq hSw; (try dsimp only at hSw); go_simp; first | done | with_reducible rfl)
      simp only [Act.put, List.setIfInBounds_toArray, List.set_cons_zero, List.set_cons_succ]
      refine wpAnyH_take (i := 16) (oi := ⟨some 206, _, _, _, _, _⟩) (v := ?vvj16) rfl (by kernel_rfl) (by kernel_rfl) (by kernel_rfl) (fun _ _ _ h => h) (Or.inl ⟨by rfl, ?yyj16⟩) hHeld ?rrj16
      case yyj16 => (intro wq hSw; (try dsimp only at hSw); go_simp; first | done | with_reducible rfl)
      simp only [Act.put, List.setIfInBounds_toArray, List.set_cons_zero, List.set_cons_succ]
      refine wpAnyH_take (i := 17) (oi := ⟨some 207, _, _, _, _, _⟩) (v := ?vvj17) rfl (by kernel_rfl) (by kernel_rfl) (by kernel_rfl) (fun _ _ _ h => h) (Or.inl ⟨by rfl, ?yyj17⟩) hHeld ?rrj17
      case yyj17 => (intro wq hSw; (try dsimp only at hSw); go_simp; first | done | with_reducible rfl)
      simp only [Act.put, List.setIfInBounds_toArray, List.set_cons_zero, List.set_cons_succ]
      refine wpAnyH_ready (rs := [15]) (by kernel_rfl) (by simp) ?_
      refine AllReadyH.cons (o := ⟨some 205, _, _, _, _, _⟩) rfl (fun K hK => ?_) AllReadyH.nil
      go_simp
      refine (entryID_long e.2 _ HM1.out HM3.out).mono ?_
      rintro ee wa ⟨rfl, hba⟩
      rw [HM2.out]
      have hBa := below_then hHeld.1 hba
      go_wp2_with fail
      refine hK.out _ _ ?ssj18 (fun hHeld => ?_)
      case ssj18 => (exact KS.out _ hBa)
      clear hK K
      try simp only [Act.put, List.setIfInBounds_toArray, List.set_cons_zero, List.set_cons_succ]
      refine wpAnyH_take (i := 18) (oi := ⟨some 208, _, _, _, _, _⟩) (v := ?vvj19) rfl (by kernel_rfl) (by kernel_rfl) (by kernel_rfl) (fun _ _ _ h => h) (Or.inl ⟨by rfl, ?yyj19⟩) hHeld ?rrj19
      case yyj19 => (intro wq hSw; (try dsimp only at hSw); go_simp; first | done | with_reducible rfl)
      simp only [Act.put, List.setIfInBounds_toArray, List.set_cons_zero, List.set_cons_succ]
      refine wpAnyH_take (i := 19) (oi := ⟨some 209, _, _, _, _, _⟩) (v := ?vvj20) rfl (by kernel_rfl) (by kernel_rfl) (by kernel_rfl) (fun _ _ _ h => h) (Or.inl ⟨by rfl, ?yyj20⟩) hHeld ?rrj20
      case yyj20 => (intro wq hSw; (try dsimp only at hSw); go_simp; first | done | with_reducible rfl)
      simp only [Act.put, List.setIfInBounds_toArray, List.set_cons_zero, List.set_cons_succ]
      refine wpAnyH_done (by kernel_rfl) ?_ _
      clear hHeld
      go_wp2_with fail
      exact ⟨⟨j + 1, by omega, by go_num, below_then hbr hBa⟩, by simp [intOf]; omega⟩
    · obtain rfl : j = L.length := by omega
      have v0 := cell_of_blk k0 0
      simp at v0
      have HB9 := Lib.hid hb9
      clear k0 k1 hlt hbr
      have hs6 : s.size ≤ 1000000 := by omega
      go_wp2_with fail
      refine (parseVertex_any i1 s _ G1.out hs6).mono ?_
      rintro e w6 hx6
      obtain ⟨pa, pc, rfl, hp6, hn6, hb6⟩ := hx6.uni
      clear hx6
      obtain ⟨o1, ho1⟩ : ∃ o, o = vertexP i1 s := ⟨_, rfl⟩
      have Qo1 := Lib.hid ho1
      clear ho1
      rw [← Qo1.out] at hp6 hn6 ⊢
      obtain ⟨d1, hd1⟩ : ∃ d, d = vxId i1 o1 := ⟨_, rfl⟩
      have Qd1 := Lib.hid hd1
      clear hd1
      obtain ⟨m1, hm1⟩ : ∃ d, d = vxL o1 := ⟨_, rfl⟩
      have Qm1 := Lib.hid hm1
      clear hm1
      obtain ⟨z1, hz1⟩ : ∃ d, d = vxP o1 := ⟨_, rfl⟩
      have Qz1 := Lib.hid hz1
      clear hz1
      obtain ⟨y1, hy1⟩ : ∃ d, d = o1.isSome := ⟨_, rfl⟩
      have Qy1 := Lib.hid hy1
      clear hy1
      rw [← Qz1.out] at hp6 hn6 ⊢
      rw [← Qd1.out, ← Qm1.out, ← Qy1.out]
      obtain ⟨gA, hgA⟩ : ∃ g : Value, g = if y1 = true then .int .i64 0 else .int .i64 10 := ⟨_, rfl⟩
      rw [← hgA]
      have HGA := Lib.hid hgA
      clear hgA
      have HP6 := Lib.hid hp6
      have hb69 := below_then HB9.out hb6
      clear v0 hlw hB hp6
      obtain ⟨k0, k1, hlw, hB⟩ := HE.out w6 hb69
      have v0 := cell_of_blk k0 0
      simp at v0
      have hl6 : w.heap.size < w6.heap.size := by omega
      clear k0 k1
      go_wp2_with fail
      have E6 := Lib.hid (heap_new w6 (.cells #[.int .i64 d1, .string m1, .slice pa z1.length pc] 24))
      have B6 := Lib.hid (below_box w6 (.cells #[.int .i64 d1, .string m1, .slice pa z1.length pc] 24))
      refine (r21vertex_any i1 s _ G1.out hs6).mono ?_
      rintro e w7 hx7
      obtain ⟨qa, qc, rfl, hp7, hn7, hb7⟩ := hx7.uni
      clear hx7
      rw [← Qo1.out] at hp7 hn7 ⊢
      rw [← Qz1.out] at hp7 hn7 ⊢
      rw [← Qd1.out, ← Qm1.out, ← Qy1.out]
      obtain ⟨gB, hgB⟩ : ∃ g : Value, g = if y1 = true then .bool true else .bool false := ⟨_, rfl⟩
      rw [← hgB]
      have HGB := Lib.hid hgB
      clear hgB
      have E67 := Lib.hid ((hb7.block w6.heap.size (by simp)).trans E6.out)
      have B67 := Lib.hid (below_then B6.out hb7)
      have HP7 := Lib.hid hp7
      have hb79 := below_then hb69 B67.out
      clear v0 hlw hB hp7 hl6 hb69 E6 B6
      obtain ⟨k0, k1, hlw, hB⟩ := HE.out w7 hb79
      have v0 := cell_of_blk k1 0
      simp at v0
      have hl7 : w.heap.size + 1 < w7.heap.size := by omega
      clear k0 k1
      go_wp2_with fail
      have E7 := Lib.hid (heap_new w7 (.cells #[.int .i64 d1, .string m1, .slice qa z1.length qc] 24))
      have B7 := Lib.hid (below_box w7 (.cells #[.int .i64 d1, .string m1, .slice qa z1.length qc] 24))
      refine (parseEdge_any i2 s _ G2.out hs6).mono ?_
      rintro e w8 hx8
      obtain ⟨ra, rc, rfl, hp8, hn8, hb8⟩ := hx8.uni
      clear hx8
      obtain ⟨o2, ho2⟩ : ∃ o, o = edgeP i2 s := ⟨_, rfl⟩
      have Qo2 := Lib.hid ho2
      clear ho2
      rw [← Qo2.out] at hp8 hn8 ⊢
      obtain ⟨d2, hd2⟩ : ∃ d, d = vxId i2 o2 := ⟨_, rfl⟩
      have Qd2 := Lib.hid hd2
      clear hd2
      obtain ⟨m2, hm2⟩ : ∃ d, d = vxL o2 := ⟨_, rfl⟩
      have Qm2 := Lib.hid hm2
      clear hm2
      obtain ⟨z2, hz2⟩ : ∃ d, d = vxP o2 := ⟨_, rfl⟩
      have Qz2 := Lib.hid hz2
      clear hz2
      obtain ⟨y2, hy2⟩ : ∃ d, d = o2.isSome := ⟨_, rfl⟩
      have Qy2 := Lib.hid hy2
      clear hy2
      obtain ⟨f2, hf2⟩ : ∃ d, d = exN (num5 s) o2 := ⟨_, rfl⟩
      have Qf2 := Lib.hid hf2
      clear hf2
      obtain ⟨t2, ht2⟩ : ∃ d, d = exN (num5 (s.extract 5 s.size)) o2 := ⟨_, rfl⟩
      have Qt2 := Lib.hid ht2
      clear ht2
      rw [← Qz2.out] at hp8 hn8 ⊢
      rw [← Qd2.out, ← Qm2.out, ← Qy2.out, ← Qf2.out, ← Qt2.out]
      obtain ⟨gC, hgC⟩ : ∃ g : Value, g = if y2 = true then .int .i64 0 else .int .i64 10 := ⟨_, rfl⟩
      rw [← hgC]
      have HGC := Lib.hid hgC
      clear hgC
      have E78 := Lib.hid ((hb8.block w7.heap.size (by simp)).trans E7.out)
      have B78 := Lib.hid (below_then B7.out hb8)
      have E68 := Lib.hid ((B78.out.block _ (Array.getElem?_eq_some_iff.1 E67.out).1).trans E67.out)
      have HP8 := Lib.hid hp8
      have hb89 := below_then hb79 B78.out
      clear v0 hlw hB hp8 hl7 hb79 E7 B7
      obtain ⟨k0, k1, hlw, hB⟩ := HE.out w8 hb89
      have v0 := cell_of_blk k1 0
      simp at v0
      have hl8 : w.heap.size + 1 < w8.heap.size := by omega
      clear k0 k1
      go_wp2_with fail
      have E8 := Lib.hid (heap_new w8 (.cells #[.int .i64 d2, .string m2, .int .i64 f2, .int .i64 t2, .slice ra z2.length rc] 35))
      have B8 := Lib.hid (below_box w8 (.cells #[.int .i64 d2, .string m2, .int .i64 f2, .int .i64 t2, .slice ra z2.length rc] 35))
      refine (r21edge_any i2 s _ G2.out hs6).mono ?_
      rintro e w9 hx9
      obtain ⟨sa, sc, rfl, hp9, hn9, hb99⟩ := hx9.uni
      clear hx9
      rw [← Qo2.out] at hp9 hn9 ⊢
      rw [← Qz2.out] at hp9 hn9 ⊢
      rw [← Qd2.out, ← Qm2.out, ← Qy2.out, ← Qf2.out, ← Qt2.out]
      obtain ⟨gD, hgD⟩ : ∃ g : Value, g = if y2 = true then .bool true else .bool false := ⟨_, rfl⟩
      rw [← hgD]
      have HGD := Lib.hid hgD
      clear hgD
      have B89 := Lib.hid (below_then B8.out hb99)
      obtain ⟨W9, hW9⟩ : ∃ W9, W9 = w9.alloc (.cells #[.int .i64 d2, .string m2, .int .i64 f2, .int .i64 t2, .slice sa z2.length sc] 35) := ⟨_, rfl⟩
      have E9 : W9.heap[w9.heap.size]? = some (.cells #[.int .i64 d2, .string m2, .int .i64 f2, .int .i64 t2, .slice sa z2.length sc] 35) := by rw [hW9]; exact heap_new w9 _
      have B9 : Below w9.heap.size w9 W9 := by rw [hW9]; exact below_box w9 _
      have HW9 := Lib.hid hW9
      have B8W := below_then B89.out B9
      have E8W := (below_then hb99 B9).block w8.heap.size (by simp)
      have E8' := E8W.trans E8.out
      have E7' := (B8W.block w7.heap.size (Array.getElem?_eq_some_iff.1 E78.out).1).trans E78.out
      have E6' := (B8W.block w6.heap.size (Array.getElem?_eq_some_iff.1 E68.out).1).trans E68.out
      have HQ9 := Lib.hid (hp9.below B9)
      have HQ8 := Lib.hid (HP8.out.below B8W)
      have HQ7 := Lib.hid (HP7.out.below (below_then B78.out B8W))
      have HQ6 := Lib.hid (HP6.out.below (below_then B67.out (below_then B78.out B8W)))
      have BF := Lib.hid (below_then hb89 B8W)
      have c60 := cell_of_blk E6' 0
      have c61 := cell_of_blk E6' 1
      have c62 := cell_of_blk E6' 2
      have c70 := cell_of_blk E7' 0
      have c71 := cell_of_blk E7' 1
      have c72 := cell_of_blk E7' 2
      simp at c60 c61 c62 c70 c71 c72
      have l6 := (Array.getElem?_eq_some_iff.1 E6').1
      have l7 := (Array.getElem?_eq_some_iff.1 E7').1
      have HE8 := Lib.hid E8'
      have HE9 := Lib.hid E9
      clear E8W E8' E9 E7' E6' v0 hlw hB hp9 hl8 hb89 hb99 E8 B8 B9 B8W Qd1 Qm1 Qz1 Qy1 Qo1 Qd2 Qm2 Qz2 Qy2 Qo2 Qf2 Qt2 hW9
      go_upto_region 31 with fail
      rw [← HW9.out]
      have hgA := HGA.out
      have hgB := HGB.out
      have hgC := HGC.out
      have hgD := HGD.out
      clear HGA HGB HGC HGD
      cases y1 <;> cases y2 <;> simp at hgA hgB hgC hgD <;> subst hgA hgB hgC hgD
      · go_wp2_with fail
        obtain ⟨nA, nB⟩ := heap_new3' W9 (.cells #[.int .i64 d1, .string m1, .slice pa z1.length pc] 24) (.cells #[.int .i64 d1, .string m1, .slice qa z1.length qc] 24)
        have bA := below_al (below_box W9 (.cells #[.int .i64 d1, .string m1, .slice pa z1.length pc] 24)) (.cells #[.int .i64 d1, .string m1, .slice qa z1.length qc] 24)
        refine (sameV1 _ _ d1 m1 m1 pa qa pc qc z1 z1 _ nA nB (HQ6.out.below bA) (HQ7.out.below bA) (by omega) true (by rw [sameP_yes rfl]; simp)).mono ?_
        rintro e wA ⟨rfl, nA', rfl⟩
        have bA' := below_drewN' bA nA'
        have e8 := (bA'.block w8.heap.size (Array.getElem?_eq_some_iff.1 HE8.out).1).trans HE8.out
        have e9 := (bA'.block w9.heap.size (Array.getElem?_eq_some_iff.1 HE9.out).1).trans HE9.out
        obtain ⟨WA, hWA⟩ : ∃ WA, WA = (((W9.alloc (.cells #[.int .i64 d1, .string m1, .slice pa z1.length pc] 24)).alloc (.cells #[.int .i64 d1, .string m1, .slice qa z1.length qc] 24)).drewN nA') := ⟨_, rfl⟩
        rw [← hWA] at e8 e9 bA' ⊢
        have x0 := cell_of_blk e8 0
        have x1 := cell_of_blk e8 1
        have x2 := cell_of_blk e8 2
        have x3 := cell_of_blk e8 3
        have x4 := cell_of_blk e8 4
        have r0 := cell_of_blk e9 0
        have r1 := cell_of_blk e9 1
        have r2 := cell_of_blk e9 2
        have r3 := cell_of_blk e9 3
        have r4 := cell_of_blk e9 4
        simp at x0 x1 x2 x3 x4 r0 r1 r2 r3 r4
        have l8 := (Array.getElem?_eq_some_iff.1 e8).1
        have l9 := (Array.getElem?_eq_some_iff.1 e9).1
        clear hWA nA nB bA e8 e9 c60 c61 c62 c70 c71 c72
        go_wp2_with fail
        obtain ⟨nA, nB⟩ := heap_new3' WA (.cells #[.int .i64 d2, .string m2, .int .i64 f2, .int .i64 t2, .slice ra z2.length rc] 35) (.cells #[.int .i64 d2, .string m2, .int .i64 f2, .int .i64 t2, .slice sa z2.length sc] 35)
        have bB := below_then bA' (below_al (below_box WA (.cells #[.int .i64 d2, .string m2, .int .i64 f2, .int .i64 t2, .slice ra z2.length rc] 35)) (.cells #[.int .i64 d2, .string m2, .int .i64 f2, .int .i64 t2, .slice sa z2.length sc] 35))
        refine (sameE1 _ _ d2 f2 t2 m2 ra sa rc sc z2 _ nA nB (HQ8.out.below bB) (HQ9.out.below bB) (by omega)).mono ?_
        rintro e wB ⟨rfl, nB', rfl⟩
        go_wp2_with fail
        go_ret
        exact ⟨rfl, (HE.out _ (below_drewN' (below_then BF.out bB) nB')).2.2.2⟩
      · go_wp2_with fail
        obtain ⟨nA, nB⟩ := heap_new3' W9 (.cells #[.int .i64 d1, .string m1, .slice pa z1.length pc] 24) (.cells #[.int .i64 d1, .string m1, .slice qa z1.length qc] 24)
        have bA := below_al (below_box W9 (.cells #[.int .i64 d1, .string m1, .slice pa z1.length pc] 24)) (.cells #[.int .i64 d1, .string m1, .slice qa z1.length qc] 24)
        refine (sameV1 _ _ d1 m1 m1 pa qa pc qc z1 z1 _ nA nB (HQ6.out.below bA) (HQ7.out.below bA) (by omega) true (by rw [sameP_yes rfl]; simp)).mono ?_
        rintro e wA ⟨rfl, nA', rfl⟩
        have bA' := below_drewN' bA nA'
        have e8 := (bA'.block w8.heap.size (Array.getElem?_eq_some_iff.1 HE8.out).1).trans HE8.out
        have e9 := (bA'.block w9.heap.size (Array.getElem?_eq_some_iff.1 HE9.out).1).trans HE9.out
        obtain ⟨WA, hWA⟩ : ∃ WA, WA = (((W9.alloc (.cells #[.int .i64 d1, .string m1, .slice pa z1.length pc] 24)).alloc (.cells #[.int .i64 d1, .string m1, .slice qa z1.length qc] 24)).drewN nA') := ⟨_, rfl⟩
        rw [← hWA] at e8 e9 bA' ⊢
        have x0 := cell_of_blk e8 0
        have x1 := cell_of_blk e8 1
        have x2 := cell_of_blk e8 2
        have x3 := cell_of_blk e8 3
        have x4 := cell_of_blk e8 4
        have r0 := cell_of_blk e9 0
        have r1 := cell_of_blk e9 1
        have r2 := cell_of_blk e9 2
        have r3 := cell_of_blk e9 3
        have r4 := cell_of_blk e9 4
        simp at x0 x1 x2 x3 x4 r0 r1 r2 r3 r4
        have l8 := (Array.getElem?_eq_some_iff.1 e8).1
        have l9 := (Array.getElem?_eq_some_iff.1 e9).1
        clear hWA nA nB bA e8 e9 c60 c61 c62 c70 c71 c72
        go_wp2_with fail
        obtain ⟨nA, nB⟩ := heap_new3' WA (.cells #[.int .i64 d2, .string m2, .int .i64 f2, .int .i64 t2, .slice ra z2.length rc] 35) (.cells #[.int .i64 d2, .string m2, .int .i64 f2, .int .i64 t2, .slice sa z2.length sc] 35)
        have bB := below_then bA' (below_al (below_box WA (.cells #[.int .i64 d2, .string m2, .int .i64 f2, .int .i64 t2, .slice ra z2.length rc] 35)) (.cells #[.int .i64 d2, .string m2, .int .i64 f2, .int .i64 t2, .slice sa z2.length sc] 35))
        refine (sameE1 _ _ d2 f2 t2 m2 ra sa rc sc z2 _ nA nB (HQ8.out.below bB) (HQ9.out.below bB) (by omega)).mono ?_
        rintro e wB ⟨rfl, nB', rfl⟩
        go_wp2_with fail
        go_ret
        exact ⟨rfl, (HE.out _ (below_drewN' (below_then BF.out bB) nB')).2.2.2⟩
      · go_wp2_with fail
        obtain ⟨nA, nB⟩ := heap_new3' W9 (.cells #[.int .i64 d1, .string m1, .slice pa z1.length pc] 24) (.cells #[.int .i64 d1, .string m1, .slice qa z1.length qc] 24)
        have bA := below_al (below_box W9 (.cells #[.int .i64 d1, .string m1, .slice pa z1.length pc] 24)) (.cells #[.int .i64 d1, .string m1, .slice qa z1.length qc] 24)
        refine (sameV1 _ _ d1 m1 m1 pa qa pc qc z1 z1 _ nA nB (HQ6.out.below bA) (HQ7.out.below bA) (by omega) true (by rw [sameP_yes rfl]; simp)).mono ?_
        rintro e wA ⟨rfl, nA', rfl⟩
        have bA' := below_drewN' bA nA'
        have e8 := (bA'.block w8.heap.size (Array.getElem?_eq_some_iff.1 HE8.out).1).trans HE8.out
        have e9 := (bA'.block w9.heap.size (Array.getElem?_eq_some_iff.1 HE9.out).1).trans HE9.out
        obtain ⟨WA, hWA⟩ : ∃ WA, WA = (((W9.alloc (.cells #[.int .i64 d1, .string m1, .slice pa z1.length pc] 24)).alloc (.cells #[.int .i64 d1, .string m1, .slice qa z1.length qc] 24)).drewN nA') := ⟨_, rfl⟩
        rw [← hWA] at e8 e9 bA' ⊢
        have x0 := cell_of_blk e8 0
        have x1 := cell_of_blk e8 1
        have x2 := cell_of_blk e8 2
        have x3 := cell_of_blk e8 3
        have x4 := cell_of_blk e8 4
        have r0 := cell_of_blk e9 0
        have r1 := cell_of_blk e9 1
        have r2 := cell_of_blk e9 2
        have r3 := cell_of_blk e9 3
        have r4 := cell_of_blk e9 4
        simp at x0 x1 x2 x3 x4 r0 r1 r2 r3 r4
        have l8 := (Array.getElem?_eq_some_iff.1 e8).1
        have l9 := (Array.getElem?_eq_some_iff.1 e9).1
        clear hWA nA nB bA e8 e9 c60 c61 c62 c70 c71 c72
        go_wp2_with fail
        obtain ⟨nA, nB⟩ := heap_new3' WA (.cells #[.int .i64 d2, .string m2, .int .i64 f2, .int .i64 t2, .slice ra z2.length rc] 35) (.cells #[.int .i64 d2, .string m2, .int .i64 f2, .int .i64 t2, .slice sa z2.length sc] 35)
        have bB := below_then bA' (below_al (below_box WA (.cells #[.int .i64 d2, .string m2, .int .i64 f2, .int .i64 t2, .slice ra z2.length rc] 35)) (.cells #[.int .i64 d2, .string m2, .int .i64 f2, .int .i64 t2, .slice sa z2.length sc] 35))
        refine (sameE1 _ _ d2 f2 t2 m2 ra sa rc sc z2 _ nA nB (HQ8.out.below bB) (HQ9.out.below bB) (by omega)).mono ?_
        rintro e wB ⟨rfl, nB', rfl⟩
        go_wp2_with fail
        go_ret
        exact ⟨rfl, (HE.out _ (below_drewN' (below_then BF.out bB) nB')).2.2.2⟩
      · go_wp2_with fail
        obtain ⟨nA, nB⟩ := heap_new3' W9 (.cells #[.int .i64 d1, .string m1, .slice pa z1.length pc] 24) (.cells #[.int .i64 d1, .string m1, .slice qa z1.length qc] 24)
        have bA := below_al (below_box W9 (.cells #[.int .i64 d1, .string m1, .slice pa z1.length pc] 24)) (.cells #[.int .i64 d1, .string m1, .slice qa z1.length qc] 24)
        refine (sameV1 _ _ d1 m1 m1 pa qa pc qc z1 z1 _ nA nB (HQ6.out.below bA) (HQ7.out.below bA) (by omega) true (by rw [sameP_yes rfl]; simp)).mono ?_
        rintro e wA ⟨rfl, nA', rfl⟩
        have bA' := below_drewN' bA nA'
        have e8 := (bA'.block w8.heap.size (Array.getElem?_eq_some_iff.1 HE8.out).1).trans HE8.out
        have e9 := (bA'.block w9.heap.size (Array.getElem?_eq_some_iff.1 HE9.out).1).trans HE9.out
        obtain ⟨WA, hWA⟩ : ∃ WA, WA = (((W9.alloc (.cells #[.int .i64 d1, .string m1, .slice pa z1.length pc] 24)).alloc (.cells #[.int .i64 d1, .string m1, .slice qa z1.length qc] 24)).drewN nA') := ⟨_, rfl⟩
        rw [← hWA] at e8 e9 bA' ⊢
        have x0 := cell_of_blk e8 0
        have x1 := cell_of_blk e8 1
        have x2 := cell_of_blk e8 2
        have x3 := cell_of_blk e8 3
        have x4 := cell_of_blk e8 4
        have r0 := cell_of_blk e9 0
        have r1 := cell_of_blk e9 1
        have r2 := cell_of_blk e9 2
        have r3 := cell_of_blk e9 3
        have r4 := cell_of_blk e9 4
        simp at x0 x1 x2 x3 x4 r0 r1 r2 r3 r4
        have l8 := (Array.getElem?_eq_some_iff.1 e8).1
        have l9 := (Array.getElem?_eq_some_iff.1 e9).1
        clear hWA nA nB bA e8 e9 c60 c61 c62 c70 c71 c72
        go_wp2_with fail
        obtain ⟨nA, nB⟩ := heap_new3' WA (.cells #[.int .i64 d2, .string m2, .int .i64 f2, .int .i64 t2, .slice ra z2.length rc] 35) (.cells #[.int .i64 d2, .string m2, .int .i64 f2, .int .i64 t2, .slice sa z2.length sc] 35)
        have bB := below_then bA' (below_al (below_box WA (.cells #[.int .i64 d2, .string m2, .int .i64 f2, .int .i64 t2, .slice ra z2.length rc] 35)) (.cells #[.int .i64 d2, .string m2, .int .i64 f2, .int .i64 t2, .slice sa z2.length sc] 35))
        refine (sameE1 _ _ d2 f2 t2 m2 ra sa rc sc z2 _ nA nB (HQ8.out.below bB) (HQ9.out.below bB) (by omega)).mono ?_
        rintro e wB ⟨rfl, nB', rfl⟩
        go_wp2_with fail
        go_ret
        exact ⟨rfl, (HE.out _ (below_drewN' (below_then BF.out bB) nB')).2.2.2⟩
end Go.Proofs.Ytcafedfldmcbiaa
