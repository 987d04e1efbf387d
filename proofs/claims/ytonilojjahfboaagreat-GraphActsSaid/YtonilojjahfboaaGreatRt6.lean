/- Reference 16: Valued. Conditions: the contract's own premises. (Printed by gen_rt6.py.) -/
import Derived.Test.YtonilojjahfboaaGreatRt1
import Derived.Test.YtonilojjahfboaaGreatRtA
import Derived.Test.YtonilojjahfboaaGreatRsA
import Derived.Deep.Cut
import Derived.Deep.CutRange
import Derived.Deep.RegionHeld3
namespace Go.Proofs.YtonilojjahfboaaGreat
open Go.RowKit Go.Maps

theorem takeW_congr {α : Type} {p q : α → Bool} : ∀ {l : List α}, (∀ z ∈ l, p z = q z) → l.takeWhile p = l.takeWhile q
  | [], _ => rfl
  | x :: l, h => by
    rw [List.takeWhile_cons, List.takeWhile_cons, h x (by simp), takeW_congr (fun z hz => h z (by simp [hz]))]
theorem dropW_congr {α : Type} {p q : α → Bool} : ∀ {l : List α}, (∀ z ∈ l, p z = q z) → l.dropWhile p = l.dropWhile q
  | [], _ => rfl
  | x :: l, h => by
    rw [List.dropWhile_cons, List.dropWhile_cons, h x (by simp), dropW_congr (fun z hz => h z (by simp [hz]))]
theorem while_at {α : Type} {p : α → Bool} : ∀ {l : List α} {j : Nat}, (∀ i y, i < j → l[i]? = some y → p y = true) → (∀ y, l[j]? = some y → p y = false) → l.takeWhile p = l.take j ∧ l.dropWhile p = l.drop j
  | [], j, _, _ => by simp
  | x :: l, 0, _, h => by
    have := h x rfl
    rw [List.takeWhile_cons, List.dropWhile_cons, this]
    simp
  | x :: l, j + 1, h1, h2 => by
    have hx := h1 0 x (by omega) rfl
    obtain ⟨a, b⟩ := while_at (l := l) (j := j) (fun i y hi hy => h1 (i + 1) y (by omega) hy) (fun y hy => h2 y hy)
    rw [List.takeWhile_cons, List.dropWhile_cons, hx, if_pos rfl, if_pos rfl, a, b]
    exact ⟨rfl, rfl⟩
/-- behind the last that is not more -/
def leV (V : List Vt) (key : ByteArray) (id z : Int) : Bool := decide ((vo (getV V z) key).cmp (vo (getV V id) key) ≤ 0)
def insV (V : List Vt) (key : ByteArray) (m : List Int) (id : Int) : List Int := m.takeWhile (leV V key id) ++ id :: m.dropWhile (leV V key id)
def stepV (V : List Vt) (key : ByteArray) (low high : Vl) (m : List Int) (id : Int) : List Int := if outS (vo (getV V id) key) (vq (getV V id) key) low high then m else insV V key m id
theorem insV_put {V : List Vt} {L : List Int} {key : ByteArray} {m : List Int} {x : Int} (hm : ∀ z ∈ m, z ∈ L) (hx : x ∈ L) : insV V key m x = Srt.putK (keyV V L key) m x := by
  have hp : ∀ z ∈ m, leV V key x z = decide (keyV V L key z ≤ keyV V L key x) := fun z hz => by
    have h1 := rankV_lt (l := L.map fun z => vo (getV V z) key) (x := vo (getV V x) key) (y := vo (getV V z) key) (List.mem_map.2 ⟨x, hx, rfl⟩)
    have h2 := Vl.cmpN (vo (getV V x) key) (vo (getV V z) key)
    unfold leV
    refine decide_eq_decide.2 ?_
    show _ ↔ rankV (L.map fun z => vo (getV V z) key) (vo (getV V z) key) ≤ rankV (L.map fun z => vo (getV V z) key) (vo (getV V x) key)
    omega
  unfold insV Srt.putK
  rw [takeW_congr hp, dropW_congr hp]
theorem fold_ins {V : List Vt} {L : List Int} {key : ByteArray} : ∀ (s m : List Int), (∀ z ∈ s, z ∈ L) → (∀ z ∈ m, z ∈ L) → s.foldl (insV V key) m = s.foldl (Srt.putK (keyV V L key)) m
  | [], _, _, _ => rfl
  | x :: s, m, hs, hm => by
    rw [List.foldl_cons, List.foldl_cons, insV_put hm (hs x (by simp))]
    refine fold_ins s _ (fun z hz => hs z (by simp [hz])) (fun z hz => ?_)
    rcases List.mem_cons.1 ((Srt.putK_perm _ _ _).mem_iff.1 hz) with rfl | h
    · exact hs z (by simp)
    · exact hm z h
theorem valL_fold (V : List Vt) (lab key : ByteArray) (low high : Vl) : valL V lab key low high = (labL V lab).foldl (stepV V key low high) [] := by
  unfold valL Srt.sortK
  rw [← fold_ins (V := V) (key := key) (spanL V lab key low high) [] (fun z hz => hz) (fun z hz => by cases hz)]
  unfold spanL
  rw [List.foldl_filter]
  congr 1
  funext m x
  unfold stepV
  cases outS (vo (getV V x) key) (vq (getV V x) key) low high <;> rfl
theorem insV_len (V : List Vt) (key : ByteArray) (m : List Int) (id : Int) : (insV V key m id).length = m.length + 1 := by
  unfold insV
  have := congrArg List.length (List.takeWhile_append_dropWhile (p := leV V key id) (l := m))
  rw [List.length_append] at this
  rw [List.length_append, List.length_cons]
  omega
theorem stepV_len (V : List Vt) (key : ByteArray) (low high : Vl) : ∀ (s m : List Int), (s.foldl (stepV V key low high) m).length ≤ m.length + s.length
  | [], _ => Nat.le_refl _
  | x :: s, m => by
    rw [List.foldl_cons]
    have h1 := stepV_len V key low high s (stepV V key low high m x)
    have h2 : (stepV V key low high m x).length ≤ m.length + 1 := by
      unfold stepV
      split
      · omega
      · rw [insV_len]; exact Nat.le_refl _
    rw [List.length_cons]
    omega
theorem stepV_sub (V : List Vt) (key : ByteArray) (low high : Vl) : ∀ (s m : List Int), ∀ z ∈ s.foldl (stepV V key low high) m, z ∈ m ∨ z ∈ s
  | [], _, z, h => .inl h
  | x :: s, m, z, h => by
    rw [List.foldl_cons] at h
    rcases stepV_sub V key low high s _ z h with h | h
    · unfold stepV at h
      split at h
      · exact .inl h
      · unfold insV at h
        rcases List.mem_append.1 h with h | h
        · exact .inl ((List.takeWhile_sublist _).subset h)
        · rcases List.mem_cons.1 h with rfl | h
          · exact .inr (by simp)
          · exact .inl ((List.dropWhile_sublist _).subset h)
    · exact .inr (by simp [h])
theorem infoVl : (Tryz.prog.info? 98).map (fun i => (i.zero, i.size, i.bytes)) = some (some (.agg #[.int .i64 0, .int .i64 0, .string ByteArray.empty]), 3, 32) := by kernel_rfl
def Vl.enc3 (v : Vl) : List Value := [.int .i64 v.kind, .int .i64 v.n, .string v.s]
def kVl : RowK Tryz.prog Vl where
  t := 331
  e := 98
  size := 3
  bytes := 32
  z := .agg #[.int .i64 0, .int .i64 0, .string ByteArray.empty]
  enc := Vl.enc3
  ht := Tryz.underlying331
  info := infoVl
  hz := rfl
  pos := by decide
  small := by decide
  len := fun _ => rfl
  one := fun x u hu => by
    simp [Vl.enc3] at hu
    rcases hu with rfl | rfl | rfl <;> rfl
set_option maxRecDepth 100000 in
set_option maxHeartbeats 8000000 in
theorem r16valued_any {w : World} {rb : Nat} {VL : List Vr} (h : RgV w rb VL) (lab key : ByteArray) (low high : Vl) :
    Calls Tryz.prog 148 #[.pointer (some ⟨rb, 0, none⟩), .string lab, .string key, .agg #[.int .i64 low.kind, .int .i64 low.n, .string low.s], .agg #[.int .i64 high.kind, .int .i64 high.n, .string high.s]] w (VdPost w (valL (VL.map Vr.v) lab key low high)) := by
  obtain ⟨W, hW⟩ : ∃ W, W = (w.alloc (.cells #[.int .i64 low.kind, .int .i64 low.n, .string low.s] 98)).alloc (.cells #[.int .i64 high.kind, .int .i64 high.n, .string high.s] 98) := ⟨_, rfl⟩
  have hBW : Below w.heap.size w W := by rw [hW]; exact (below_box w _).alloc (by simp) _
  obtain ⟨lb, hlb⟩ : ∃ b, b = w.heap.size := ⟨_, rfl⟩
  have eL : W.heap[lb]? = some (.cells #[.int .i64 low.kind, .int .i64 low.n, .string low.s] 98 (0, 0)) := by rw [hW, hlb]; exact (Below.heap_alloc _ _ _ (by simp)).trans (heap_new w _)
  have eH : W.heap[lb + 1]? = some (.cells #[.int .i64 high.kind, .int .i64 high.n, .string high.s] 98 (0, 0)) := by rw [hW, hlb]; exact heap_new2 w _ _
  have HLH : Hid (∀ u, Below W.heap.size W u → (u.cell? ⟨lb, 0, none⟩ = some (.int .i64 low.kind) ∧ u.cell? ⟨lb, 1, none⟩ = some (.int .i64 low.n) ∧ u.cell? ⟨lb, 2, none⟩ = some (.string low.s)) ∧ (u.cell? ⟨lb + 1, 0, none⟩ = some (.int .i64 high.kind) ∧ u.cell? ⟨lb + 1, 1, none⟩ = some (.int .i64 high.n) ∧ u.cell? ⟨lb + 1, 2, none⟩ = some (.string high.s)) ∧ lb < u.heap.size ∧ lb + 1 < u.heap.size) := Lib.hid (fun u hu => by
    have e1 := (hu.block _ (Array.getElem?_eq_some_iff.1 eL).1).trans eL
    have e2 := (hu.block _ (Array.getElem?_eq_some_iff.1 eH).1).trans eH
    exact ⟨⟨by rw [cell_of_blk e1]; rfl, by rw [cell_of_blk e1]; rfl, by rw [cell_of_blk e1]; rfl⟩, ⟨by rw [cell_of_blk e2]; rfl, by rw [cell_of_blk e2]; rfl, by rw [cell_of_blk e2]; rfl⟩, (Array.getElem?_eq_some_iff.1 e1).1, (Array.getElem?_eq_some_iff.1 e2).1⟩)
  have hG := h.below hBW
  have HG := Lib.hid hG
  have HLB : Hid (Calls Tryz.prog 147 #[.pointer (some ⟨rb, 0, none⟩), .string lab] W (LbPost W (labL (VL.map Vr.v) lab))) := Lib.hid (by
    obtain ⟨⟨va, vc, c0, hv⟩, _, hl, _⟩ := hG
    exact r16labeled_any c0 hv hl lab)
  obtain ⟨V, hV⟩ : ∃ V, V = VL.map Vr.v := ⟨_, rfl⟩
  have HV := Lib.hid hV
  rw [← hV] at HLB ⊢
  have HBW := Lib.hid hBW
  have HW := Lib.hid hW
  have HLE := Lib.hid hlb
  clear h hW hBW hlb eL eH hG hV
  go_enter Tryz.func148, Tryz.ntmps148
  go_upto_region 1 with fail
  rw [← HW.out, ← HLE.out]
  go_upto_region 4 with (go_at_call 147; (with_reducible refine HLB.out.mono ?_); rintro e w1 ⟨v, rfl, o1, b1⟩; obtain ⟨ia, ic, rfl⟩ := o1.shape; have HO1 := Lib.hid o1; have HB1 := Lib.hid b1; clear o1 b1)
  obtain ⟨ids, hids⟩ : ∃ l, l = labL V lab := ⟨_, rfl⟩
  rw [← hids] at HO1 ⊢
  have HIL : Hid (ids.length ≤ 1000000) := Lib.hid (by rw [hids]; refine Nat.le_trans (labL_len _ _) ?_; rw [HV.out, List.length_map]; exact HG.out.len)
  have HIM : Hid (∀ z ∈ ids, ∃ (i : Nat) (x : Vr), VL[i]? = some x ∧ x.v.id = z ∧ getV V z = x.v) := Lib.hid (by
    intro z hz
    rw [hids] at hz
    obtain ⟨y, hy, rfl⟩ := labL_mem hz
    have hg := getV_mem (V := V) (by rw [HV.out]; exact HG.out.so) hy
    rw [HV.out] at hy
    obtain ⟨x, hx, rfl⟩ := List.mem_map.1 hy
    obtain ⟨i, hi⟩ := List.getElem?_of_mem hx
    exact ⟨i, x, hi, rfl, hg⟩)
  have HEND0 : Hid (valL V lab key low high = ids.foldl (stepV V key low high) []) := Lib.hid (by rw [hids]; exact valL_fold V lab key low high)
  clear hids
  go_wp2_with fail
  go_loopw [11, 12, 14] (fun v1 v2 i wr => ∃ (j : Nat) (O : List Int), i = .int .i64 j ∧ j ≤ ids.length ∧ Hid (O = (ids.take j).foldl (stepV V key low high) []) ∧ Hid (kI.Own wr w1.heap.size v1 O ∧ kVl.Own wr w1.heap.size v2 (O.map fun z => vo (getV V z) key) ∧ Below w1.heap.size w1 wr)) (fun _ _ i _ => ids.length - (intOf i).toNat)
  case atStart => exact ⟨0, [], rfl, Nat.zero_le _, Lib.hid (by rw [List.take_zero]; rfl), Lib.hid ⟨RowK.Own.nil kI _ _, RowK.Own.nil kVl _ _, Below.refl _ _⟩⟩
  case round =>
    obtain ⟨j, O, rfl, hj, HOE, HI⟩ := hrel
    obtain ⟨oa, oc, rfl⟩ := HI.out.1.shape
    obtain ⟨pa, pc, rfl⟩ := HI.out.2.1.shape
    have hil := HIL.out
    have HOL : Hid (O.length ≤ j) := Lib.hid (by rw [HOE.out]; have := stepV_len V key low high (ids.take j) []; rw [List.length_take] at this; simp at this; omega)
    rw [List.length_map]
    obtain ⟨on, hon⟩ : ∃ n, n = O.length := ⟨_, rfl⟩
    rw [← hon]
    have HON := Lib.hid hon
    clear hon
    by_cases hlt : j < ids.length
    · obtain ⟨z, hz⟩ : ∃ z, ids[j]? = some z := ⟨_, List.getElem?_eq_getElem hlt⟩
      obtain ⟨i, x, hx, hxz, hgz⟩ := HIM.out z (List.mem_of_getElem? hz)
      have tj : decide ((j : Int) < (ids.length : Int)) = true := decide_eq_true (by omega)
      have hjz : (j : Int) < (ids.length : Int) := by omega
      obtain ⟨ib, icap, hsl, _, _, hati⟩ := (HO1.out.below HI.out.2.2).at' (fun e => by rw [e] at hlt; simp at hlt)
      injection hsl with e1 e2 e3
      subst e1
      clear e2 e3
      have q0 := hati.cells j z hz 0 _ rfl
      simp [kI] at q0
      have hibl := hati.lt
      have HIC : Hid (∀ u, Below wr.heap.size wr u → u.cell? ⟨ib, j, none⟩ = some (.int .i64 z) ∧ ib < u.heap.size) := Lib.hid (fun u hu => ⟨(hu.cell (p := ⟨ib, _, none⟩) hibl).trans q0, Nat.lt_of_lt_of_le hibl hu.size⟩)
      have HBR : Hid (Below W.heap.size W wr) := Lib.hid (HB1.out.trans (HI.out.2.2.mono HB1.out.size))
      have HRV : Hid (Calls Tryz.prog 59 #[.pointer (some ⟨rb, 0, none⟩), .int .i64 z, .string key] wr (V1Post wr (vo (getV V z) key) (vq (getV V z) key))) := Lib.hid (by
        obtain ⟨⟨va', vc', c0', hv'⟩, hps, hl', hs'⟩ := HG.out.below HBR.out
        rw [hgz, ← hxz]
        exact r16value_any c0' hv' hl' hs' hx (hps x (List.mem_of_getElem? hx)).1 (hps x (List.mem_of_getElem? hx)).2 key)
      have HVO : Hid ((vo (getV V z) key).Ok) := Lib.hid (by
        rw [hgz]
        exact vo_ok (fun p hp => by
          have := (HG.out.ps x (List.mem_of_getElem? hx)).1
          obtain ⟨_, _, _, hat⟩ := this (fun e => by rw [e] at hp; cases hp)
          exact hat.ok p hp) key)
      have HNX : Hid (∀ O', O' = stepV V key low high O z → O' = (ids.take (j + 1)).foldl (stepV V key low high) []) := Lib.hid (fun O' h => by
        rw [List.take_add_one, hz, List.foldl_append, ← HOE.out, h]; rfl)
      obtain ⟨⟨vk, vn, vs⟩, hvx⟩ : ∃ v, vo (getV V z) key = v := ⟨_, rfl⟩
      obtain ⟨q, hq⟩ : ∃ v, vq (getV V z) key = v := ⟨_, rfl⟩
      have HST : Hid (stepV V key low high O z = if outS ⟨vk, vn, vs⟩ q low high then O else insV V key O z) := Lib.hid (by unfold stepV; rw [hvx, hq])
      have HVX := Lib.hid hvx
      rw [hvx] at HVO
      rw [hvx, hq] at HRV
      unfold V1Post at HRV
      clear hz hx hxz hgz hati hvx hq
      go_upto_region 8 with (go_at_call 59; (with_reducible refine HRV.out.mono ?_); rintro e w2 ⟨rfl, b2⟩; have HB2 := Lib.hid b2; clear b2)
      obtain ⟨U, hU⟩ : ∃ U, U = w2.alloc (.cells #[.int .i64 vk, .int .i64 vn, .string vs] 98) := ⟨_, rfl⟩
      obtain ⟨xb, hxb⟩ : ∃ b, b = w2.heap.size := ⟨_, rfl⟩
      have hBU : Below wr.heap.size wr U := below_then HB2.out (by rw [hU]; exact below_box _ _)
      have eX : U.heap[xb]? = some (.cells #[.int .i64 vk, .int .i64 vn, .string vs] 98 (0, 0)) := by rw [hU, hxb]; exact heap_new _ _
      rw [← hU, ← hxb]
      have HXB : Hid (∀ u, Below U.heap.size U u → (u.cell? ⟨xb, 0, none⟩ = some (.int .i64 vk) ∧ u.cell? ⟨xb, 1, none⟩ = some (.int .i64 vn) ∧ u.cell? ⟨xb, 2, none⟩ = some (.string vs)) ∧ xb < u.heap.size) := Lib.hid (fun u hu => by
        have e := (hu.block _ (Array.getElem?_eq_some_iff.1 eX).1).trans eX
        exact ⟨⟨by rw [cell_of_blk e]; rfl, by rw [cell_of_blk e]; rfl, by rw [cell_of_blk e]; rfl⟩, (Array.getElem?_eq_some_iff.1 e).1⟩)
      have HBU := Lib.hid hBU
      have HBWU : Hid (Below W.heap.size W U) := Lib.hid (HBR.out.trans (hBU.mono HBR.out.size))
      clear hU hxb hBU eX q0 hibl tj hjz
      have HC1a : ∀ u, Calls Tryz.prog 60 #[.agg #[.int .i64 vk, .int .i64 vn, .string vs], .agg #[.int .i64 low.kind, .int .i64 low.n, .string low.s]] u fun e w' => e = .returned (.int .i64 (Vl.cmp ⟨vk, vn, vs⟩ low)) ∧ Below u.heap.size u w' := fun u => r2compare_any ⟨vk, vn, vs⟩ low u HVO.out
      have HC2a : ∀ u, Calls Tryz.prog 60 #[.agg #[.int .i64 vk, .int .i64 vn, .string vs], .agg #[.int .i64 high.kind, .int .i64 high.n, .string high.s]] u fun e w' => e = .returned (.int .i64 (Vl.cmp ⟨vk, vn, vs⟩ high)) ∧ Below u.heap.size u w' := fun u => r2compare_any ⟨vk, vn, vs⟩ high u HVO.out
      unfold outS at HST
      obtain ⟨c1, hc1⟩ : ∃ c, Vl.cmp ⟨vk, vn, vs⟩ low = c := ⟨_, rfl⟩
      obtain ⟨c2, hc2⟩ : ∃ c, Vl.cmp ⟨vk, vn, vs⟩ high = c := ⟨_, rfl⟩
      obtain ⟨d1, hd1⟩ : ∃ p, decide (c1 < 0) = p := ⟨_, rfl⟩
      obtain ⟨d2, hd2⟩ : ∃ p, decide (0 < c2) = p := ⟨_, rfl⟩
      rw [hc1, hc2, hd1, hd2] at HST
      simp only [hc1] at HC1a
      simp only [hc2] at HC2a
      have HC1 := Lib.hid HC1a
      have HC2 := Lib.hid HC2a
      clear HC1a HC2a hc1 hc2
      obtain ⟨⟨l0, l1, l2⟩, ⟨g0, g1, g2⟩, zl, zh⟩ := HLH.out U HBWU.out
      obtain ⟨⟨x0, x1, x2⟩, xl⟩ := HXB.out U (Below.refl _ _)
      have HSAME : Hid (∀ u, Below U.heap.size U u → (!q || d1 || d2) = true → kI.Own u w1.heap.size (.slice oa on oc) O ∧ kVl.Own u w1.heap.size (.slice pa on pc) (O.map fun z => vo (getV V z) key) ∧ Below w1.heap.size w1 u ∧ O = (ids.take (j + 1)).foldl (stepV V key low high) []) := Lib.hid (fun u hu ho => by
        have hb : Below wr.heap.size wr u := below_then HBU.out hu
        have h2 := HI.out.2.1.below hb
        rw [List.length_map] at h2
        rw [HON.out]
        exact ⟨HI.out.1.below hb, h2, below_then HI.out.2.2 hb, HNX.out O (by rw [HST.out, ho]; rfl)⟩)
      cases q
      · go_wp2_with fail
        obtain ⟨r1, r2, r3, r4⟩ := HSAME.out U (Below.refl _ _) rfl
        exact ⟨⟨j + 1, O, by simp, hlt, Lib.hid r4, Lib.hid ⟨r1, r2, r3⟩⟩, by simp [intOf]; omega⟩
      go_wp2_with fail
      refine (HC1.out U).mono ?_
      rintro e u1 ⟨rfl, bu1⟩
      have HU1 := Lib.hid bu1
      obtain ⟨⟨l0', l1', l2'⟩, ⟨g0', g1', g2'⟩, zl', zh'⟩ := HLH.out u1 (HBWU.out.trans (bu1.mono HBWU.out.size))
      obtain ⟨⟨x0', x1', x2'⟩, xl'⟩ := HXB.out u1 bu1
      clear bu1 l0 l1 l2 g0 g1 g2 zl zh x0 x1 x2 xl
      cases d1
      case true =>
        go_wp2_with fail
        obtain ⟨r1, r2, r3, r4⟩ := HSAME.out u1 HU1.out rfl
        exact ⟨⟨j + 1, O, by simp, hlt, Lib.hid r4, Lib.hid ⟨r1, r2, r3⟩⟩, by simp [intOf]; omega⟩
      go_wp2_with fail
      refine (HC2.out u1).mono ?_
      rintro e u2 ⟨rfl, bu2⟩
      have HU2 := Lib.hid (below_then HU1.out bu2)
      clear bu2 l0' l1' l2' g0' g1' g2' zl' zh' x0' x1' x2' xl'
      cases d2
      case true =>
        go_wp2_with fail
        obtain ⟨r1, r2, r3, r4⟩ := HSAME.out u2 HU2.out rfl
        exact ⟨⟨j + 1, O, by simp, hlt, Lib.hid r4, Lib.hid ⟨r1, r2, r3⟩⟩, by simp [intOf]; omega⟩
      have HST2 : Hid (stepV V key low high O z = insV V key O z) := Lib.hid (by rw [HST.out]; rfl)
      clear HST HSAME
      go_upto_region 9 with fail
      clear hd1 hd2
      go_wp2_with fail
      obtain ⟨wo, rfl⟩ : ∃ wo : World, wo = wr := ⟨_, rfl⟩
      have HBO : Hid (Below wo.heap.size wo u2) := Lib.hid (below_then HBU.out HU2.out)
      go_loopw [17] (fun iv wr => ∃ t : Nat, iv = .int .i64 t ∧ t ≤ on ∧ Hid (∀ i' y, i' < t → O[i']? = some y → leV V key z y = true) ∧ Hid (Below u2.heap.size u2 wr)) (fun iv _ => on - (intOf iv).toNat)
      case atStart => exact ⟨0, rfl, Nat.zero_le _, Lib.hid (fun _ _ h => absurd h (Nat.not_lt_zero _)), Lib.hid (Below.refl _ _)⟩
      case round =>
        obtain ⟨t, rfl, ht, HLT, HBW2⟩ := hrel
        have hon : on ≤ 1000000 := by have := HON.out; have := HOL.out; omega
        have HB0 : Hid (Below wo.heap.size wo wr) := Lib.hid (HBO.out.trans (HBW2.out.mono HBO.out.size))
        have HUX : Hid (Below U.heap.size U wr) := Lib.hid (HU2.out.trans (HBW2.out.mono HU2.out.size))
        have HOo := Lib.hid (HI.out.1.below HB0.out)
        have HOp := Lib.hid (HI.out.2.1.below HB0.out)
        rw [← HON.out] at HOo
        rw [List.length_map, ← HON.out] at HOp
        obtain ⟨D, hD⟩ : ∃ D, D = O.map fun z => vo (getV V z) key := ⟨_, rfl⟩
        have HD := Lib.hid hD
        rw [← hD] at HOp
        have HDL : Hid (D.length = on) := Lib.hid (by rw [hD, List.length_map, HON.out])
        clear hD
        by_cases htn : t < on
        · obtain ⟨y, hy⟩ : ∃ y, O[t]? = some y := ⟨_, List.getElem?_eq_getElem (by rw [← HON.out]; exact htn)⟩
          obtain ⟨⟨yk, yn, ys⟩, hyv⟩ : ∃ v, v = vo (getV V y) key := ⟨_, rfl⟩
          have hdy : D[t]? = some ⟨yk, yn, ys⟩ := by rw [HD.out, List.getElem?_map, hy, hyv]; rfl
          have HYO : Hid ((⟨yk, yn, ys⟩ : Vl).Ok) := Lib.hid (by
            rw [hyv]
            have hm : y ∈ ids := by
              have h := List.mem_of_getElem? hy
              rw [HOE.out] at h
              rcases stepV_sub V key low high _ _ y h with h | h
              · cases h
              · exact List.mem_of_mem_take h
            obtain ⟨i', x', hx', _, hg'⟩ := HIM.out y hm
            rw [hg']
            exact vo_ok (fun p hp => by
              have := (HG.out.ps x' (List.mem_of_getElem? hx')).1
              obtain ⟨_, _, _, hat⟩ := this (fun e => by rw [e] at hp; cases hp)
              exact hat.ok p hp) key)
          obtain ⟨pb, pcp, hsl, _, _, hatp⟩ := HOp.out.at' (fun e => by rw [e] at hdy; simp at hdy)
          injection hsl with e1 e2 e3
          subst e1
          clear e2 e3
          have y0 := hatp.cells t _ hdy 0 _ rfl
          have y1 := hatp.cells t _ hdy 1 _ rfl
          have y2 := hatp.cells t _ hdy 2 _ rfl
          simp [kVl] at y0 y1 y2
          have hpl := hatp.lt
          have HS10 : Hid (∀ u, Below wr.heap.size wr u → (u.cell? ⟨pb, t * 3, none⟩ = some (.int .i64 yk) ∧ u.cell? ⟨pb, t * 3 + 1, none⟩ = some (.int .i64 yn) ∧ u.cell? ⟨pb, t * 3 + 2, none⟩ = some (.string ys)) ∧ (u.cell? ⟨xb, 0, none⟩ = some (.int .i64 vk) ∧ u.cell? ⟨xb, 1, none⟩ = some (.int .i64 vn) ∧ u.cell? ⟨xb, 2, none⟩ = some (.string vs)) ∧ pb < u.heap.size ∧ xb < u.heap.size) := Lib.hid (fun u hu => by
            obtain ⟨x3, xl⟩ := HXB.out u (HUX.out.trans (hu.mono HUX.out.size))
            exact ⟨⟨(hu.cell (p := ⟨pb, _, none⟩) hpl).trans y0, (hu.cell (p := ⟨pb, _, none⟩) hpl).trans y1, (hu.cell (p := ⟨pb, _, none⟩) hpl).trans y2⟩, x3, Nat.lt_of_lt_of_le hpl hu.size, xl⟩)
          have HCY : Hid (∀ u, Calls Tryz.prog 60 #[.agg #[.int .i64 yk, .int .i64 yn, .string ys], .agg #[.int .i64 vk, .int .i64 vn, .string vs]] u fun e w' => e = .returned (.int .i64 (Vl.cmp ⟨yk, yn, ys⟩ ⟨vk, vn, vs⟩)) ∧ Below u.heap.size u w') := Lib.hid (fun u => r2compare_any ⟨yk, yn, ys⟩ ⟨vk, vn, vs⟩ u HYO.out)
          obtain ⟨cy, hcy⟩ : ∃ c, c = Vl.cmp ⟨yk, yn, ys⟩ ⟨vk, vn, vs⟩ := ⟨_, rfl⟩
          rw [← hcy] at HCY
          have HLE : Hid (leV V key z y = decide (cy ≤ 0)) := Lib.hid (by unfold leV; rw [HVX.out, ← hyv, hcy])
          have tt : decide ((t : Int) < (on : Int)) = true := decide_eq_true (by omega)
          have htz : (t : Int) < (on : Int) := by omega
          have HY := Lib.hid hy
          clear hy hdy hyv hatp y0 y1 y2 hpl hcy
          go_upto_region 10 with fail
          go_cut [65] from 53 to 64 (fun sv wc => ∃ u : World, u = wc ∧ sv = .bool (decide (cy ≤ 0)) ∧ Hid (Below wr.heap.size wr u))
          case first =>
            as_aux_lemma =>
              refine wp_region_held_drew (S := fun u => (u.cell? ⟨pb, t * 3, none⟩ = some (.int .i64 yk) ∧ u.cell? ⟨pb, t * 3 + 1, none⟩ = some (.int .i64 yn) ∧ u.cell? ⟨pb, t * 3 + 2, none⟩ = some (.string ys)) ∧ (u.cell? ⟨xb, 0, none⟩ = some (.int .i64 vk) ∧ u.cell? ⟨xb, 1, none⟩ = some (.int .i64 vn) ∧ u.cell? ⟨xb, 2, none⟩ = some (.string vs)) ∧ pb < u.heap.size ∧ xb < u.heap.size) (by kernel_rfl) (HS10.out _ (Below.refl _ _).drew) (fun hHeld => ?_)
              refine wpAnyH_take (i := 0) (v := ?_) rfl (by kernel_rfl) (by kernel_rfl) (by kernel_rfl) (fun _ _ _ h => h) (Or.inl ⟨by kernel_rfl, ?_⟩) (by assumption) ?_
              rotate_left
              · intro w hSw; (try dsimp only at hSw); go_simp; first | done | with_reducible rfl
              simp only [List.getElem_toArray, List.getElem_cons_zero, Act.put, List.setIfInBounds_toArray, List.set_cons_zero, List.set_cons_succ]
              refine wpAnyH_take (i := 1) (v := ?_) rfl (by kernel_rfl) (by kernel_rfl) (by kernel_rfl) (fun _ _ _ h => h) (Or.inl ⟨by kernel_rfl, ?_⟩) (by assumption) ?_
              rotate_left
              · intro w hSw; (try dsimp only at hSw); go_simp; first | done | with_reducible rfl
              simp only [List.getElem_toArray, List.getElem_cons_succ, List.getElem_cons_zero, Act.put, List.setIfInBounds_toArray, List.set_cons_zero, List.set_cons_succ]
              refine wpAnyH_take (i := 2) (v := ?_) rfl (by kernel_rfl) (by kernel_rfl) (by kernel_rfl) (fun _ _ _ h => h) (Or.inl ⟨by kernel_rfl, ?_⟩) (by assumption) ?_
              rotate_left
              · intro w hSw; (try dsimp only at hSw); go_simp; first | done | with_reducible rfl
              simp only [List.getElem_toArray, List.getElem_cons_succ, List.getElem_cons_zero, Act.put, List.setIfInBounds_toArray, List.set_cons_zero, List.set_cons_succ]
              refine wpAnyH_take (i := 3) (v := ?_) rfl (by kernel_rfl) (by kernel_rfl) (by kernel_rfl) (fun _ _ _ h => h) (Or.inl ⟨by kernel_rfl, ?_⟩) (by assumption) ?_
              rotate_left
              · intro w hSw; (try dsimp only at hSw); go_simp; first | done | with_reducible rfl
              simp only [List.getElem_toArray, List.getElem_cons_succ, List.getElem_cons_zero, Act.put, List.setIfInBounds_toArray, List.set_cons_zero, List.set_cons_succ]
              refine wpAnyH_take (i := 4) (v := ?_) rfl (by kernel_rfl) (by kernel_rfl) (by kernel_rfl) (fun _ _ _ h => h) (Or.inl ⟨by kernel_rfl, ?_⟩) (by assumption) ?_
              rotate_left
              · intro w hSw; (try dsimp only at hSw); go_simp; first | done | with_reducible rfl
              simp only [List.getElem_toArray, List.getElem_cons_succ, List.getElem_cons_zero, Act.put, List.setIfInBounds_toArray, List.set_cons_zero, List.set_cons_succ]
              refine wpAnyH_take (i := 5) (v := ?_) rfl (by kernel_rfl) (by kernel_rfl) (by kernel_rfl) (fun _ _ _ h => h) (Or.inl ⟨by kernel_rfl, ?_⟩) (by assumption) ?_
              rotate_left
              · intro w hSw; (try dsimp only at hSw); go_simp; first | done | with_reducible rfl
              simp only [List.getElem_toArray, List.getElem_cons_succ, List.getElem_cons_zero, Act.put, List.setIfInBounds_toArray, List.set_cons_zero, List.set_cons_succ]
              refine wpAnyH_take (i := 6) (v := ?_) rfl (by kernel_rfl) (by kernel_rfl) (by kernel_rfl) (fun _ _ _ h => h) (Or.inl ⟨by kernel_rfl, ?_⟩) (by assumption) ?_
              rotate_left
              · intro w hSw; (try dsimp only at hSw); go_simp; first | done | with_reducible rfl
              simp only [List.getElem_toArray, List.getElem_cons_succ, List.getElem_cons_zero, Act.put, List.setIfInBounds_toArray, List.set_cons_zero, List.set_cons_succ]
              refine wpAnyH_take (i := 7) (v := ?_) rfl (by kernel_rfl) (by kernel_rfl) (by kernel_rfl) (fun _ _ _ h => h) (Or.inl ⟨by kernel_rfl, ?_⟩) (by assumption) ?_
              rotate_left
              · intro w hSw; (try dsimp only at hSw); go_simp; first | done | with_reducible rfl
              simp only [List.getElem_toArray, List.getElem_cons_succ, List.getElem_cons_zero, Act.put, List.setIfInBounds_toArray, List.set_cons_zero, List.set_cons_succ]
              refine wpAnyH_take (i := 8) (v := ?_) rfl (by kernel_rfl) (by kernel_rfl) (by kernel_rfl) (fun _ _ _ h => h) (Or.inl ⟨by kernel_rfl, ?_⟩) (by assumption) ?_
              rotate_left
              · intro w hSw; (try dsimp only at hSw); go_simp; first | done | with_reducible rfl
              simp only [List.getElem_toArray, List.getElem_cons_succ, List.getElem_cons_zero, Act.put, List.setIfInBounds_toArray, List.set_cons_zero, List.set_cons_succ]
              refine wpAnyH_take (i := 9) (v := ?_) rfl (by kernel_rfl) (by kernel_rfl) (by kernel_rfl) (fun _ _ _ h => h) (Or.inl ⟨by kernel_rfl, ?_⟩) (by assumption) ?_
              rotate_left
              · intro w hSw; (try dsimp only at hSw); go_simp; first | done | with_reducible rfl
              simp only [List.getElem_toArray, List.getElem_cons_succ, List.getElem_cons_zero, Act.put, List.setIfInBounds_toArray, List.set_cons_zero, List.set_cons_succ]
              refine wpAnyH_ready (rs := [10]) (by kernel_rfl) (by simp) ?_
              refine AllReadyH.cons rfl (fun K hK => ?_) AllReadyH.nil
              go_simp
              (with_reducible refine (HCY.out _).mono ?_)
              rintro e v9 ⟨rfl, b9⟩
              have HB9 := Lib.hid (show Below wr.heap.size wr v9 from below_then (Below.refl _ _).drew b9)
              clear b9
              dsimp only
              refine hK.out _ _ (HS10.out _ HB9.out) (fun hHeld2 => ?_)
              clear hK K
              try simp only [List.getElem_toArray, List.getElem_cons_succ, List.getElem_cons_zero, Act.put, List.setIfInBounds_toArray, List.set_cons_zero, List.set_cons_succ]
              refine wpAnyH_take (i := 11) (v := ?_) rfl (by kernel_rfl) (by kernel_rfl) (by kernel_rfl) (fun _ _ _ h => h) (Or.inl ⟨by kernel_rfl, ?_⟩) (by assumption) ?_
              rotate_left
              · intro w hSw; (try dsimp only at hSw); go_simp; first | done | with_reducible rfl
              simp only [List.getElem_toArray, List.getElem_cons_succ, List.getElem_cons_zero, Act.put, List.setIfInBounds_toArray, List.set_cons_zero, List.set_cons_succ]
              refine wpAnyH_take (i := 12) (v := ?_) rfl (by kernel_rfl) (by kernel_rfl) (by kernel_rfl) (fun _ _ _ h => h) (Or.inl ⟨by kernel_rfl, ?_⟩) (by assumption) ?_
              rotate_left
              · intro w hSw; (try dsimp only at hSw); go_simp; first | done | with_reducible rfl
              simp only [List.getElem_toArray, List.getElem_cons_succ, List.getElem_cons_zero, Act.put, List.setIfInBounds_toArray, List.set_cons_zero, List.set_cons_succ]
              refine wpAnyH_done (by kernel_rfl) ?_ _
              go_wp2_with fail
              go_meet
              exact ⟨_, rfl, rfl, HB9⟩
          case rest =>
          obtain ⟨u3, rfl, rfl, HU3⟩ := hcut
          cases hdc : decide (cy ≤ 0)
          · have HGE : Hid (∀ y, O[t]? = some y → leV V key z y = false) := Lib.hid (fun y' hy' => by rw [HY.out] at hy'; injection hy' with hy'; subst hy'; rw [HLE.out, hdc])
            have HB0 : Hid (Below wo.heap.size wo u3) := Lib.hid (HB0.out.trans (HU3.out.mono HB0.out.size))
            have HUX : Hid (Below U.heap.size U u3) := Lib.hid (HUX.out.trans (HU3.out.mono HUX.out.size))
            have HOo := Lib.hid (HOo.out.below HU3.out)
            have HOp := Lib.hid (HOp.out.below HU3.out)
            clear hdc tt htz
            obtain ⟨a1, ha1⟩ : ∃ a1, kI.pfx (oa : Option Addr) oc = a1 := ⟨_, rfl⟩
            obtain ⟨a3, ha3⟩ : ∃ a3, kI.sfx (oa : Option Addr) oc t = a3 := ⟨_, rfl⟩
            obtain ⟨b1, hb1⟩ : ∃ b1, kVl.pfx ((some ⟨pb, 0, none⟩) : Option Addr) pc = b1 := ⟨_, rfl⟩
            obtain ⟨b3, hb3⟩ : ∃ b3, kVl.sfx ((some ⟨pb, 0, none⟩) : Option Addr) pc t = b3 := ⟨_, rfl⟩
            obtain ⟨n3, hn3⟩ : ∃ n3, on - t = n3 := ⟨_, rfl⟩
            obtain ⟨c3, hc3⟩ : ∃ c3, oc - t = c3 := ⟨_, rfl⟩
            obtain ⟨d3, hd3⟩ : ∃ d3, pc - t = d3 := ⟨_, rfl⟩
            have hoc : on ≤ oc := by have := HOo.out.cap; rw [HON.out]; exact this
            have hpc : on ≤ pc := by have := HOp.out.cap; rw [← HDL.out]; exact this
            have HV1 : Hid (∀ u, Below u3.heap.size u3 u → kI.V u a1 (O.take t)) := Lib.hid (fun u hu => by rw [← ha1]; exact ((HOo.out.below hu).toV).take t oc)
            have HV3 : Hid (∀ u, Below u3.heap.size u3 u → kI.V u a3 (O.drop t)) := Lib.hid (fun u hu => by rw [← ha3]; exact ((HOo.out.below hu).toV).drop (by rw [← HON.out]; exact hoc))
            have HW1 : Hid (∀ u, Below u3.heap.size u3 u → kVl.V u b1 (D.take t)) := Lib.hid (fun u hu => by rw [← hb1]; exact ((HOp.out.below hu).toV).take t pc)
            have HW3 : Hid (∀ u, Below u3.heap.size u3 u → kVl.V u b3 (D.drop t)) := Lib.hid (fun u hu => by rw [← hb3]; exact ((HOp.out.below hu).toV).drop (by rw [HDL.out]; exact hpc))
            have HNa1 : Hid (a1 = none → oc = 0) := Lib.hid (fun e => RowK.pfx_none (k := kI) (a := (oa : Option Addr)) (fun (ea : (oa : Option Addr) = none) => by first | (cases ea; done) | (have := HOo.out; rw [ea] at this; exact this.noneCap)) (ha1.trans e))
            have HNa3 : Hid (a3 = none → c3 = 0) := Lib.hid (fun e => by rw [← hc3]; exact RowK.sfx_none (k := kI) (a := (oa : Option Addr)) (fun (ea : (oa : Option Addr) = none) => by first | (cases ea; done) | (have := HOo.out; rw [ea] at this; exact this.noneCap)) (ha3.trans e))
            have HNb1 : Hid (b1 = none → pc = 0) := Lib.hid (fun e => RowK.pfx_none (k := kVl) (a := ((some ⟨pb, 0, none⟩) : Option Addr)) (fun (ea : ((some ⟨pb, 0, none⟩) : Option Addr) = none) => by first | (cases ea; done) | (have := HOp.out; rw [ea] at this; exact this.noneCap)) (hb1.trans e))
            have HNb3 : Hid (b3 = none → d3 = 0) := Lib.hid (fun e => by rw [← hd3]; exact RowK.sfx_none (k := kVl) (a := ((some ⟨pb, 0, none⟩) : Option Addr)) (fun (ea : ((some ⟨pb, 0, none⟩) : Option Addr) = none) => by first | (cases ea; done) | (have := HOp.out; rw [ea] at this; exact this.noneCap)) (hb3.trans e))
            have HL1 : Hid ((O.take t).length = t ∧ (D.take t).length = t) := Lib.hid ⟨by rw [List.length_take]; have := HON.out; omega, by rw [List.length_take]; have := HDL.out; omega⟩
            have HL3 : Hid ((O.drop t).length = n3 ∧ (D.drop t).length = n3) := Lib.hid ⟨by rw [List.length_drop, ← HON.out]; exact hn3, by rw [List.length_drop, HDL.out]; exact hn3⟩
            have HA1 := Lib.hid ha1
            have HA3 := Lib.hid ha3
            have HE1 := Lib.hid hb1
            have HE3 := Lib.hid hb3
            have HN3 := Lib.hid hn3
            have HC3 := Lib.hid hc3
            have HD3 := Lib.hid hd3
            have hto : t ≤ oc := Nat.le_trans ht hoc
            have htp : t ≤ pc := Nat.le_trans ht hpc
            clear ha1 ha3 hb1 hb3 hn3 hc3 hd3 hoc hpc
            go_upto_region 15 with (first | (refine RowK.wpList_pfx (k := kI) (o := ⟨some 71, _, _, _, _, _⟩) rfl (.tmp 69) (.tmp 70) rfl _ on oc t rfl rfl hto HA1.out ?_) | (at_builtin; refine RowK.wpList_app (k := kI) (B := u3.heap.size) (v := .slice none 0 0) (l := []) rfl (.tmp 68) (.tmp 71) rfl rfl (RowK.Own.nil kI _ _) a1 t (O.take t) oc rfl HL1.out.1 (HV1.out _ (Below.refl _ _)) HNa1.out (by rw [HL1.out.1]; simp; omega) (Nat.le_refl _) ?_; rintro v1 s1 g1; have G1 := Lib.hid g1; clear g1))
            obtain ⟨av1, cv1, hv1⟩ := G1.out.1.shape
            rw [List.nil_append, HL1.out.1] at hv1
            subst hv1
            have HS1 : Hid (Below u3.heap.size u3 s1) := Lib.hid (below_nilR G1.out.2.1)
            have HR1 : Hid (kI.Own s1 u3.heap.size (.slice av1 t cv1) (O.take t)) := Lib.hid G1.out.1
            clear G1
            go_upto_region 16 with (first | (refine RowK.wpList_pfx (k := kVl) (o := ⟨some 76, _, _, _, _, _⟩) rfl (.tmp 74) (.tmp 75) rfl _ on pc t rfl rfl htp HE1.out ?_) | (at_builtin; refine RowK.wpList_app (k := kVl) (B := s1.heap.size) (v := .slice none 0 0) (l := []) rfl (.tmp 73) (.tmp 76) rfl rfl (RowK.Own.nil kVl _ _) b1 t (D.take t) pc rfl HL1.out.2 (HW1.out _ HS1.out) HNb1.out (by rw [HL1.out.2]; simp; omega) (Nat.le_refl _) ?_; rintro v2 s2 g2; have G2 := Lib.hid g2; clear g2))
            obtain ⟨bv1, dv1, hv2⟩ := G2.out.1.shape
            rw [List.nil_append, HL1.out.2] at hv2
            subst hv2
            have hb12 : Below s1.heap.size s1 s2 := below_nilR G2.out.2.1
            have HS2 : Hid (Below u3.heap.size u3 s2) := Lib.hid (below_then HS1.out hb12)
            have HR2 := Lib.hid (HR1.out.below hb12)
            have HT2 : Hid (kVl.Own s2 u3.heap.size (.slice bv1 t dv1) (D.take t)) := Lib.hid (RowK.Own.mono (k := kVl) G2.out.1 HS1.out.size)
            clear G2 hb12
            obtain ⟨q0, hibl⟩ := HIC.out s2 (below_then HB0.out HS2.out)
            have HXV := Lib.hid (int_new s2 s2.heap.size rfl z)
            have HR2a := Lib.hid (HR2.out.alloc (.cells #[.int .i64 z] 3))
            have HT2a := Lib.hid (HT2.out.alloc (.cells #[.int .i64 z] 3))
            have HS2a := Lib.hid (below_then HS2.out (below_box s2 (.cells #[.int .i64 z] 3)))
            have HNE3 := Lib.hid (own_ne HR2a.out HT2a.out (by decide))
            have hjz : (j : Int) < (ids.length : Int) := by omega
            go_upto_region 17 with ((at_builtin; refine RowK.wpList_app (k := kI) (B := u3.heap.size) (v := .slice av1 t cv1) (l := O.take t) rfl (.tmp 78) (.tmp 83) rfl rfl HR2a.out (some ⟨s2.heap.size, 0, none⟩) 1 [z] 1 rfl rfl HXV.out (fun e => by cases e) (by rw [HL1.out.1]; simp; omega) HS2a.out.size ?_; rintro v3 s3 g3; have G3 := Lib.hid g3; clear g3))
            clear q0 hibl
            have HS3 : Hid (Below u3.heap.size u3 s3) := Lib.hid (HS2a.out.trans (below_grownR HR2a.out G3.out.2.1 HS2a.out.size))
            obtain ⟨av3, cv3, hv3⟩ := G3.out.1.shape
            subst hv3
            obtain ⟨m2, hm2⟩ : ∃ m2, m2 = (O.take t ++ [z]).length := ⟨_, rfl⟩
            rw [← hm2]
            have HR3 : Hid (kI.Own s3 u3.heap.size (.slice av3 m2 cv3) (O.take t ++ [z])) := Lib.hid (by rw [hm2]; exact G3.out.1)
            have HT3 : Hid (kVl.Own s3 u3.heap.size (.slice bv1 t dv1) (D.take t)) := Lib.hid (HT2a.out.grown G3.out.2.1 (fun q hq e => HNE3.out q e.symm hq))
            have HM2 : Hid (m2 = t + 1) := Lib.hid (by rw [hm2, List.length_append, HL1.out.1]; rfl)
            clear hm2 G3
            obtain ⟨⟨x0, x1, x2⟩, xl⟩ := HXB.out s3 (HUX.out.trans (HS3.out.mono HUX.out.size))
            have HXW : Hid (kVl.V (s3.alloc (.cells #[.int .i64 vk, .int .i64 vn, .string vs] 98)) (some ⟨s3.heap.size, 0, none⟩) [(⟨vk, vn, vs⟩ : Vl)]) := Lib.hid (fun _ => ⟨_, 0, rfl, RowK.new_at (k := kVl) (heap_new s3 _) (by simp [RowK.cells, kVl, Vl.enc3])⟩)
            have HR3a := Lib.hid (HR3.out.alloc (.cells #[.int .i64 vk, .int .i64 vn, .string vs] 98))
            have HT3a := Lib.hid (HT3.out.alloc (.cells #[.int .i64 vk, .int .i64 vn, .string vs] 98))
            have HS3a := Lib.hid (below_then HS3.out (below_box s3 (.cells #[.int .i64 vk, .int .i64 vn, .string vs] 98)))
            have HNE4 := Lib.hid (own_ne HR3a.out HT3a.out (by decide))
            go_upto_region 18 with ((at_builtin; refine RowK.wpList_app (k := kVl) (B := u3.heap.size) (v := .slice bv1 t dv1) (l := D.take t) rfl (.tmp 85) (.tmp 87) rfl rfl HT3a.out (some ⟨s3.heap.size, 0, none⟩) 1 [(⟨vk, vn, vs⟩ : Vl)] 1 rfl rfl HXW.out (fun e => by cases e) (by rw [HL1.out.2]; simp; omega) HS3a.out.size ?_; rintro v4 s4 g4; have G4 := Lib.hid g4; clear g4))
            clear x0 x1 x2 xl
            have HS4 : Hid (Below u3.heap.size u3 s4) := Lib.hid (HS3a.out.trans (below_grownR HT3a.out G4.out.2.1 HS3a.out.size))
            obtain ⟨bv4, dv4, hv4⟩ := G4.out.1.shape
            subst hv4
            have hm4 : (D.take t ++ [(⟨vk, vn, vs⟩ : Vl)]).length = m2 := by rw [List.length_append, HL1.out.2, HM2.out]; rfl
            rw [hm4]
            have HT4 : Hid (kVl.Own s4 u3.heap.size (.slice bv4 m2 dv4) (D.take t ++ [(⟨vk, vn, vs⟩ : Vl)])) := Lib.hid (by rw [← hm4]; exact G4.out.1)
            have HR4 : Hid (kI.Own s4 u3.heap.size (.slice av3 m2 cv3) (O.take t ++ [z])) := Lib.hid (HR3a.out.grown G4.out.2.1 (fun q hq e => HNE4.out q hq e.symm))
            have HM4 := Lib.hid hm4
            clear hm4 G4
            have HNE5 := Lib.hid (own_ne HR4.out HT4.out (by decide))
            go_upto_region 19 with (first | (refine RowK.wpList_sfx (k := kI) (o := ⟨some 92, _, _, _, _, _⟩) rfl (.tmp 90) (.tmp 91) rfl _ on oc t rfl rfl ht HA3.out HN3.out HC3.out ?_) | (at_builtin; refine RowK.wpList_app (k := kI) (B := u3.heap.size) (v := .slice av3 m2 cv3) (l := O.take t ++ [z]) rfl (.tmp 89) (.tmp 92) rfl rfl HR4.out a3 n3 (O.drop t) c3 rfl HL3.out.1 (HV3.out _ HS4.out) HNa3.out (by rw [HL3.out.1, List.length_append, HL1.out.1]; have := HN3.out; simp; omega) HS4.out.size ?_; rintro v5 s5 g5; have G5 := Lib.hid g5; clear g5))
            have HS5 : Hid (Below u3.heap.size u3 s5) := Lib.hid (HS4.out.trans (below_grownR HR4.out G5.out.2.1 HS4.out.size))
            obtain ⟨av5, cv5, hv5⟩ := G5.out.1.shape
            subst hv5
            obtain ⟨m5, hm5⟩ : ∃ m5, m5 = (O.take t ++ [z] ++ O.drop t).length := ⟨_, rfl⟩
            rw [← hm5]
            have HR5 : Hid (kI.Own s5 u3.heap.size (.slice av5 m5 cv5) (O.take t ++ [z] ++ O.drop t)) := Lib.hid (by rw [hm5]; exact G5.out.1)
            have HT5 : Hid (kVl.Own s5 u3.heap.size (.slice bv4 m2 dv4) (D.take t ++ [(⟨vk, vn, vs⟩ : Vl)])) := Lib.hid (HT4.out.grown G5.out.2.1 (fun q hq e => HNE5.out q e.symm hq))
            have HM5 := Lib.hid hm5
            clear hm5 G5
            have HNE6 := Lib.hid (own_ne HR5.out HT5.out (by decide))
            go_wp2_with (first | (refine RowK.wpList_sfx (k := kVl) (o := ⟨some 97, _, _, _, _, _⟩) rfl (.tmp 95) (.tmp 96) rfl _ on pc t rfl rfl ht HE3.out HN3.out HD3.out ?_) | (at_builtin; refine RowK.wpList_app (k := kVl) (B := u3.heap.size) (v := .slice bv4 m2 dv4) (l := D.take t ++ [(⟨vk, vn, vs⟩ : Vl)]) rfl (.tmp 94) (.tmp 97) rfl rfl HT5.out b3 n3 (D.drop t) d3 rfl HL3.out.2 (HW3.out _ HS5.out) HNb3.out (by rw [HL3.out.2, List.length_append, HL1.out.2]; have := HN3.out; simp; omega) HS5.out.size ?_; rintro v6 s6 g6; have G6 := Lib.hid g6; clear g6))
            have HS6 : Hid (Below u3.heap.size u3 s6) := Lib.hid (HS5.out.trans (below_grownR HT5.out G6.out.2.1 HS5.out.size))
            have HINS : Hid (O.take t ++ [z] ++ O.drop t = stepV V key low high O z) := Lib.hid (by
              rw [HST2.out]
              unfold insV
              obtain ⟨e1, e2⟩ := while_at (p := leV V key z) HLT.out HGE.out
              rw [e1, e2]
              simp)
            have HVAL : Hid (D.take t ++ [(⟨vk, vn, vs⟩ : Vl)] ++ D.drop t = (O.take t ++ [z] ++ O.drop t).map fun z => vo (getV V z) key) := Lib.hid (by
              rw [HD.out, List.map_append, List.map_append, List.map_take, List.map_drop, List.map_cons, List.map_nil, HVX.out])
            have hw : w1.heap.size ≤ u3.heap.size := by have := HI.out.2.2.size; have := HB0.out.size; omega
            refine ⟨⟨j + 1, O.take t ++ [z] ++ O.drop t, by simp, hlt, Lib.hid (HNX.out _ HINS.out), Lib.hid ⟨(RowK.Own.mono (k := kI) (HR5.out.grown G6.out.2.1 (fun q hq e => HNE6.out q hq e.symm)) hw), ?_, ?_⟩⟩, by simp [intOf]; omega⟩
            · rw [← HVAL.out]
              exact RowK.Own.mono (k := kVl) G6.out.1 hw
            · exact below_then HI.out.2.2 (below_then HB0.out HS6.out)
          · go_wp2_with fail
            refine ⟨⟨t + 1, by simp, htn, Lib.hid (fun i' y' hi' hy' => ?_), Lib.hid (HBW2.out.trans (HU3.out.mono HBW2.out.size))⟩, by simp [intOf]; omega⟩
            by_cases e : i' < t
            · exact HLT.out i' y' e hy'
            · obtain rfl : i' = t := by omega
              rw [HY.out] at hy'
              injection hy' with hy'
              subst hy'
              rw [HLE.out, hdc]
        · have tt : decide ((t : Int) < (on : Int)) = false := decide_eq_false (by omega)
          have HGE : Hid (∀ y, O[t]? = some y → leV V key z y = false) := Lib.hid (fun y' hy' => by have := (List.getElem?_eq_some_iff.1 hy').1; have := HON.out; omega)
          go_upto_region 10 with fail
          go_cut [65] from 53 to 64 (fun sv wc => ∃ u : World, u = wc ∧ sv = .bool false ∧ Hid (Below wr.heap.size wr u))
          case first =>
            as_aux_lemma =>
              refine wp_region_held_drew (S := fun _ => True) (by kernel_rfl) trivial (fun hHeld => ?_)
              refine wpAnyH_take (i := 0) (v := ?_) rfl (by kernel_rfl) (by kernel_rfl) (by kernel_rfl) (fun _ _ _ h => h) (Or.inl ⟨by kernel_rfl, ?_⟩) (by assumption) ?_
              rotate_left
              · intro w hSw; (try dsimp only at hSw); go_simp; first | done | with_reducible rfl
              simp only [List.getElem_toArray, List.getElem_cons_zero, Act.put, List.setIfInBounds_toArray, List.set_cons_zero, List.set_cons_succ]
              refine wpAnyH_take (i := 1) (v := ?_) rfl (by kernel_rfl) (by kernel_rfl) (by kernel_rfl) (fun _ _ _ h => h) (Or.inl ⟨by kernel_rfl, ?_⟩) (by assumption) ?_
              rotate_left
              · intro w hSw; (try dsimp only at hSw); go_simp; first | done | with_reducible rfl
              simp only [List.getElem_toArray, List.getElem_cons_succ, List.getElem_cons_zero, Act.put, List.setIfInBounds_toArray, List.set_cons_zero, List.set_cons_succ]
              refine wpAnyH_take (i := 2) (v := ?_) rfl (by kernel_rfl) (by kernel_rfl) (by kernel_rfl) (fun _ _ _ h => h) (Or.inl ⟨by kernel_rfl, ?_⟩) (by assumption) ?_
              rotate_left
              · intro w hSw; (try dsimp only at hSw); go_simp; first | done | with_reducible rfl
              simp only [List.getElem_toArray, List.getElem_cons_succ, List.getElem_cons_zero, Act.put, List.setIfInBounds_toArray, List.set_cons_zero, List.set_cons_succ]
              refine wpAnyH_take (i := 3) (v := ?_) rfl (by kernel_rfl) (by kernel_rfl) (by kernel_rfl) (fun _ _ _ h => h) (Or.inl ⟨by kernel_rfl, ?_⟩) (by assumption) ?_
              rotate_left
              · intro w hSw; (try dsimp only at hSw); go_simp; first | done | with_reducible rfl
              simp only [List.getElem_toArray, List.getElem_cons_succ, List.getElem_cons_zero, Act.put, List.setIfInBounds_toArray, List.set_cons_zero, List.set_cons_succ]
              refine wpAnyH_take (i := 4) (v := ?_) rfl (by kernel_rfl) (by kernel_rfl) (by kernel_rfl) (fun _ _ _ h => h) (Or.inl ⟨by kernel_rfl, ?_⟩) (by assumption) ?_
              rotate_left
              · intro w hSw; (try dsimp only at hSw); go_simp; first | done | with_reducible rfl
              simp only [List.getElem_toArray, List.getElem_cons_succ, List.getElem_cons_zero, Act.put, List.setIfInBounds_toArray, List.set_cons_zero, List.set_cons_succ]
              refine wpAnyH_take (i := 5) (v := undef) rfl (by kernel_rfl) (by kernel_rfl) (by kernel_rfl) (fun _ _ _ h => h) (Or.inr ⟨by kernel_rfl, rfl⟩) (by assumption) ?_
              simp only [List.getElem_toArray, List.getElem_cons_succ, List.getElem_cons_zero, Act.put, List.setIfInBounds_toArray, List.set_cons_zero, List.set_cons_succ]
              refine wpAnyH_take (i := 6) (v := undef) rfl (by kernel_rfl) (by kernel_rfl) (by kernel_rfl) (fun _ _ _ h => h) (Or.inr ⟨by kernel_rfl, rfl⟩) (by assumption) ?_
              simp only [List.getElem_toArray, List.getElem_cons_succ, List.getElem_cons_zero, Act.put, List.setIfInBounds_toArray, List.set_cons_zero, List.set_cons_succ]
              refine wpAnyH_take (i := 7) (v := undef) rfl (by kernel_rfl) (by kernel_rfl) (by kernel_rfl) (fun _ _ _ h => h) (Or.inr ⟨by kernel_rfl, rfl⟩) (by assumption) ?_
              simp only [List.getElem_toArray, List.getElem_cons_succ, List.getElem_cons_zero, Act.put, List.setIfInBounds_toArray, List.set_cons_zero, List.set_cons_succ]
              refine wpAnyH_take (i := 8) (v := undef) rfl (by kernel_rfl) (by kernel_rfl) (by kernel_rfl) (fun _ _ _ h => h) (Or.inr ⟨by kernel_rfl, rfl⟩) (by assumption) ?_
              simp only [List.getElem_toArray, List.getElem_cons_succ, List.getElem_cons_zero, Act.put, List.setIfInBounds_toArray, List.set_cons_zero, List.set_cons_succ]
              refine wpAnyH_take (i := 9) (v := undef) rfl (by kernel_rfl) (by kernel_rfl) (by kernel_rfl) (fun _ _ _ h => h) (Or.inr ⟨by kernel_rfl, rfl⟩) (by assumption) ?_
              simp only [List.getElem_toArray, List.getElem_cons_succ, List.getElem_cons_zero, Act.put, List.setIfInBounds_toArray, List.set_cons_zero, List.set_cons_succ]
              refine wpAnyH_take (i := 10) (v := undef) rfl (by kernel_rfl) (by kernel_rfl) (by kernel_rfl) (fun _ _ _ h => h) (Or.inr ⟨by kernel_rfl, rfl⟩) (by assumption) ?_
              simp only [List.getElem_toArray, List.getElem_cons_succ, List.getElem_cons_zero, Act.put, List.setIfInBounds_toArray, List.set_cons_zero, List.set_cons_succ]
              refine wpAnyH_take (i := 11) (v := undef) rfl (by kernel_rfl) (by kernel_rfl) (by kernel_rfl) (fun _ _ _ h => h) (Or.inr ⟨by kernel_rfl, rfl⟩) (by assumption) ?_
              simp only [List.getElem_toArray, List.getElem_cons_succ, List.getElem_cons_zero, Act.put, List.setIfInBounds_toArray, List.set_cons_zero, List.set_cons_succ]
              refine wpAnyH_take (i := 12) (v := ?_) rfl (by kernel_rfl) (by kernel_rfl) (by kernel_rfl) (fun _ _ _ h => h) (Or.inl ⟨by kernel_rfl, ?_⟩) (by assumption) ?_
              rotate_left
              · intro w hSw; (try dsimp only at hSw); go_simp; first | done | with_reducible rfl
              simp only [List.getElem_toArray, List.getElem_cons_succ, List.getElem_cons_zero, Act.put, List.setIfInBounds_toArray, List.set_cons_zero, List.set_cons_succ]
              refine wpAnyH_done (by kernel_rfl) ?_ _
              go_wp2_with fail
              go_meet
              exact ⟨_, rfl, rfl, Lib.hid (Below.refl _ _).drew⟩
          case rest =>
          obtain ⟨u3, rfl, rfl, HU3⟩ := hcut
          have HB0 : Hid (Below wo.heap.size wo u3) := Lib.hid (HB0.out.trans (HU3.out.mono HB0.out.size))
          have HUX : Hid (Below U.heap.size U u3) := Lib.hid (HUX.out.trans (HU3.out.mono HUX.out.size))
          have HOo := Lib.hid (HOo.out.below HU3.out)
          have HOp := Lib.hid (HOp.out.below HU3.out)
          clear tt
          obtain ⟨a1, ha1⟩ : ∃ a1, kI.pfx (oa : Option Addr) oc = a1 := ⟨_, rfl⟩
          obtain ⟨a3, ha3⟩ : ∃ a3, kI.sfx (oa : Option Addr) oc t = a3 := ⟨_, rfl⟩
          obtain ⟨b1, hb1⟩ : ∃ b1, kVl.pfx (pa : Option Addr) pc = b1 := ⟨_, rfl⟩
          obtain ⟨b3, hb3⟩ : ∃ b3, kVl.sfx (pa : Option Addr) pc t = b3 := ⟨_, rfl⟩
          obtain ⟨n3, hn3⟩ : ∃ n3, on - t = n3 := ⟨_, rfl⟩
          obtain ⟨c3, hc3⟩ : ∃ c3, oc - t = c3 := ⟨_, rfl⟩
          obtain ⟨d3, hd3⟩ : ∃ d3, pc - t = d3 := ⟨_, rfl⟩
          have hoc : on ≤ oc := by have := HOo.out.cap; rw [HON.out]; exact this
          have hpc : on ≤ pc := by have := HOp.out.cap; rw [← HDL.out]; exact this
          have HV1 : Hid (∀ u, Below u3.heap.size u3 u → kI.V u a1 (O.take t)) := Lib.hid (fun u hu => by rw [← ha1]; exact ((HOo.out.below hu).toV).take t oc)
          have HV3 : Hid (∀ u, Below u3.heap.size u3 u → kI.V u a3 (O.drop t)) := Lib.hid (fun u hu => by rw [← ha3]; exact ((HOo.out.below hu).toV).drop (by rw [← HON.out]; exact hoc))
          have HW1 : Hid (∀ u, Below u3.heap.size u3 u → kVl.V u b1 (D.take t)) := Lib.hid (fun u hu => by rw [← hb1]; exact ((HOp.out.below hu).toV).take t pc)
          have HW3 : Hid (∀ u, Below u3.heap.size u3 u → kVl.V u b3 (D.drop t)) := Lib.hid (fun u hu => by rw [← hb3]; exact ((HOp.out.below hu).toV).drop (by rw [HDL.out]; exact hpc))
          have HNa1 : Hid (a1 = none → oc = 0) := Lib.hid (fun e => RowK.pfx_none (k := kI) (a := (oa : Option Addr)) (fun (ea : (oa : Option Addr) = none) => by first | (cases ea; done) | (have := HOo.out; rw [ea] at this; exact this.noneCap)) (ha1.trans e))
          have HNa3 : Hid (a3 = none → c3 = 0) := Lib.hid (fun e => by rw [← hc3]; exact RowK.sfx_none (k := kI) (a := (oa : Option Addr)) (fun (ea : (oa : Option Addr) = none) => by first | (cases ea; done) | (have := HOo.out; rw [ea] at this; exact this.noneCap)) (ha3.trans e))
          have HNb1 : Hid (b1 = none → pc = 0) := Lib.hid (fun e => RowK.pfx_none (k := kVl) (a := (pa : Option Addr)) (fun (ea : (pa : Option Addr) = none) => by first | (cases ea; done) | (have := HOp.out; rw [ea] at this; exact this.noneCap)) (hb1.trans e))
          have HNb3 : Hid (b3 = none → d3 = 0) := Lib.hid (fun e => by rw [← hd3]; exact RowK.sfx_none (k := kVl) (a := (pa : Option Addr)) (fun (ea : (pa : Option Addr) = none) => by first | (cases ea; done) | (have := HOp.out; rw [ea] at this; exact this.noneCap)) (hb3.trans e))
          have HL1 : Hid ((O.take t).length = t ∧ (D.take t).length = t) := Lib.hid ⟨by rw [List.length_take]; have := HON.out; omega, by rw [List.length_take]; have := HDL.out; omega⟩
          have HL3 : Hid ((O.drop t).length = n3 ∧ (D.drop t).length = n3) := Lib.hid ⟨by rw [List.length_drop, ← HON.out]; exact hn3, by rw [List.length_drop, HDL.out]; exact hn3⟩
          have HA1 := Lib.hid ha1
          have HA3 := Lib.hid ha3
          have HE1 := Lib.hid hb1
          have HE3 := Lib.hid hb3
          have HN3 := Lib.hid hn3
          have HC3 := Lib.hid hc3
          have HD3 := Lib.hid hd3
          have hto : t ≤ oc := Nat.le_trans ht hoc
          have htp : t ≤ pc := Nat.le_trans ht hpc
          clear ha1 ha3 hb1 hb3 hn3 hc3 hd3 hoc hpc
          go_upto_region 15 with (first | (refine RowK.wpList_pfx (k := kI) (o := ⟨some 71, _, _, _, _, _⟩) rfl (.tmp 69) (.tmp 70) rfl _ on oc t rfl rfl hto HA1.out ?_) | (at_builtin; refine RowK.wpList_app (k := kI) (B := u3.heap.size) (v := .slice none 0 0) (l := []) rfl (.tmp 68) (.tmp 71) rfl rfl (RowK.Own.nil kI _ _) a1 t (O.take t) oc rfl HL1.out.1 (HV1.out _ (Below.refl _ _)) HNa1.out (by rw [HL1.out.1]; simp; omega) (Nat.le_refl _) ?_; rintro v1 s1 g1; have G1 := Lib.hid g1; clear g1))
          obtain ⟨av1, cv1, hv1⟩ := G1.out.1.shape
          rw [List.nil_append, HL1.out.1] at hv1
          subst hv1
          have HS1 : Hid (Below u3.heap.size u3 s1) := Lib.hid (below_nilR G1.out.2.1)
          have HR1 : Hid (kI.Own s1 u3.heap.size (.slice av1 t cv1) (O.take t)) := Lib.hid G1.out.1
          clear G1
          go_upto_region 16 with (first | (refine RowK.wpList_pfx (k := kVl) (o := ⟨some 76, _, _, _, _, _⟩) rfl (.tmp 74) (.tmp 75) rfl _ on pc t rfl rfl htp HE1.out ?_) | (at_builtin; refine RowK.wpList_app (k := kVl) (B := s1.heap.size) (v := .slice none 0 0) (l := []) rfl (.tmp 73) (.tmp 76) rfl rfl (RowK.Own.nil kVl _ _) b1 t (D.take t) pc rfl HL1.out.2 (HW1.out _ HS1.out) HNb1.out (by rw [HL1.out.2]; simp; omega) (Nat.le_refl _) ?_; rintro v2 s2 g2; have G2 := Lib.hid g2; clear g2))
          obtain ⟨bv1, dv1, hv2⟩ := G2.out.1.shape
          rw [List.nil_append, HL1.out.2] at hv2
          subst hv2
          have hb12 : Below s1.heap.size s1 s2 := below_nilR G2.out.2.1
          have HS2 : Hid (Below u3.heap.size u3 s2) := Lib.hid (below_then HS1.out hb12)
          have HR2 := Lib.hid (HR1.out.below hb12)
          have HT2 : Hid (kVl.Own s2 u3.heap.size (.slice bv1 t dv1) (D.take t)) := Lib.hid (RowK.Own.mono (k := kVl) G2.out.1 HS1.out.size)
          clear G2 hb12
          obtain ⟨q0, hibl⟩ := HIC.out s2 (below_then HB0.out HS2.out)
          have HXV := Lib.hid (int_new s2 s2.heap.size rfl z)
          have HR2a := Lib.hid (HR2.out.alloc (.cells #[.int .i64 z] 3))
          have HT2a := Lib.hid (HT2.out.alloc (.cells #[.int .i64 z] 3))
          have HS2a := Lib.hid (below_then HS2.out (below_box s2 (.cells #[.int .i64 z] 3)))
          have HNE3 := Lib.hid (own_ne HR2a.out HT2a.out (by decide))
          have hjz : (j : Int) < (ids.length : Int) := by omega
          go_upto_region 17 with ((at_builtin; refine RowK.wpList_app (k := kI) (B := u3.heap.size) (v := .slice av1 t cv1) (l := O.take t) rfl (.tmp 78) (.tmp 83) rfl rfl HR2a.out (some ⟨s2.heap.size, 0, none⟩) 1 [z] 1 rfl rfl HXV.out (fun e => by cases e) (by rw [HL1.out.1]; simp; omega) HS2a.out.size ?_; rintro v3 s3 g3; have G3 := Lib.hid g3; clear g3))
          clear q0 hibl
          have HS3 : Hid (Below u3.heap.size u3 s3) := Lib.hid (HS2a.out.trans (below_grownR HR2a.out G3.out.2.1 HS2a.out.size))
          obtain ⟨av3, cv3, hv3⟩ := G3.out.1.shape
          subst hv3
          obtain ⟨m2, hm2⟩ : ∃ m2, m2 = (O.take t ++ [z]).length := ⟨_, rfl⟩
          rw [← hm2]
          have HR3 : Hid (kI.Own s3 u3.heap.size (.slice av3 m2 cv3) (O.take t ++ [z])) := Lib.hid (by rw [hm2]; exact G3.out.1)
          have HT3 : Hid (kVl.Own s3 u3.heap.size (.slice bv1 t dv1) (D.take t)) := Lib.hid (HT2a.out.grown G3.out.2.1 (fun q hq e => HNE3.out q e.symm hq))
          have HM2 : Hid (m2 = t + 1) := Lib.hid (by rw [hm2, List.length_append, HL1.out.1]; rfl)
          clear hm2 G3
          obtain ⟨⟨x0, x1, x2⟩, xl⟩ := HXB.out s3 (HUX.out.trans (HS3.out.mono HUX.out.size))
          have HXW : Hid (kVl.V (s3.alloc (.cells #[.int .i64 vk, .int .i64 vn, .string vs] 98)) (some ⟨s3.heap.size, 0, none⟩) [(⟨vk, vn, vs⟩ : Vl)]) := Lib.hid (fun _ => ⟨_, 0, rfl, RowK.new_at (k := kVl) (heap_new s3 _) (by simp [RowK.cells, kVl, Vl.enc3])⟩)
          have HR3a := Lib.hid (HR3.out.alloc (.cells #[.int .i64 vk, .int .i64 vn, .string vs] 98))
          have HT3a := Lib.hid (HT3.out.alloc (.cells #[.int .i64 vk, .int .i64 vn, .string vs] 98))
          have HS3a := Lib.hid (below_then HS3.out (below_box s3 (.cells #[.int .i64 vk, .int .i64 vn, .string vs] 98)))
          have HNE4 := Lib.hid (own_ne HR3a.out HT3a.out (by decide))
          go_upto_region 18 with ((at_builtin; refine RowK.wpList_app (k := kVl) (B := u3.heap.size) (v := .slice bv1 t dv1) (l := D.take t) rfl (.tmp 85) (.tmp 87) rfl rfl HT3a.out (some ⟨s3.heap.size, 0, none⟩) 1 [(⟨vk, vn, vs⟩ : Vl)] 1 rfl rfl HXW.out (fun e => by cases e) (by rw [HL1.out.2]; simp; omega) HS3a.out.size ?_; rintro v4 s4 g4; have G4 := Lib.hid g4; clear g4))
          clear x0 x1 x2 xl
          have HS4 : Hid (Below u3.heap.size u3 s4) := Lib.hid (HS3a.out.trans (below_grownR HT3a.out G4.out.2.1 HS3a.out.size))
          obtain ⟨bv4, dv4, hv4⟩ := G4.out.1.shape
          subst hv4
          have hm4 : (D.take t ++ [(⟨vk, vn, vs⟩ : Vl)]).length = m2 := by rw [List.length_append, HL1.out.2, HM2.out]; rfl
          rw [hm4]
          have HT4 : Hid (kVl.Own s4 u3.heap.size (.slice bv4 m2 dv4) (D.take t ++ [(⟨vk, vn, vs⟩ : Vl)])) := Lib.hid (by rw [← hm4]; exact G4.out.1)
          have HR4 : Hid (kI.Own s4 u3.heap.size (.slice av3 m2 cv3) (O.take t ++ [z])) := Lib.hid (HR3a.out.grown G4.out.2.1 (fun q hq e => HNE4.out q hq e.symm))
          have HM4 := Lib.hid hm4
          clear hm4 G4
          have HNE5 := Lib.hid (own_ne HR4.out HT4.out (by decide))
          go_upto_region 19 with (first | (refine RowK.wpList_sfx (k := kI) (o := ⟨some 92, _, _, _, _, _⟩) rfl (.tmp 90) (.tmp 91) rfl _ on oc t rfl rfl ht HA3.out HN3.out HC3.out ?_) | (at_builtin; refine RowK.wpList_app (k := kI) (B := u3.heap.size) (v := .slice av3 m2 cv3) (l := O.take t ++ [z]) rfl (.tmp 89) (.tmp 92) rfl rfl HR4.out a3 n3 (O.drop t) c3 rfl HL3.out.1 (HV3.out _ HS4.out) HNa3.out (by rw [HL3.out.1, List.length_append, HL1.out.1]; have := HN3.out; simp; omega) HS4.out.size ?_; rintro v5 s5 g5; have G5 := Lib.hid g5; clear g5))
          have HS5 : Hid (Below u3.heap.size u3 s5) := Lib.hid (HS4.out.trans (below_grownR HR4.out G5.out.2.1 HS4.out.size))
          obtain ⟨av5, cv5, hv5⟩ := G5.out.1.shape
          subst hv5
          obtain ⟨m5, hm5⟩ : ∃ m5, m5 = (O.take t ++ [z] ++ O.drop t).length := ⟨_, rfl⟩
          rw [← hm5]
          have HR5 : Hid (kI.Own s5 u3.heap.size (.slice av5 m5 cv5) (O.take t ++ [z] ++ O.drop t)) := Lib.hid (by rw [hm5]; exact G5.out.1)
          have HT5 : Hid (kVl.Own s5 u3.heap.size (.slice bv4 m2 dv4) (D.take t ++ [(⟨vk, vn, vs⟩ : Vl)])) := Lib.hid (HT4.out.grown G5.out.2.1 (fun q hq e => HNE5.out q e.symm hq))
          have HM5 := Lib.hid hm5
          clear hm5 G5
          have HNE6 := Lib.hid (own_ne HR5.out HT5.out (by decide))
          go_wp2_with (first | (refine RowK.wpList_sfx (k := kVl) (o := ⟨some 97, _, _, _, _, _⟩) rfl (.tmp 95) (.tmp 96) rfl _ on pc t rfl rfl ht HE3.out HN3.out HD3.out ?_) | (at_builtin; refine RowK.wpList_app (k := kVl) (B := u3.heap.size) (v := .slice bv4 m2 dv4) (l := D.take t ++ [(⟨vk, vn, vs⟩ : Vl)]) rfl (.tmp 94) (.tmp 97) rfl rfl HT5.out b3 n3 (D.drop t) d3 rfl HL3.out.2 (HW3.out _ HS5.out) HNb3.out (by rw [HL3.out.2, List.length_append, HL1.out.2]; have := HN3.out; simp; omega) HS5.out.size ?_; rintro v6 s6 g6; have G6 := Lib.hid g6; clear g6))
          have HS6 : Hid (Below u3.heap.size u3 s6) := Lib.hid (HS5.out.trans (below_grownR HT5.out G6.out.2.1 HS5.out.size))
          have HINS : Hid (O.take t ++ [z] ++ O.drop t = stepV V key low high O z) := Lib.hid (by
            rw [HST2.out]
            unfold insV
            obtain ⟨e1, e2⟩ := while_at (p := leV V key z) HLT.out HGE.out
            rw [e1, e2]
            simp)
          have HVAL : Hid (D.take t ++ [(⟨vk, vn, vs⟩ : Vl)] ++ D.drop t = (O.take t ++ [z] ++ O.drop t).map fun z => vo (getV V z) key) := Lib.hid (by
            rw [HD.out, List.map_append, List.map_append, List.map_take, List.map_drop, List.map_cons, List.map_nil, HVX.out])
          have hw : w1.heap.size ≤ u3.heap.size := by have := HI.out.2.2.size; have := HB0.out.size; omega
          refine ⟨⟨j + 1, O.take t ++ [z] ++ O.drop t, by simp, hlt, Lib.hid (HNX.out _ HINS.out), Lib.hid ⟨(RowK.Own.mono (k := kI) (HR5.out.grown G6.out.2.1 (fun q hq e => HNE6.out q hq e.symm)) hw), ?_, ?_⟩⟩, by simp [intOf]; omega⟩
          · rw [← HVAL.out]
            exact RowK.Own.mono (k := kVl) G6.out.1 hw
          · exact below_then HI.out.2.2 (below_then HB0.out HS6.out)
    · have hjn : j = ids.length := by omega
      have tj : decide ((j : Int) < (ids.length : Int)) = false := decide_eq_false (by omega)
      have HE : Hid (O = valL V lab key low high) := Lib.hid (by rw [HEND0.out, HOE.out, hjn, List.take_length])
      clear hjn
      go_wp2_with fail
      go_ret
      exact ⟨oa, oc, by rw [← HE.out, ← HON.out]; rfl, by rw [← HE.out]; exact HI.out.1.toV, HBW.out.trans ((HB1.out.trans (HI.out.2.2.mono HB1.out.size)).mono HBW.out.size)⟩
end Go.Proofs.YtonilojjahfboaaGreat
