/- Reference 16: AddVertex, AddEdge. Conditions: each contract's own premises. -/
import Derived.Test.YtkbmipmegljidaaGreatWsZ
import Derived.Test.YtkbmipmegljidaaGreatGr3
import Derived.Deep.Cut
import Derived.BigQuiet
namespace Go.Proofs.YtkbmipmegljidaaGreat
open Go.RowKit Go.Maps

theorem below_grownR {P : Program} {α : Type} {k : RowK P α} {w w' : World} {B : Nat} {v : Value} {l : List α} (h : k.Own w B v l) (hg : w.grownBy w' v.ownBlock) (hB : B ≤ w.heap.size) : Below B w w' :=
  ⟨hg.os, hg.tape, hg.output, hg.size, fun k hk => hg.block k (by omega) (fun e => by have := (h.lt k e.symm).1; omega)⟩
theorem below_nilR {w w' : World} (hg : w.grownBy w' (Value.slice none 0 0).ownBlock) : Below w.heap.size w w' := ⟨hg.os, hg.tape, hg.output, hg.size, fun j hj => hg.block j hj (fun e => by cases e)⟩
theorem insB_at {α : Type} {key : α → Int} {x : α} : ∀ {L : List α} {j : Nat}, (∀ i y, i < j → L[i]? = some y → key y < key x) → (∀ y, L[j]? = some y → ¬ key y < key x) → insB key x L = L.take j ++ [x] ++ L.drop j
  | [], j, _, _ => by simp [insB]
  | y :: t, 0, _, h2 => by
    unfold insB
    rw [if_neg (h2 y rfl)]
    rfl
  | y :: t, j + 1, h1, h2 => by
    unfold insB
    rw [if_pos (h1 0 y (by omega) rfl), insB_at (L := t) (j := j) (fun i z hi hz => h1 (i + 1) z (by omega) (by simpa using hz)) (fun z hz => h2 z (by simpa using hz))]
    rfl
theorem map_ins {α β : Type} {key : β → Int} {f : α → β} {L : List α} {V : List β} {x : α} {j : Nat} (hV : V = L.map f) (h1 : ∀ i y, i < j → L[i]? = some y → key (f y) < key (f x)) (h2 : ∀ y, L[j]? = some y → ¬ key (f y) < key (f x)) : (L.take j ++ [x] ++ L.drop j).map f = insB key (f x) V := by
  subst hV
  rw [insB_at (L := L.map f) (j := j)]
  · simp [List.map_take, List.map_drop]
  · intro i y hi hy
    rw [List.getElem?_map] at hy
    obtain ⟨z, hz, rfl⟩ := Option.map_eq_some_iff.1 hy
    exact h1 i z hi hz
  · intro y hy
    rw [List.getElem?_map] at hy
    obtain ⟨z, hz, rfl⟩ := Option.map_eq_some_iff.1 hy
    exact h2 z hz
theorem find_some_of {α : Type} {key : α → Int} {l : List α} {n : Int} {x : α} (hx : x ∈ l) (hk : key x = n) : (findB key l n).isSome = true := by
  cases hf : findB key l n with
  | none => exact absurd hk (findB_none.1 hf x hx)
  | some y => rfl
theorem psB_own {w : World} {B B' : Nat} {a : Option Addr} {c : Nat} {ps : List Pr} (h : kP.Own w B (.slice a ps.length c) ps) (ok : ∀ p ∈ ps, p.Ok) (hB : B' ≤ B) : PsB w B' a c ps := by
  refine ⟨⟨psV_own h ok, fun e => ?_⟩, fun b off e => ?_⟩
  · subst e
    refine ⟨h.noneCap, ?_⟩
    rcases h.2 with ⟨_, h2⟩ | ⟨g, cp, cur, h1, _⟩
    · exact List.eq_nil_of_length_eq_zero h2
    · injection h1 with e1; cases e1
  · subst e
    have := (h.lt b rfl).1
    omega
theorem RgL.layV {W u : World} {rb B : Nat} {VL X : List Vr} {EL : List Er} {xa : Option Addr} {xc : Nat} (h : RgL W rb B VL EL) (hu : Below W.heap.size W u) (hB : B ≤ W.heap.size) (ho : kVr.Own u W.heap.size (.slice xa X.length xc) X) (hX : ∀ x ∈ X, x ∈ VL ∨ PsB u B x.a x.c x.v.ps) :
    RgL (u.setCell ⟨rb, 0, none⟩ (.slice xa X.length xc)) rb B X EL := by
  have hs := h.below hu
  have hlt := h.lt
  have hc : Chg u (u.setCell ⟨rb, 0, none⟩ (.slice xa X.length xc)) (fun i => i = rb) := (Chg.refl u (fun i => i = rb)).setCell (p := ⟨rb, 0, none⟩) (fun _ => rfl) _
  obtain ⟨⟨va, vc, ea, ec, h1, h2, h3⟩, h4, h5, h6⟩ := hs
  refine ⟨⟨xa, xc, ea, ec, by rw [blk_setCell h1]; simp, (ho.mono hB).chg hc (fun j hj e => ?_), h3.chg hc (fun j hj e => ?_)⟩, fun x hx => ?_, fun x hx => (h5 x hx).chg hc (fun j e => by omega), hlt⟩
  · have := (ho.lt j hj).1
    omega
  · have := (h3.lt j hj).1
    omega
  · rcases hX x hx with h | h
    · exact (h4 x h).chg hc (fun j e => by omega)
    · exact h.chg hc (fun j e => by omega)
theorem RgL.layE {W u : World} {rb B : Nat} {VL : List Vr} {EL X : List Er} {xa : Option Addr} {xc : Nat} (h : RgL W rb B VL EL) (hu : Below W.heap.size W u) (hB : B ≤ W.heap.size) (ho : kEr.Own u W.heap.size (.slice xa X.length xc) X) (hX : ∀ x ∈ X, x ∈ EL ∨ PsB u B x.a x.c x.e.ps) :
    RgL (u.setCell ⟨rb, 1, none⟩ (.slice xa X.length xc)) rb B VL X := by
  have hs := h.below hu
  have hlt := h.lt
  have hc : Chg u (u.setCell ⟨rb, 1, none⟩ (.slice xa X.length xc)) (fun i => i = rb) := (Chg.refl u (fun i => i = rb)).setCell (p := ⟨rb, 1, none⟩) (fun _ => rfl) _
  obtain ⟨⟨va, vc, ea, ec, h1, h2, h3⟩, h4, h5, h6⟩ := hs
  refine ⟨⟨va, vc, xa, xc, by rw [blk_setCell h1]; simp, h2.chg hc (fun j hj e => ?_), (ho.mono hB).chg hc (fun j hj e => ?_)⟩, fun x hx => (h4 x hx).chg hc (fun j e => by omega), fun x hx => ?_, hlt⟩
  · have := (h2.lt j hj).1
    omega
  · have := (ho.lt j hj).1
    omega
  · rcases hX x hx with h | h
    · exact (h5 x h).chg hc (fun j e => by omega)
    · exact h.chg hc (fun j e => by omega)
def RavPost (w : World) (rb B : Nat) (V : List Vt) (E : List Eg) (v : Vt) (e : Ending) (w' : World) : Prop := e = .returned (.int .i64 (addV V v).1) ∧ RgC w' rb B (addV V v).2 E ∧ Chg w w' (fun i => i = rb)
def RaePost (w : World) (rb B : Nat) (V : List Vt) (E : List Eg) (v : Eg) (e : Ending) (w' : World) : Prop := e = .returned (.int .i64 (addE V E v).1) ∧ RgC w' rb B V (addE V E v).2 ∧ Chg w w' (fun i => i = rb)

set_option maxRecDepth 100000 in
set_option maxHeartbeats 4000000 in
theorem r16addV_any {w : World} {rb B : Nat} {VL : List Vr} {EL : List Er} (v : Vt) (a : Option Addr) (c : Nat) (h : RgL w rb B VL EL) (hB : B ≤ w.heap.size) (hp : PsA w a c v.ps) (hl : v.ps.length ≤ 100000) (hid : I64 v.id) (hlab : v.label.size ≤ 2000000) (hvl : VL.length ≤ 500000) (hel : EL.length ≤ 500000) :
    Calls Tryz.prog 17 #[.pointer (some ⟨rb, 0, none⟩), v.val a c] w (RavPost w rb B (VL.map Vr.v) (EL.map Er.e) v) := by
  obtain ⟨V, hV⟩ : ∃ V, V = VL.map Vr.v := ⟨_, rfl⟩
  obtain ⟨E, hE⟩ : ∃ E, E = EL.map Er.e := ⟨_, rfl⟩
  rw [← hV, ← hE]
  have HV := Lib.hid hV
  have HE := Lib.hid hE
  clear hV hE
  have HX0 := Lib.hid (heap_new w (.cells #[.int .i64 v.id, .string v.label, .slice a v.ps.length c] 30))
  have HW0 := Lib.hid ((below_box w (.cells #[.int .i64 v.id, .string v.label, .slice a v.ps.length c] 30)).alloc (by simp) (.cells #[.int .i64 v.id] 3))
  have HIDS : Hid (IsV ((w.alloc (.cells #[.int .i64 v.id, .string v.label, .slice a v.ps.length c] 30)).alloc (.cells #[.int .i64 v.id] 3)) (some ⟨w.heap.size + 1, 0, none⟩) [v.id]) := Lib.hid (ids_at (heap_new2 w _ _) (by simp [hid]))
  have HG := Lib.hid h
  have HPA := Lib.hid hp
  have HPL := Lib.hid hl
  have HID := Lib.hid hid
  have HVL := Lib.hid hvl
  have HEL := Lib.hid hel
  have HLB := Lib.hid hlab
  have HBZ := Lib.hid hB
  clear h hp hl hid hvl hel hlab hB
  unfold Vt.val
  go_enter Tryz.func17, Tryz.ntmps17
  go_wp2_with fail
  refine (r16check_any v.label a _ c 1 v.ps [v.id] _ HLB.out (HPA.out.v.below HW0.out) HIDS.out HPL.out (by simp)).mono ?_
  rintro e w1 ⟨rfl, b1⟩
  have HB1 : Hid (w1.heap[w.heap.size]? = some (.cells #[.int .i64 v.id, .string v.label, .slice a v.ps.length c] 30)) := Lib.hid ((b1.block _ (by simp; omega)).trans ((Below.heap_alloc _ _ _ (by simp)).trans HX0.out))
  have HBW : Hid (Below w.heap.size w w1) := Lib.hid (HW0.out.trans (b1.mono (by simp; omega)))
  replace HPA : Hid (PsA w1 a c v.ps) := Lib.hid (HPA.out.below HBW.out)
  have HG1 : Hid (RgL w1 rb B VL EL) := Lib.hid (HG.out.below HBW.out)
  have HKB : Hid (w.heap.size < w1.heap.size ∧ B ≤ w.heap.size) := Lib.hid ⟨(Array.getElem?_eq_some_iff.1 HB1.out).1, HBZ.out⟩
  clear b1 HIDS HX0 HW0
  by_cases hck : checkR v.label v.ps [v.id] = 0
  case neg =>
    have HCK := Lib.hid hck
    have t1 : (checkR v.label v.ps [v.id] != 0) = true := by simp [hck]
    clear hck
    go_wp2_with fail
    go_ret
    unfold RavPost addV
    rw [if_neg HCK.out]
    exact ⟨rfl, ⟨VL, EL, HG1.out, HV.out.symm, HE.out.symm⟩, Chg.of_below HBW.out _⟩
  case pos =>
  rw [hck]
  have HCK := Lib.hid hck
  clear hck
  have k0 := cell_of_blk HB1.out 0

  simp at k0
  have hz1 := HKB.out.1
  go_wp2_with fail
  refine (r16V_any HG1.out (by have := HVL.out; omega) v.id).mono ?_
  rintro e w2 ⟨rfl, r, rfl, hr⟩
  rcases hr with ⟨rfl, hno⟩ | ⟨i, x, rfl, hx, hk⟩
  rotate_left
  · have HA : Hid (addV V v = (31, V)) := Lib.hid (by
      have hf : (findB Vt.id V v.id).isSome = true := find_some_of (x := x.v) (by rw [HV.out]; exact List.mem_map.2 ⟨x, List.mem_of_getElem? hx, rfl⟩) hk
      unfold addV
      rw [if_pos HCK.out, if_pos hf])
    clear hx hk
    have t1 : decide ((0 : Int) ≤ (i : Int)) = true := by simp
    go_wp2_with fail
    go_ret
    unfold RavPost
    rw [HA.out]
    exact ⟨rfl, ⟨VL, EL, HG1.out, HV.out.symm, HE.out.symm⟩, Chg.of_below HBW.out _⟩
  have HF : Hid (∀ x ∈ VL, x.v.id ≠ v.id) := Lib.hid hno
  have HADD : Hid ((Ending.returned (.int .i64 0)) = .returned (.int .i64 (addV V v).1) ∧ (addV V v).2 = insB Vt.id v V) := Lib.hid (by
    have hf : findB Vt.id V v.id = none := findB_none.2 (fun y hy => by
      rw [HV.out] at hy
      obtain ⟨x, hx, rfl⟩ := List.mem_map.1 hy
      exact hno x hx)
    unfold addV
    rw [if_pos HCK.out, hf]
    exact ⟨rfl, rfl⟩)
  clear hno
  have HE0 : Hid (kP.Own (w1.alloc (.cells #[] 62)) w1.heap.size (.slice (some ⟨w1.heap.size, 0, none⟩) 0 0) []) := Lib.hid (RowK.Own.new (k := kP) (l := []) (heap_new w1 (.cells #[] 62)) (Nat.le_refl _) rfl (Nat.zero_le _))
  have HPV : Hid (kP.V (w1.alloc (.cells #[] 62)) a v.ps) := Lib.hid ((HPA.out.below (below_box w1 _)).v.kP)
  have HPN : Hid (a = none → c = 0) := Lib.hid (fun e => (HPA.out.nil e).1)
  have HPL' : Hid (([] : List Pr).length + v.ps.length ≤ 4000000) := Lib.hid (by have := HPL.out; simp; omega)
  have p0 := cell_of_blk ((Below.heap_alloc w1 (.cells #[] 62) w.heap.size hz1).trans HB1.out) 2
  simp at p0
  go_upto_region 7 with (first | (at_builtin; refine RowK.wpList_app (k := kP) (B := w1.heap.size) (v := .slice (some ⟨w1.heap.size, 0, none⟩) 0 0) (l := []) rfl (.tmp 24) (.tmp 26) rfl rfl HE0.out a v.ps.length v.ps c rfl rfl HPV.out HPN.out HPL'.out (by simp) ?_; rintro v8 u8 g8; obtain ⟨a2, c2, hv8⟩ := g8.1.shape; rw [List.nil_append] at hv8 g8; subst hv8; have G8 := Lib.hid g8; clear g8; have HB8 : Hid (Below w1.heap.size w1 u8) := Lib.hid ((below_box w1 _).trans (below_grownR HE0.out G8.out.2.1 (by simp))); have y0 := cell_of_blk ((HB8.out.block _ HKB.out.1).trans HB1.out) 2; have f0 := frozen_of_blk ((HB8.out.block _ HKB.out.1).trans HB1.out) 2; have z0 : w.heap.size < u8.heap.size := Nat.lt_of_lt_of_le HKB.out.1 HB8.out.size; simp at y0) | fail)
  obtain ⟨n2, hn2⟩ : ∃ n2, n2 = v.ps.length := ⟨_, rfl⟩
  have HN2 := Lib.hid hn2
  rw [← hn2]
  obtain ⟨W, hW⟩ : ∃ W, W = u8.setCell ⟨w.heap.size, 2, none⟩ (.slice a2 n2 c2) := ⟨_, rfl⟩
  rw [← hW]
  have HWB : Hid (W.heap[w.heap.size]? = some (.cells #[.int .i64 v.id, .string v.label, .slice a2 n2 c2] 30)) := Lib.hid (by rw [hW, blk_setCell ((HB8.out.block _ HKB.out.1).trans HB1.out)]; simp)
  have HZW : Hid (W.heap.size = u8.heap.size) := Lib.hid (by rw [hW]; simp)
  have HBW2 : Hid (Below w.heap.size w W) := Lib.hid (by rw [hW]; exact (HBW.out.trans (HB8.out.mono HBW.out.size)).setCell (Nat.le_refl _) _)
  have HRW : Hid (RgL W rb B VL EL) := Lib.hid (HG.out.below HBW2.out)
  have HCW : Hid (Chg w W (fun j => j = rb)) := Lib.hid (Chg.of_below HBW2.out _)
  have HBW9 : Hid (B ≤ W.heap.size) := Lib.hid (Nat.le_trans HBZ.out HBW2.out.size)
  have HPB : Hid (PsB W B a2 c2 v.ps) := Lib.hid (by
    have ho : kP.Own W w1.heap.size (.slice a2 v.ps.length c2) v.ps := by
      rw [hW]
      exact G8.out.1.chg (S := fun i => i = w.heap.size) ((Chg.refl u8 (fun i => i = w.heap.size)).setCell (p := ⟨w.heap.size, 2, none⟩) (fun _ => rfl) _) (fun j hj e => by have := (G8.out.1.lt j hj).1; have := HKB.out.1; omega)
    exact psB_own ho HPA.out.v.ok (Nat.le_trans HKB.out.2 (Nat.le_of_lt HKB.out.1)))
  obtain ⟨n, hn⟩ : ∃ n, n = VL.length := ⟨_, rfl⟩
  have HC0 : Hid (∃ va cap ea ec, (∀ u : World, Below W.heap.size W u → u.heap[rb]? = some (.cells #[.slice va n cap, .slice ea EL.length ec] 36 (0, 0)) ∧ u.heap[w.heap.size]? = some (.cells #[.int .i64 v.id, .string v.label, .slice a2 n2 c2] 30 (0, 0)) ∧ kVr.Own u B (.slice va n cap) VL)) := Lib.hid (by
    obtain ⟨⟨va, vc, ea, ec, h1, h2, h3⟩, _, _, _⟩ := HRW.out
    rw [hn]
    exact ⟨va, vc, ea, ec, fun u hu => ⟨(hu.block _ (Array.getElem?_eq_some_iff.1 h1).1).trans h1, (hu.block _ (Array.getElem?_eq_some_iff.1 HWB.out).1).trans HWB.out, h2.below hu⟩⟩)
  have HN := Lib.hid hn
  have HNM : Hid (n ≤ 500000) := Lib.hid (by rw [hn]; exact HVL.out)
  clear hn2 hn hW p0
  obtain ⟨va, cap, ea, ec, hc⟩ := HC0.out
  have HC := Lib.hid hc
  clear hc HC0
  have HI0 : Hid (Below W.heap.size W W) := Lib.hid (Below.refl _ _)
  go_wp2_with fail
  go_loopw [6] (fun i wr => ∃ j : Nat, j ≤ n ∧ i = .int .i64 j ∧ Hid (∀ j' x, j' < j → VL[j']? = some x → x.v.id < v.id) ∧ Hid (Below W.heap.size W wr)) (fun i _ => n - (intOf i).toNat)
  case atStart => exact ⟨0, Nat.zero_le _, rfl, Lib.hid (fun _ _ h => absurd h (Nat.not_lt_zero _)), HI0⟩
  case round =>
    obtain ⟨j, hj, rfl, HLT, HBW⟩ := hrel
    have hnm := HNM.out
    obtain ⟨e1, e2, _⟩ := HC.out _ HBW.out
    have c0 := cell_of_blk e1 0
    have k0 := cell_of_blk e2 0
    simp at c0 k0
    have z1 : rb < wr.heap.size := (Array.getElem?_eq_some_iff.1 e1).1
    have z2 : w.heap.size < wr.heap.size := (Array.getElem?_eq_some_iff.1 e2).1
    clear e1 e2
    by_cases hlt : j < n
    · have hne : VL ≠ [] := fun e => by have := HN.out; rw [e] at this; simp at this; omega
      obtain ⟨b, cp, hbe, _, _, hat⟩ := (HC.out _ HBW.out).2.2.at' hne
      injection hbe with e1 e2 e3
      subst e1
      clear e2 e3
      obtain ⟨x, hx⟩ : ∃ x, VL[j]? = some x := ⟨_, List.getElem?_eq_getElem (by have := HN.out; omega)⟩
      have x0 := hat.cells j x hx 0 _ rfl
      simp [kVr] at x0
      have hbl := hat.lt
      have HX := Lib.hid hx
      clear hat hx hne
      by_cases he : x.v.id < v.id
      · have HE := Lib.hid he
        have t3 : decide (x.v.id < v.id) = true := decide_eq_true he
        go_wp2_with fail
        go_quiet (fail)
        go_wp2_with fail
        refine ⟨⟨j + 1, hlt, by simp, Lib.hid (fun j' y hj' hy => ?_), Lib.hid (below_drewN HBW.out _)⟩, by simp [intOf]; omega⟩
        by_cases e : j' < j
        · exact HLT.out j' y e hy
        · obtain rfl : j' = j := by omega
          rw [HX.out] at hy
          injection hy with hy
          subst hy
          exact HE.out
      · have HGE : Hid (∀ y, VL[j]? = some y → ¬ y.v.id < v.id) := Lib.hid (fun y hy => by rw [HX.out] at hy; injection hy with hy; subst hy; exact he)
        have t3 : decide (x.v.id < v.id) = false := decide_eq_false he
        clear he
        go_wp2_with fail
        go_quiet (fail)
        go_upto_region 11 with fail
        clear t3 x0 k0
        clear c0
        have HBU : Hid (Below W.heap.size W (wr.drewN nq)) := Lib.hid (below_drewN HBW.out _)
        obtain ⟨a1, ha1⟩ : ∃ a1, kVr.pfx ((some ⟨b, 0, none⟩) : Option Addr) cap = a1 := ⟨_, rfl⟩
        obtain ⟨a3, ha3⟩ : ∃ a3, kVr.sfx ((some ⟨b, 0, none⟩) : Option Addr) cap j = a3 := ⟨_, rfl⟩
        obtain ⟨n3, hn3⟩ : ∃ n3, n - j = n3 := ⟨_, rfl⟩
        obtain ⟨c3, hc3⟩ : ∃ c3, cap - j = c3 := ⟨_, rfl⟩
        have HCP : Hid (n ≤ cap) := Lib.hid (by have := (HC.out _ (Below.refl _ _)).2.2.cap; rw [HN.out]; exact this)
        have HV1 : Hid (∀ u, Below W.heap.size W u → kVr.V u a1 (VL.take j)) := Lib.hid (fun u hu => by rw [← ha1]; exact ((HC.out u hu).2.2.toV).take j cap)
        have HV3 : Hid (∀ u, Below W.heap.size W u → kVr.V u a3 (VL.drop j)) := Lib.hid (fun u hu => by rw [← ha3]; exact ((HC.out u hu).2.2.toV).drop (by rw [← HN.out]; exact HCP.out))
        have HNN1 : Hid (a1 = none → cap = 0) := Lib.hid (fun e => RowK.pfx_none (k := kVr) (a := ((some ⟨b, 0, none⟩) : Option Addr)) (fun (ea : ((some ⟨b, 0, none⟩) : Option Addr) = none) => by first | (cases ea; done) | (have := (HC.out _ (Below.refl _ _)).2.2; rw [ea] at this; exact this.noneCap)) (ha1.trans e))
        have HNN3 : Hid (a3 = none → c3 = 0) := Lib.hid (fun e => by rw [← hc3]; exact RowK.sfx_none (k := kVr) (a := ((some ⟨b, 0, none⟩) : Option Addr)) (fun (ea : ((some ⟨b, 0, none⟩) : Option Addr) = none) => by first | (cases ea; done) | (have := (HC.out _ (Below.refl _ _)).2.2; rw [ea] at this; exact this.noneCap)) (ha3.trans e))
        have HL1 : Hid ((VL.take j).length = j) := Lib.hid (by rw [List.length_take]; have := HN.out; omega)
        have HL3 : Hid ((VL.drop j).length = n3) := Lib.hid (by rw [List.length_drop, ← HN.out]; exact hn3)
        have HA1 := Lib.hid ha1
        have HA3 := Lib.hid ha3
        have HN3 := Lib.hid hn3
        have HC3 := Lib.hid hc3
        have hjc : j ≤ cap := Nat.le_trans hj HCP.out
        clear ha1 ha3 hn3 hc3
        obtain ⟨q0, q1, _⟩ := HC.out _ HBU.out
        have l0 := cell_of_blk q0 0
        simp at l0
        clear q0 q1
        go_upto_region 12 with (first | (refine RowK.wpList_pfx (k := kVr) (o := ⟨some 57, _, _, _, _, _⟩) rfl (.tmp 55) (.tmp 56) rfl _ n cap j rfl rfl hjc HA1.out ?_) | (at_builtin; refine RowK.wpList_app (k := kVr) (B := W.heap.size) (v := .slice none 0 0) (l := []) rfl (.tmp 51) (.tmp 57) rfl rfl (RowK.Own.nil kVr _ _) a1 j (VL.take j) cap rfl HL1.out (HV1.out _ HBU.out) HNN1.out (by have := HNM.out; rw [HL1.out]; simp; omega) HBU.out.size ?_; rintro v1 u1 g1; have G1 := Lib.hid g1; clear g1))
        clear l0
        obtain ⟨av1, cv1, hv1⟩ := G1.out.1.shape
        rw [List.nil_append, HL1.out] at hv1
        subst hv1
        have HB1 := Lib.hid (below_then HBU.out (below_nilR G1.out.2.1))
        have HO1 : Hid (kVr.Own u1 W.heap.size (.slice av1 j cv1) (VL.take j)) := Lib.hid G1.out.1
        clear G1
        obtain ⟨q0, q1, _⟩ := HC.out _ HB1.out
        have k0 := cell_of_blk q1 0
        have k1 := cell_of_blk q1 1
        have k2 := cell_of_blk q1 2
        simp at k0 k1 k2
        clear q0 q1
        have HXV : Hid (kVr.V (u1.alloc (.cells #[.int .i64 v.id, .string v.label, .slice a2 n2 c2] 30)) (some ⟨u1.heap.size, 0, none⟩) [(⟨v, a2, c2⟩ : Vr)]) := Lib.hid (fun _ => ⟨_, 0, rfl, RowK.new_at (k := kVr) (heap_new u1 _) (by simp [RowK.cells, kVr, Vr.enc, HN2.out])⟩)
        have HO2 := Lib.hid (HO1.out.alloc (.cells #[.int .i64 v.id, .string v.label, .slice a2 n2 c2] 30))
        have HB2 := Lib.hid (below_then HB1.out (below_box u1 (.cells #[.int .i64 v.id, .string v.label, .slice a2 n2 c2] 30)))
        go_upto_region 13 with ((at_builtin; refine RowK.wpList_app (k := kVr) (B := W.heap.size) (v := .slice av1 j cv1) (l := VL.take j) rfl (.tmp 59) (.tmp 61) rfl rfl HO2.out (some ⟨u1.heap.size, 0, none⟩) 1 [(⟨v, a2, c2⟩ : Vr)] 1 rfl rfl HXV.out (fun e => by cases e) (by have := HNM.out; rw [HL1.out]; simp; omega) HB2.out.size ?_; rintro v2 u2 g2; have G2 := Lib.hid g2; clear g2))
        clear k0 k1 k2
        have HB3 : Hid (Below W.heap.size W u2) := Lib.hid (HB2.out.trans (below_grownR HO2.out G2.out.2.1 HB2.out.size))
        obtain ⟨av2, cv2, hv2⟩ := G2.out.1.shape
        subst hv2
        obtain ⟨m2, hm2⟩ : ∃ m2, m2 = (VL.take j ++ [(⟨v, a2, c2⟩ : Vr)]).length := ⟨_, rfl⟩
        rw [← hm2]
        have HO3 : Hid (kVr.Own u2 W.heap.size (.slice av2 m2 cv2) (VL.take j ++ [(⟨v, a2, c2⟩ : Vr)])) := Lib.hid (by rw [hm2]; exact G2.out.1)
        have HM2 := Lib.hid hm2
        clear hm2 G2
        obtain ⟨q0, _, _⟩ := HC.out _ HB3.out
        have l0 := cell_of_blk q0 0
        simp at l0
        clear q0
        go_wp2_with (first | (refine RowK.wpList_sfx (k := kVr) (o := ⟨some 70, _, _, _, _, _⟩) rfl (.tmp 68) (.tmp 69) rfl _ n cap j rfl rfl hj HA3.out HN3.out HC3.out ?_) | (at_builtin; refine RowK.wpList_app (k := kVr) (B := W.heap.size) (v := .slice av2 m2 cv2) (l := VL.take j ++ [(⟨v, a2, c2⟩ : Vr)]) rfl (.tmp 64) (.tmp 70) rfl rfl HO3.out a3 n3 (VL.drop j) c3 rfl HL3.out (HV3.out _ HB3.out) HNN3.out (by have := HNM.out; have := HL1.out; have := HL3.out; have := HN3.out; simp only [List.length_append, List.length_cons, List.length_nil]; omega) HB3.out.size ?_; rintro v3 u3 g3; obtain ⟨av3, cv3, hv3⟩ := g3.1.shape; obtain ⟨n9, hn9⟩ : ∃ n9, n9 = (VL.take j ++ [(⟨v, a2, c2⟩ : Vr)] ++ VL.drop j).length := ⟨_, rfl⟩; rw [← hn9] at hv3; subst hv3; have HN9 := Lib.hid hn9; have G3 := Lib.hid g3; clear g3 hn9; have HB4 : Hid (Below W.heap.size W u3) := Lib.hid (HB3.out.trans (below_grownR HO3.out G3.out.2.1 HB3.out.size)); have y0 := cell_of_blk (HC.out _ HB4.out).1 0; have f0 := frozen_of_blk (HC.out _ HB4.out).1 0; have z0 : rb < u3.heap.size := (Array.getElem?_eq_some_iff.1 (HC.out _ HB4.out).1).1; simp at y0))
        clear l0 y0 f0
        go_ret
        have hO := G3.out.1
        have hq : u3.setCell ⟨rb, 0, none⟩ (.slice av3 n9 cv3) = u3.setCell ⟨rb, 0, none⟩ (.slice av3 (VL.take j ++ [(⟨v, a2, c2⟩ : Vr)] ++ VL.drop j).length cv3) := by rw [← HN9.out]
        rw [hq]
        rw [HN9.out] at hO
        refine ⟨HADD.out.1, ⟨_, _, HRW.out.layV HB4.out HBW9.out hO (fun x hx => ?_), ?_⟩, ?_⟩
        · rcases List.mem_append.1 hx with hx | hx
          · rcases List.mem_append.1 hx with hx | hx
            · exact .inl (List.mem_of_mem_take hx)
            · obtain rfl : x = (⟨v, a2, c2⟩ : Vr) := by simpa using hx
              exact .inr (HPB.out.below HB4.out)
          · exact .inl (List.mem_of_mem_drop hx)
        · rw [HADD.out.2]
          exact ⟨map_ins (key := Vt.id) (f := Vr.v) (x := (⟨v, a2, c2⟩ : Vr)) HV.out HLT.out (fun y hy => Int.not_lt.2 (HGE.out y hy)), HE.out.symm⟩
        · rw [← hq]
          exact (HCW.out.trans (Chg.of_below HB4.out (fun j => j = rb)) (fun _ _ h => h)).setCell (p := ⟨rb, 0, none⟩) (fun _ => rfl) _
    · have tj : decide ((j : Int) < (n : Int)) = false := decide_eq_false (by omega)
      have HGE : Hid (∀ y, VL[j]? = some y → ¬ y.v.id < v.id) := Lib.hid (fun y hy => by have := (List.getElem?_eq_some_iff.1 hy).1; have := HN.out; omega)
      go_wp2_with fail
      go_quiet (fail)
      go_upto_region 11 with fail
      clear k0 tj
      clear c0
      have HBU : Hid (Below W.heap.size W (wr.drewN nq)) := Lib.hid (below_drewN HBW.out _)
      obtain ⟨a1, ha1⟩ : ∃ a1, kVr.pfx (va : Option Addr) cap = a1 := ⟨_, rfl⟩
      obtain ⟨a3, ha3⟩ : ∃ a3, kVr.sfx (va : Option Addr) cap j = a3 := ⟨_, rfl⟩
      obtain ⟨n3, hn3⟩ : ∃ n3, n - j = n3 := ⟨_, rfl⟩
      obtain ⟨c3, hc3⟩ : ∃ c3, cap - j = c3 := ⟨_, rfl⟩
      have HCP : Hid (n ≤ cap) := Lib.hid (by have := (HC.out _ (Below.refl _ _)).2.2.cap; rw [HN.out]; exact this)
      have HV1 : Hid (∀ u, Below W.heap.size W u → kVr.V u a1 (VL.take j)) := Lib.hid (fun u hu => by rw [← ha1]; exact ((HC.out u hu).2.2.toV).take j cap)
      have HV3 : Hid (∀ u, Below W.heap.size W u → kVr.V u a3 (VL.drop j)) := Lib.hid (fun u hu => by rw [← ha3]; exact ((HC.out u hu).2.2.toV).drop (by rw [← HN.out]; exact HCP.out))
      have HNN1 : Hid (a1 = none → cap = 0) := Lib.hid (fun e => RowK.pfx_none (k := kVr) (a := (va : Option Addr)) (fun (ea : (va : Option Addr) = none) => by first | (cases ea; done) | (have := (HC.out _ (Below.refl _ _)).2.2; rw [ea] at this; exact this.noneCap)) (ha1.trans e))
      have HNN3 : Hid (a3 = none → c3 = 0) := Lib.hid (fun e => by rw [← hc3]; exact RowK.sfx_none (k := kVr) (a := (va : Option Addr)) (fun (ea : (va : Option Addr) = none) => by first | (cases ea; done) | (have := (HC.out _ (Below.refl _ _)).2.2; rw [ea] at this; exact this.noneCap)) (ha3.trans e))
      have HL1 : Hid ((VL.take j).length = j) := Lib.hid (by rw [List.length_take]; have := HN.out; omega)
      have HL3 : Hid ((VL.drop j).length = n3) := Lib.hid (by rw [List.length_drop, ← HN.out]; exact hn3)
      have HA1 := Lib.hid ha1
      have HA3 := Lib.hid ha3
      have HN3 := Lib.hid hn3
      have HC3 := Lib.hid hc3
      have hjc : j ≤ cap := Nat.le_trans hj HCP.out
      clear ha1 ha3 hn3 hc3
      obtain ⟨q0, q1, _⟩ := HC.out _ HBU.out
      have l0 := cell_of_blk q0 0
      simp at l0
      clear q0 q1
      go_upto_region 12 with (first | (refine RowK.wpList_pfx (k := kVr) (o := ⟨some 57, _, _, _, _, _⟩) rfl (.tmp 55) (.tmp 56) rfl _ n cap j rfl rfl hjc HA1.out ?_) | (at_builtin; refine RowK.wpList_app (k := kVr) (B := W.heap.size) (v := .slice none 0 0) (l := []) rfl (.tmp 51) (.tmp 57) rfl rfl (RowK.Own.nil kVr _ _) a1 j (VL.take j) cap rfl HL1.out (HV1.out _ HBU.out) HNN1.out (by have := HNM.out; rw [HL1.out]; simp; omega) HBU.out.size ?_; rintro v1 u1 g1; have G1 := Lib.hid g1; clear g1))
      clear l0
      obtain ⟨av1, cv1, hv1⟩ := G1.out.1.shape
      rw [List.nil_append, HL1.out] at hv1
      subst hv1
      have HB1 := Lib.hid (below_then HBU.out (below_nilR G1.out.2.1))
      have HO1 : Hid (kVr.Own u1 W.heap.size (.slice av1 j cv1) (VL.take j)) := Lib.hid G1.out.1
      clear G1
      obtain ⟨q0, q1, _⟩ := HC.out _ HB1.out
      have k0 := cell_of_blk q1 0
      have k1 := cell_of_blk q1 1
      have k2 := cell_of_blk q1 2
      simp at k0 k1 k2
      clear q0 q1
      have HXV : Hid (kVr.V (u1.alloc (.cells #[.int .i64 v.id, .string v.label, .slice a2 n2 c2] 30)) (some ⟨u1.heap.size, 0, none⟩) [(⟨v, a2, c2⟩ : Vr)]) := Lib.hid (fun _ => ⟨_, 0, rfl, RowK.new_at (k := kVr) (heap_new u1 _) (by simp [RowK.cells, kVr, Vr.enc, HN2.out])⟩)
      have HO2 := Lib.hid (HO1.out.alloc (.cells #[.int .i64 v.id, .string v.label, .slice a2 n2 c2] 30))
      have HB2 := Lib.hid (below_then HB1.out (below_box u1 (.cells #[.int .i64 v.id, .string v.label, .slice a2 n2 c2] 30)))
      go_upto_region 13 with ((at_builtin; refine RowK.wpList_app (k := kVr) (B := W.heap.size) (v := .slice av1 j cv1) (l := VL.take j) rfl (.tmp 59) (.tmp 61) rfl rfl HO2.out (some ⟨u1.heap.size, 0, none⟩) 1 [(⟨v, a2, c2⟩ : Vr)] 1 rfl rfl HXV.out (fun e => by cases e) (by have := HNM.out; rw [HL1.out]; simp; omega) HB2.out.size ?_; rintro v2 u2 g2; have G2 := Lib.hid g2; clear g2))
      clear k0 k1 k2
      have HB3 : Hid (Below W.heap.size W u2) := Lib.hid (HB2.out.trans (below_grownR HO2.out G2.out.2.1 HB2.out.size))
      obtain ⟨av2, cv2, hv2⟩ := G2.out.1.shape
      subst hv2
      obtain ⟨m2, hm2⟩ : ∃ m2, m2 = (VL.take j ++ [(⟨v, a2, c2⟩ : Vr)]).length := ⟨_, rfl⟩
      rw [← hm2]
      have HO3 : Hid (kVr.Own u2 W.heap.size (.slice av2 m2 cv2) (VL.take j ++ [(⟨v, a2, c2⟩ : Vr)])) := Lib.hid (by rw [hm2]; exact G2.out.1)
      have HM2 := Lib.hid hm2
      clear hm2 G2
      obtain ⟨q0, _, _⟩ := HC.out _ HB3.out
      have l0 := cell_of_blk q0 0
      simp at l0
      clear q0
      go_wp2_with (first | (refine RowK.wpList_sfx (k := kVr) (o := ⟨some 70, _, _, _, _, _⟩) rfl (.tmp 68) (.tmp 69) rfl _ n cap j rfl rfl hj HA3.out HN3.out HC3.out ?_) | (at_builtin; refine RowK.wpList_app (k := kVr) (B := W.heap.size) (v := .slice av2 m2 cv2) (l := VL.take j ++ [(⟨v, a2, c2⟩ : Vr)]) rfl (.tmp 64) (.tmp 70) rfl rfl HO3.out a3 n3 (VL.drop j) c3 rfl HL3.out (HV3.out _ HB3.out) HNN3.out (by have := HNM.out; have := HL1.out; have := HL3.out; have := HN3.out; simp only [List.length_append, List.length_cons, List.length_nil]; omega) HB3.out.size ?_; rintro v3 u3 g3; obtain ⟨av3, cv3, hv3⟩ := g3.1.shape; obtain ⟨n9, hn9⟩ : ∃ n9, n9 = (VL.take j ++ [(⟨v, a2, c2⟩ : Vr)] ++ VL.drop j).length := ⟨_, rfl⟩; rw [← hn9] at hv3; subst hv3; have HN9 := Lib.hid hn9; have G3 := Lib.hid g3; clear g3 hn9; have HB4 : Hid (Below W.heap.size W u3) := Lib.hid (HB3.out.trans (below_grownR HO3.out G3.out.2.1 HB3.out.size)); have y0 := cell_of_blk (HC.out _ HB4.out).1 0; have f0 := frozen_of_blk (HC.out _ HB4.out).1 0; have z0 : rb < u3.heap.size := (Array.getElem?_eq_some_iff.1 (HC.out _ HB4.out).1).1; simp at y0))
      clear l0 y0 f0
      go_ret
      have hO := G3.out.1
      have hq : u3.setCell ⟨rb, 0, none⟩ (.slice av3 n9 cv3) = u3.setCell ⟨rb, 0, none⟩ (.slice av3 (VL.take j ++ [(⟨v, a2, c2⟩ : Vr)] ++ VL.drop j).length cv3) := by rw [← HN9.out]
      rw [hq]
      rw [HN9.out] at hO
      refine ⟨HADD.out.1, ⟨_, _, HRW.out.layV HB4.out HBW9.out hO (fun x hx => ?_), ?_⟩, ?_⟩
      · rcases List.mem_append.1 hx with hx | hx
        · rcases List.mem_append.1 hx with hx | hx
          · exact .inl (List.mem_of_mem_take hx)
          · obtain rfl : x = (⟨v, a2, c2⟩ : Vr) := by simpa using hx
            exact .inr (HPB.out.below HB4.out)
        · exact .inl (List.mem_of_mem_drop hx)
      · rw [HADD.out.2]
        exact ⟨map_ins (key := Vt.id) (f := Vr.v) (x := (⟨v, a2, c2⟩ : Vr)) HV.out HLT.out (fun y hy => Int.not_lt.2 (HGE.out y hy)), HE.out.symm⟩
      · rw [← hq]
        exact (HCW.out.trans (Chg.of_below HB4.out (fun j => j = rb)) (fun _ _ h => h)).setCell (p := ⟨rb, 0, none⟩) (fun _ => rfl) _

set_option maxRecDepth 100000 in
set_option maxHeartbeats 4000000 in
theorem r16addE_any {w : World} {rb B : Nat} {VL : List Vr} {EL : List Er} (v : Eg) (a : Option Addr) (c : Nat) (h : RgL w rb B VL EL) (hB : B ≤ w.heap.size) (hp : PsA w a c v.ps) (hl : v.ps.length ≤ 100000) (hid : I64 v.id ∧ I64 v.fr ∧ I64 v.to) (hlab : v.label.size ≤ 2000000) (hvl : VL.length ≤ 500000) (hel : EL.length ≤ 500000) :
    Calls Tryz.prog 18 #[.pointer (some ⟨rb, 0, none⟩), v.val a c] w (RaePost w rb B (VL.map Vr.v) (EL.map Er.e) v) := by
  obtain ⟨V, hV⟩ : ∃ V, V = VL.map Vr.v := ⟨_, rfl⟩
  obtain ⟨E, hE⟩ : ∃ E, E = EL.map Er.e := ⟨_, rfl⟩
  rw [← hV, ← hE]
  have HV := Lib.hid hV
  have HE := Lib.hid hE
  clear hV hE
  have HX0 := Lib.hid (heap_new w (.cells #[.int .i64 v.id, .string v.label, .int .i64 v.fr, .int .i64 v.to, .slice a v.ps.length c] 32))
  have HW0 := Lib.hid ((below_box w (.cells #[.int .i64 v.id, .string v.label, .int .i64 v.fr, .int .i64 v.to, .slice a v.ps.length c] 32)).alloc (by simp) (.cells #[.int .i64 v.id, .int .i64 v.fr, .int .i64 v.to] 3))
  have HIDS : Hid (IsV ((w.alloc (.cells #[.int .i64 v.id, .string v.label, .int .i64 v.fr, .int .i64 v.to, .slice a v.ps.length c] 32)).alloc (.cells #[.int .i64 v.id, .int .i64 v.fr, .int .i64 v.to] 3)) (some ⟨w.heap.size + 1, 0, none⟩) [v.id, v.fr, v.to]) := Lib.hid (ids_at (heap_new2 w _ _) (by simp [hid]))
  have HG := Lib.hid h
  have HPA := Lib.hid hp
  have HPL := Lib.hid hl
  have HID := Lib.hid hid
  have HVL := Lib.hid hvl
  have HEL := Lib.hid hel
  have HLB := Lib.hid hlab
  have HBZ := Lib.hid hB
  clear h hp hl hid hvl hel hlab hB
  unfold Eg.val
  go_enter Tryz.func18, Tryz.ntmps18
  go_wp2_with fail
  refine (r16check_any v.label a _ c 3 v.ps [v.id, v.fr, v.to] _ HLB.out (HPA.out.v.below HW0.out) HIDS.out HPL.out (by simp)).mono ?_
  rintro e w1 ⟨rfl, b1⟩
  have HB1 : Hid (w1.heap[w.heap.size]? = some (.cells #[.int .i64 v.id, .string v.label, .int .i64 v.fr, .int .i64 v.to, .slice a v.ps.length c] 32)) := Lib.hid ((b1.block _ (by simp; omega)).trans ((Below.heap_alloc _ _ _ (by simp)).trans HX0.out))
  have HBW : Hid (Below w.heap.size w w1) := Lib.hid (HW0.out.trans (b1.mono (by simp; omega)))
  replace HPA : Hid (PsA w1 a c v.ps) := Lib.hid (HPA.out.below HBW.out)
  have HG1 : Hid (RgL w1 rb B VL EL) := Lib.hid (HG.out.below HBW.out)
  have HKB : Hid (w.heap.size < w1.heap.size ∧ B ≤ w.heap.size) := Lib.hid ⟨(Array.getElem?_eq_some_iff.1 HB1.out).1, HBZ.out⟩
  clear b1 HIDS HX0 HW0
  by_cases hck : checkR v.label v.ps [v.id, v.fr, v.to] = 0
  case neg =>
    have HCK := Lib.hid hck
    have t1 : (checkR v.label v.ps [v.id, v.fr, v.to] != 0) = true := by simp [hck]
    clear hck
    go_wp2_with fail
    go_ret
    unfold RaePost addE
    rw [if_neg HCK.out]
    exact ⟨rfl, ⟨VL, EL, HG1.out, HV.out.symm, HE.out.symm⟩, Chg.of_below HBW.out _⟩
  case pos =>
  rw [hck]
  have HCK := Lib.hid hck
  clear hck
  have k0 := cell_of_blk HB1.out 0
  have k2 := cell_of_blk HB1.out 2
  have k3 := cell_of_blk HB1.out 3

  simp at k0 k2 k3
  have hz1 := HKB.out.1
  go_wp2_with fail
  refine (r16E_any HG1.out (by have := HEL.out; omega) v.id).mono ?_
  rintro e w2 ⟨rfl, r, rfl, hr⟩
  rcases hr with ⟨rfl, hno⟩ | ⟨i, x, rfl, hx, hk⟩
  rotate_left
  · have HA : Hid (addE V E v = (31, E)) := Lib.hid (by
      have hf : (findB Eg.id E v.id).isSome = true := find_some_of (x := x.e) (by rw [HE.out]; exact List.mem_map.2 ⟨x, List.mem_of_getElem? hx, rfl⟩) hk
      unfold addE
      rw [if_pos HCK.out, if_pos hf])
    clear hx hk
    have t1 : decide ((0 : Int) ≤ (i : Int)) = true := by simp
    go_wp2_with fail
    go_ret
    unfold RaePost
    rw [HA.out]
    exact ⟨rfl, ⟨VL, EL, HG1.out, HV.out.symm, HE.out.symm⟩, Chg.of_below HBW.out _⟩
  have HFE : Hid (findB Eg.id E v.id = none) := Lib.hid (findB_none.2 (fun y hy => by
    rw [HE.out] at hy
    obtain ⟨x, hx, rfl⟩ := List.mem_map.1 hy
    exact hno x hx))
  have hno2 := Lib.hid hno
  clear hno
  go_wp2_with fail
  refine (r16V_any HG1.out (by have := HVL.out; omega) v.fr).mono ?_
  rintro e w2 ⟨rfl, r, rfl, hr⟩
  rcases hr with ⟨rfl, hnf⟩ | ⟨i, x, rfl, hx, hk⟩
  · have hv := (findB_none.2 (fun y hy => by rw [HV.out] at hy; obtain ⟨x, hx, rfl⟩ := List.mem_map.1 hy; exact hnf x hx) : findB Vt.id V v.fr = none)
    have HFV := Lib.hid hv
    clear hv
    have HA : Hid (addE V E v = (101, E)) := Lib.hid (by
      unfold addE
      rw [if_pos HCK.out, HFE.out]
      simp only [Option.isSome_none, Bool.false_eq_true, if_false]
      rw [if_pos (by rw [HFV.out]; simp)])
    clear hnf
    go_wp2_with fail
    go_ret
    unfold RaePost
    rw [HA.out]
    exact ⟨rfl, ⟨VL, EL, HG1.out, HV.out.symm, HE.out.symm⟩, Chg.of_below HBW.out _⟩
  have HF1 : Hid ((findB Vt.id V v.fr).isSome = true) := Lib.hid (find_some_of (x := x.v) (by rw [HV.out]; exact List.mem_map.2 ⟨x, List.mem_of_getElem? hx, rfl⟩) hk)
  clear hx hk
  have t1 : decide ((i : Int) < 0) = false := by simp
  go_wp2_with fail
  refine (r16V_any HG1.out (by have := HVL.out; omega) v.to).mono ?_
  rintro e w2 ⟨rfl, r, rfl, hr⟩
  rcases hr with ⟨rfl, hnf⟩ | ⟨i2, x2, rfl, hx, hk⟩
  · have hv := (findB_none.2 (fun y hy => by rw [HV.out] at hy; obtain ⟨x, hx, rfl⟩ := List.mem_map.1 hy; exact hnf x hx) : findB Vt.id V v.to = none)
    have HFV := Lib.hid hv
    clear hv
    have HA : Hid (addE V E v = (101, E)) := Lib.hid (by
      unfold addE
      rw [if_pos HCK.out, HFE.out]
      simp only [Option.isSome_none, Bool.false_eq_true, if_false]
      rw [if_pos (by rw [HFV.out]; simp)])
    clear hnf
    go_wp2_with fail
    go_ret
    unfold RaePost
    rw [HA.out]
    exact ⟨rfl, ⟨VL, EL, HG1.out, HV.out.symm, HE.out.symm⟩, Chg.of_below HBW.out _⟩
  have HF2 : Hid ((findB Vt.id V v.to).isSome = true) := Lib.hid (find_some_of (x := x2.v) (by rw [HV.out]; exact List.mem_map.2 ⟨x2, List.mem_of_getElem? hx, rfl⟩) hk)
  clear hx hk
  have t2 : decide ((i2 : Int) < 0) = false := by simp
  have hno := hno2.out
  have HF : Hid (∀ x ∈ EL, x.e.id ≠ v.id) := Lib.hid hno
  have HADD : Hid ((Ending.returned (.int .i64 0)) = .returned (.int .i64 (addE V E v).1) ∧ (addE V E v).2 = insB Eg.id v E) := Lib.hid (by
    unfold addE
    rw [if_pos HCK.out, HFE.out]
    simp only [Option.isSome_none, Bool.false_eq_true, if_false]
    rw [if_neg (by simp only [Bool.or_eq_true, not_or, Option.isNone_iff_eq_none]; exact ⟨(fun e => by have := HF1.out; rw [e] at this; cases this), (fun e => by have := HF2.out; rw [e] at this; cases this)⟩)]
    exact ⟨rfl, rfl⟩)
  clear hno
  have HE0 : Hid (kP.Own (w1.alloc (.cells #[] 62)) w1.heap.size (.slice (some ⟨w1.heap.size, 0, none⟩) 0 0) []) := Lib.hid (RowK.Own.new (k := kP) (l := []) (heap_new w1 (.cells #[] 62)) (Nat.le_refl _) rfl (Nat.zero_le _))
  have HPV : Hid (kP.V (w1.alloc (.cells #[] 62)) a v.ps) := Lib.hid ((HPA.out.below (below_box w1 _)).v.kP)
  have HPN : Hid (a = none → c = 0) := Lib.hid (fun e => (HPA.out.nil e).1)
  have HPL' : Hid (([] : List Pr).length + v.ps.length ≤ 4000000) := Lib.hid (by have := HPL.out; simp; omega)
  have p0 := cell_of_blk ((Below.heap_alloc w1 (.cells #[] 62) w.heap.size hz1).trans HB1.out) 4
  simp at p0
  go_upto_region 9 with (first | (at_builtin; refine RowK.wpList_app (k := kP) (B := w1.heap.size) (v := .slice (some ⟨w1.heap.size, 0, none⟩) 0 0) (l := []) rfl (.tmp 40) (.tmp 42) rfl rfl HE0.out a v.ps.length v.ps c rfl rfl HPV.out HPN.out HPL'.out (by simp) ?_; rintro v8 u8 g8; obtain ⟨a2, c2, hv8⟩ := g8.1.shape; rw [List.nil_append] at hv8 g8; subst hv8; have G8 := Lib.hid g8; clear g8; have HB8 : Hid (Below w1.heap.size w1 u8) := Lib.hid ((below_box w1 _).trans (below_grownR HE0.out G8.out.2.1 (by simp))); have y0 := cell_of_blk ((HB8.out.block _ HKB.out.1).trans HB1.out) 4; have f0 := frozen_of_blk ((HB8.out.block _ HKB.out.1).trans HB1.out) 4; have z0 : w.heap.size < u8.heap.size := Nat.lt_of_lt_of_le HKB.out.1 HB8.out.size; simp at y0) | fail)
  obtain ⟨n2, hn2⟩ : ∃ n2, n2 = v.ps.length := ⟨_, rfl⟩
  have HN2 := Lib.hid hn2
  rw [← hn2]
  obtain ⟨W, hW⟩ : ∃ W, W = u8.setCell ⟨w.heap.size, 4, none⟩ (.slice a2 n2 c2) := ⟨_, rfl⟩
  rw [← hW]
  have HWB : Hid (W.heap[w.heap.size]? = some (.cells #[.int .i64 v.id, .string v.label, .int .i64 v.fr, .int .i64 v.to, .slice a2 n2 c2] 32)) := Lib.hid (by rw [hW, blk_setCell ((HB8.out.block _ HKB.out.1).trans HB1.out)]; simp)
  have HZW : Hid (W.heap.size = u8.heap.size) := Lib.hid (by rw [hW]; simp)
  have HBW2 : Hid (Below w.heap.size w W) := Lib.hid (by rw [hW]; exact (HBW.out.trans (HB8.out.mono HBW.out.size)).setCell (Nat.le_refl _) _)
  have HRW : Hid (RgL W rb B VL EL) := Lib.hid (HG.out.below HBW2.out)
  have HCW : Hid (Chg w W (fun j => j = rb)) := Lib.hid (Chg.of_below HBW2.out _)
  have HBW9 : Hid (B ≤ W.heap.size) := Lib.hid (Nat.le_trans HBZ.out HBW2.out.size)
  have HPB : Hid (PsB W B a2 c2 v.ps) := Lib.hid (by
    have ho : kP.Own W w1.heap.size (.slice a2 v.ps.length c2) v.ps := by
      rw [hW]
      exact G8.out.1.chg (S := fun i => i = w.heap.size) ((Chg.refl u8 (fun i => i = w.heap.size)).setCell (p := ⟨w.heap.size, 4, none⟩) (fun _ => rfl) _) (fun j hj e => by have := (G8.out.1.lt j hj).1; have := HKB.out.1; omega)
    exact psB_own ho HPA.out.v.ok (Nat.le_trans HKB.out.2 (Nat.le_of_lt HKB.out.1)))
  obtain ⟨n, hn⟩ : ∃ n, n = EL.length := ⟨_, rfl⟩
  have HC0 : Hid (∃ va cap ea ec, (∀ u : World, Below W.heap.size W u → u.heap[rb]? = some (.cells #[.slice ea VL.length ec, .slice va n cap] 36 (0, 0)) ∧ u.heap[w.heap.size]? = some (.cells #[.int .i64 v.id, .string v.label, .int .i64 v.fr, .int .i64 v.to, .slice a2 n2 c2] 32 (0, 0)) ∧ kEr.Own u B (.slice va n cap) EL)) := Lib.hid (by
    obtain ⟨⟨va, vc, ea, ec, h1, h2, h3⟩, _, _, _⟩ := HRW.out
    rw [hn]
    exact ⟨ea, ec, va, vc, fun u hu => ⟨(hu.block _ (Array.getElem?_eq_some_iff.1 h1).1).trans h1, (hu.block _ (Array.getElem?_eq_some_iff.1 HWB.out).1).trans HWB.out, h3.below hu⟩⟩)
  have HN := Lib.hid hn
  have HNM : Hid (n ≤ 500000) := Lib.hid (by rw [hn]; exact HEL.out)
  clear hn2 hn hW p0
  obtain ⟨va, cap, ea, ec, hc⟩ := HC0.out
  have HC := Lib.hid hc
  clear hc HC0
  have HI0 : Hid (Below W.heap.size W W) := Lib.hid (Below.refl _ _)
  go_wp2_with fail
  go_loopw [6] (fun i wr => ∃ j : Nat, j ≤ n ∧ i = .int .i64 j ∧ Hid (∀ j' x, j' < j → EL[j']? = some x → x.e.id < v.id) ∧ Hid (Below W.heap.size W wr)) (fun i _ => n - (intOf i).toNat)
  case atStart => exact ⟨0, Nat.zero_le _, rfl, Lib.hid (fun _ _ h => absurd h (Nat.not_lt_zero _)), HI0⟩
  case round =>
    obtain ⟨j, hj, rfl, HLT, HBW⟩ := hrel
    have hnm := HNM.out
    obtain ⟨e1, e2, _⟩ := HC.out _ HBW.out
    have c0 := cell_of_blk e1 1
    have k0 := cell_of_blk e2 0
    simp at c0 k0
    have z1 : rb < wr.heap.size := (Array.getElem?_eq_some_iff.1 e1).1
    have z2 : w.heap.size < wr.heap.size := (Array.getElem?_eq_some_iff.1 e2).1
    clear e1 e2
    by_cases hlt : j < n
    · have hne : EL ≠ [] := fun e => by have := HN.out; rw [e] at this; simp at this; omega
      obtain ⟨b, cp, hbe, _, _, hat⟩ := (HC.out _ HBW.out).2.2.at' hne
      injection hbe with e1 e2 e3
      subst e1
      clear e2 e3
      obtain ⟨x, hx⟩ : ∃ x, EL[j]? = some x := ⟨_, List.getElem?_eq_getElem (by have := HN.out; omega)⟩
      have x0 := hat.cells j x hx 0 _ rfl
      simp [kEr] at x0
      have hbl := hat.lt
      have HX := Lib.hid hx
      clear hat hx hne
      by_cases he : x.e.id < v.id
      · have HE := Lib.hid he
        have t3 : decide (x.e.id < v.id) = true := decide_eq_true he
        go_wp2_with fail
        go_quiet (fail)
        go_wp2_with fail
        refine ⟨⟨j + 1, hlt, by simp, Lib.hid (fun j' y hj' hy => ?_), Lib.hid (below_drewN HBW.out _)⟩, by simp [intOf]; omega⟩
        by_cases e : j' < j
        · exact HLT.out j' y e hy
        · obtain rfl : j' = j := by omega
          rw [HX.out] at hy
          injection hy with hy
          subst hy
          exact HE.out
      · have HGE : Hid (∀ y, EL[j]? = some y → ¬ y.e.id < v.id) := Lib.hid (fun y hy => by rw [HX.out] at hy; injection hy with hy; subst hy; exact he)
        have t3 : decide (x.e.id < v.id) = false := decide_eq_false he
        clear he
        go_wp2_with fail
        go_quiet (fail)
        go_upto_region 13 with fail
        clear t3 x0 k0
        clear c0
        have HBU : Hid (Below W.heap.size W (wr.drewN nq)) := Lib.hid (below_drewN HBW.out _)
        obtain ⟨a1, ha1⟩ : ∃ a1, kEr.pfx ((some ⟨b, 0, none⟩) : Option Addr) cap = a1 := ⟨_, rfl⟩
        obtain ⟨a3, ha3⟩ : ∃ a3, kEr.sfx ((some ⟨b, 0, none⟩) : Option Addr) cap j = a3 := ⟨_, rfl⟩
        obtain ⟨n3, hn3⟩ : ∃ n3, n - j = n3 := ⟨_, rfl⟩
        obtain ⟨c3, hc3⟩ : ∃ c3, cap - j = c3 := ⟨_, rfl⟩
        have HCP : Hid (n ≤ cap) := Lib.hid (by have := (HC.out _ (Below.refl _ _)).2.2.cap; rw [HN.out]; exact this)
        have HV1 : Hid (∀ u, Below W.heap.size W u → kEr.V u a1 (EL.take j)) := Lib.hid (fun u hu => by rw [← ha1]; exact ((HC.out u hu).2.2.toV).take j cap)
        have HV3 : Hid (∀ u, Below W.heap.size W u → kEr.V u a3 (EL.drop j)) := Lib.hid (fun u hu => by rw [← ha3]; exact ((HC.out u hu).2.2.toV).drop (by rw [← HN.out]; exact HCP.out))
        have HNN1 : Hid (a1 = none → cap = 0) := Lib.hid (fun e => RowK.pfx_none (k := kEr) (a := ((some ⟨b, 0, none⟩) : Option Addr)) (fun (ea : ((some ⟨b, 0, none⟩) : Option Addr) = none) => by first | (cases ea; done) | (have := (HC.out _ (Below.refl _ _)).2.2; rw [ea] at this; exact this.noneCap)) (ha1.trans e))
        have HNN3 : Hid (a3 = none → c3 = 0) := Lib.hid (fun e => by rw [← hc3]; exact RowK.sfx_none (k := kEr) (a := ((some ⟨b, 0, none⟩) : Option Addr)) (fun (ea : ((some ⟨b, 0, none⟩) : Option Addr) = none) => by first | (cases ea; done) | (have := (HC.out _ (Below.refl _ _)).2.2; rw [ea] at this; exact this.noneCap)) (ha3.trans e))
        have HL1 : Hid ((EL.take j).length = j) := Lib.hid (by rw [List.length_take]; have := HN.out; omega)
        have HL3 : Hid ((EL.drop j).length = n3) := Lib.hid (by rw [List.length_drop, ← HN.out]; exact hn3)
        have HA1 := Lib.hid ha1
        have HA3 := Lib.hid ha3
        have HN3 := Lib.hid hn3
        have HC3 := Lib.hid hc3
        have hjc : j ≤ cap := Nat.le_trans hj HCP.out
        clear ha1 ha3 hn3 hc3
        obtain ⟨q0, q1, _⟩ := HC.out _ HBU.out
        have l0 := cell_of_blk q0 1
        simp at l0
        clear q0 q1
        go_upto_region 14 with (first | (refine RowK.wpList_pfx (k := kEr) (o := ⟨some 73, _, _, _, _, _⟩) rfl (.tmp 71) (.tmp 72) rfl _ n cap j rfl rfl hjc HA1.out ?_) | (at_builtin; refine RowK.wpList_app (k := kEr) (B := W.heap.size) (v := .slice none 0 0) (l := []) rfl (.tmp 67) (.tmp 73) rfl rfl (RowK.Own.nil kEr _ _) a1 j (EL.take j) cap rfl HL1.out (HV1.out _ HBU.out) HNN1.out (by have := HNM.out; rw [HL1.out]; simp; omega) HBU.out.size ?_; rintro v1 u1 g1; have G1 := Lib.hid g1; clear g1))
        clear l0
        obtain ⟨av1, cv1, hv1⟩ := G1.out.1.shape
        rw [List.nil_append, HL1.out] at hv1
        subst hv1
        have HB1 := Lib.hid (below_then HBU.out (below_nilR G1.out.2.1))
        have HO1 : Hid (kEr.Own u1 W.heap.size (.slice av1 j cv1) (EL.take j)) := Lib.hid G1.out.1
        clear G1
        obtain ⟨q0, q1, _⟩ := HC.out _ HB1.out
        have k0 := cell_of_blk q1 0
        have k1 := cell_of_blk q1 1
        have k2 := cell_of_blk q1 2
        have k3 := cell_of_blk q1 3
        have k4 := cell_of_blk q1 4
        simp at k0 k1 k2 k3 k4
        clear q0 q1
        have HXV : Hid (kEr.V (u1.alloc (.cells #[.int .i64 v.id, .string v.label, .int .i64 v.fr, .int .i64 v.to, .slice a2 n2 c2] 32)) (some ⟨u1.heap.size, 0, none⟩) [(⟨v, a2, c2⟩ : Er)]) := Lib.hid (fun _ => ⟨_, 0, rfl, RowK.new_at (k := kEr) (heap_new u1 _) (by simp [RowK.cells, kEr, Er.enc, HN2.out])⟩)
        have HO2 := Lib.hid (HO1.out.alloc (.cells #[.int .i64 v.id, .string v.label, .int .i64 v.fr, .int .i64 v.to, .slice a2 n2 c2] 32))
        have HB2 := Lib.hid (below_then HB1.out (below_box u1 (.cells #[.int .i64 v.id, .string v.label, .int .i64 v.fr, .int .i64 v.to, .slice a2 n2 c2] 32)))
        go_upto_region 15 with ((at_builtin; refine RowK.wpList_app (k := kEr) (B := W.heap.size) (v := .slice av1 j cv1) (l := EL.take j) rfl (.tmp 75) (.tmp 77) rfl rfl HO2.out (some ⟨u1.heap.size, 0, none⟩) 1 [(⟨v, a2, c2⟩ : Er)] 1 rfl rfl HXV.out (fun e => by cases e) (by have := HNM.out; rw [HL1.out]; simp; omega) HB2.out.size ?_; rintro v2 u2 g2; have G2 := Lib.hid g2; clear g2))
        clear k0 k1 k2 k3 k4
        have HB3 : Hid (Below W.heap.size W u2) := Lib.hid (HB2.out.trans (below_grownR HO2.out G2.out.2.1 HB2.out.size))
        obtain ⟨av2, cv2, hv2⟩ := G2.out.1.shape
        subst hv2
        obtain ⟨m2, hm2⟩ : ∃ m2, m2 = (EL.take j ++ [(⟨v, a2, c2⟩ : Er)]).length := ⟨_, rfl⟩
        rw [← hm2]
        have HO3 : Hid (kEr.Own u2 W.heap.size (.slice av2 m2 cv2) (EL.take j ++ [(⟨v, a2, c2⟩ : Er)])) := Lib.hid (by rw [hm2]; exact G2.out.1)
        have HM2 := Lib.hid hm2
        clear hm2 G2
        obtain ⟨q0, _, _⟩ := HC.out _ HB3.out
        have l0 := cell_of_blk q0 1
        simp at l0
        clear q0
        go_wp2_with (first | (refine RowK.wpList_sfx (k := kEr) (o := ⟨some 86, _, _, _, _, _⟩) rfl (.tmp 84) (.tmp 85) rfl _ n cap j rfl rfl hj HA3.out HN3.out HC3.out ?_) | (at_builtin; refine RowK.wpList_app (k := kEr) (B := W.heap.size) (v := .slice av2 m2 cv2) (l := EL.take j ++ [(⟨v, a2, c2⟩ : Er)]) rfl (.tmp 80) (.tmp 86) rfl rfl HO3.out a3 n3 (EL.drop j) c3 rfl HL3.out (HV3.out _ HB3.out) HNN3.out (by have := HNM.out; have := HL1.out; have := HL3.out; have := HN3.out; simp only [List.length_append, List.length_cons, List.length_nil]; omega) HB3.out.size ?_; rintro v3 u3 g3; obtain ⟨av3, cv3, hv3⟩ := g3.1.shape; obtain ⟨n9, hn9⟩ : ∃ n9, n9 = (EL.take j ++ [(⟨v, a2, c2⟩ : Er)] ++ EL.drop j).length := ⟨_, rfl⟩; rw [← hn9] at hv3; subst hv3; have HN9 := Lib.hid hn9; have G3 := Lib.hid g3; clear g3 hn9; have HB4 : Hid (Below W.heap.size W u3) := Lib.hid (HB3.out.trans (below_grownR HO3.out G3.out.2.1 HB3.out.size)); have y0 := cell_of_blk (HC.out _ HB4.out).1 1; have f0 := frozen_of_blk (HC.out _ HB4.out).1 1; have z0 : rb < u3.heap.size := (Array.getElem?_eq_some_iff.1 (HC.out _ HB4.out).1).1; simp at y0))
        clear l0 y0 f0
        go_ret
        have hO := G3.out.1
        have hq : u3.setCell ⟨rb, 1, none⟩ (.slice av3 n9 cv3) = u3.setCell ⟨rb, 1, none⟩ (.slice av3 (EL.take j ++ [(⟨v, a2, c2⟩ : Er)] ++ EL.drop j).length cv3) := by rw [← HN9.out]
        rw [hq]
        rw [HN9.out] at hO
        refine ⟨HADD.out.1, ⟨_, _, HRW.out.layE HB4.out HBW9.out hO (fun x hx => ?_), ?_⟩, ?_⟩
        · rcases List.mem_append.1 hx with hx | hx
          · rcases List.mem_append.1 hx with hx | hx
            · exact .inl (List.mem_of_mem_take hx)
            · obtain rfl : x = (⟨v, a2, c2⟩ : Er) := by simpa using hx
              exact .inr (HPB.out.below HB4.out)
          · exact .inl (List.mem_of_mem_drop hx)
        · rw [HADD.out.2]
          exact ⟨HV.out.symm, map_ins (key := Eg.id) (f := Er.e) (x := (⟨v, a2, c2⟩ : Er)) HE.out HLT.out (fun y hy => Int.not_lt.2 (HGE.out y hy))⟩
        · rw [← hq]
          exact (HCW.out.trans (Chg.of_below HB4.out (fun j => j = rb)) (fun _ _ h => h)).setCell (p := ⟨rb, 1, none⟩) (fun _ => rfl) _
    · have tj : decide ((j : Int) < (n : Int)) = false := decide_eq_false (by omega)
      have HGE : Hid (∀ y, EL[j]? = some y → ¬ y.e.id < v.id) := Lib.hid (fun y hy => by have := (List.getElem?_eq_some_iff.1 hy).1; have := HN.out; omega)
      go_wp2_with fail
      go_quiet (fail)
      go_upto_region 13 with fail
      clear k0 tj
      clear c0
      have HBU : Hid (Below W.heap.size W (wr.drewN nq)) := Lib.hid (below_drewN HBW.out _)
      obtain ⟨a1, ha1⟩ : ∃ a1, kEr.pfx (va : Option Addr) cap = a1 := ⟨_, rfl⟩
      obtain ⟨a3, ha3⟩ : ∃ a3, kEr.sfx (va : Option Addr) cap j = a3 := ⟨_, rfl⟩
      obtain ⟨n3, hn3⟩ : ∃ n3, n - j = n3 := ⟨_, rfl⟩
      obtain ⟨c3, hc3⟩ : ∃ c3, cap - j = c3 := ⟨_, rfl⟩
      have HCP : Hid (n ≤ cap) := Lib.hid (by have := (HC.out _ (Below.refl _ _)).2.2.cap; rw [HN.out]; exact this)
      have HV1 : Hid (∀ u, Below W.heap.size W u → kEr.V u a1 (EL.take j)) := Lib.hid (fun u hu => by rw [← ha1]; exact ((HC.out u hu).2.2.toV).take j cap)
      have HV3 : Hid (∀ u, Below W.heap.size W u → kEr.V u a3 (EL.drop j)) := Lib.hid (fun u hu => by rw [← ha3]; exact ((HC.out u hu).2.2.toV).drop (by rw [← HN.out]; exact HCP.out))
      have HNN1 : Hid (a1 = none → cap = 0) := Lib.hid (fun e => RowK.pfx_none (k := kEr) (a := (va : Option Addr)) (fun (ea : (va : Option Addr) = none) => by first | (cases ea; done) | (have := (HC.out _ (Below.refl _ _)).2.2; rw [ea] at this; exact this.noneCap)) (ha1.trans e))
      have HNN3 : Hid (a3 = none → c3 = 0) := Lib.hid (fun e => by rw [← hc3]; exact RowK.sfx_none (k := kEr) (a := (va : Option Addr)) (fun (ea : (va : Option Addr) = none) => by first | (cases ea; done) | (have := (HC.out _ (Below.refl _ _)).2.2; rw [ea] at this; exact this.noneCap)) (ha3.trans e))
      have HL1 : Hid ((EL.take j).length = j) := Lib.hid (by rw [List.length_take]; have := HN.out; omega)
      have HL3 : Hid ((EL.drop j).length = n3) := Lib.hid (by rw [List.length_drop, ← HN.out]; exact hn3)
      have HA1 := Lib.hid ha1
      have HA3 := Lib.hid ha3
      have HN3 := Lib.hid hn3
      have HC3 := Lib.hid hc3
      have hjc : j ≤ cap := Nat.le_trans hj HCP.out
      clear ha1 ha3 hn3 hc3
      obtain ⟨q0, q1, _⟩ := HC.out _ HBU.out
      have l0 := cell_of_blk q0 1
      simp at l0
      clear q0 q1
      go_upto_region 14 with (first | (refine RowK.wpList_pfx (k := kEr) (o := ⟨some 73, _, _, _, _, _⟩) rfl (.tmp 71) (.tmp 72) rfl _ n cap j rfl rfl hjc HA1.out ?_) | (at_builtin; refine RowK.wpList_app (k := kEr) (B := W.heap.size) (v := .slice none 0 0) (l := []) rfl (.tmp 67) (.tmp 73) rfl rfl (RowK.Own.nil kEr _ _) a1 j (EL.take j) cap rfl HL1.out (HV1.out _ HBU.out) HNN1.out (by have := HNM.out; rw [HL1.out]; simp; omega) HBU.out.size ?_; rintro v1 u1 g1; have G1 := Lib.hid g1; clear g1))
      clear l0
      obtain ⟨av1, cv1, hv1⟩ := G1.out.1.shape
      rw [List.nil_append, HL1.out] at hv1
      subst hv1
      have HB1 := Lib.hid (below_then HBU.out (below_nilR G1.out.2.1))
      have HO1 : Hid (kEr.Own u1 W.heap.size (.slice av1 j cv1) (EL.take j)) := Lib.hid G1.out.1
      clear G1
      obtain ⟨q0, q1, _⟩ := HC.out _ HB1.out
      have k0 := cell_of_blk q1 0
      have k1 := cell_of_blk q1 1
      have k2 := cell_of_blk q1 2
      have k3 := cell_of_blk q1 3
      have k4 := cell_of_blk q1 4
      simp at k0 k1 k2 k3 k4
      clear q0 q1
      have HXV : Hid (kEr.V (u1.alloc (.cells #[.int .i64 v.id, .string v.label, .int .i64 v.fr, .int .i64 v.to, .slice a2 n2 c2] 32)) (some ⟨u1.heap.size, 0, none⟩) [(⟨v, a2, c2⟩ : Er)]) := Lib.hid (fun _ => ⟨_, 0, rfl, RowK.new_at (k := kEr) (heap_new u1 _) (by simp [RowK.cells, kEr, Er.enc, HN2.out])⟩)
      have HO2 := Lib.hid (HO1.out.alloc (.cells #[.int .i64 v.id, .string v.label, .int .i64 v.fr, .int .i64 v.to, .slice a2 n2 c2] 32))
      have HB2 := Lib.hid (below_then HB1.out (below_box u1 (.cells #[.int .i64 v.id, .string v.label, .int .i64 v.fr, .int .i64 v.to, .slice a2 n2 c2] 32)))
      go_upto_region 15 with ((at_builtin; refine RowK.wpList_app (k := kEr) (B := W.heap.size) (v := .slice av1 j cv1) (l := EL.take j) rfl (.tmp 75) (.tmp 77) rfl rfl HO2.out (some ⟨u1.heap.size, 0, none⟩) 1 [(⟨v, a2, c2⟩ : Er)] 1 rfl rfl HXV.out (fun e => by cases e) (by have := HNM.out; rw [HL1.out]; simp; omega) HB2.out.size ?_; rintro v2 u2 g2; have G2 := Lib.hid g2; clear g2))
      clear k0 k1 k2 k3 k4
      have HB3 : Hid (Below W.heap.size W u2) := Lib.hid (HB2.out.trans (below_grownR HO2.out G2.out.2.1 HB2.out.size))
      obtain ⟨av2, cv2, hv2⟩ := G2.out.1.shape
      subst hv2
      obtain ⟨m2, hm2⟩ : ∃ m2, m2 = (EL.take j ++ [(⟨v, a2, c2⟩ : Er)]).length := ⟨_, rfl⟩
      rw [← hm2]
      have HO3 : Hid (kEr.Own u2 W.heap.size (.slice av2 m2 cv2) (EL.take j ++ [(⟨v, a2, c2⟩ : Er)])) := Lib.hid (by rw [hm2]; exact G2.out.1)
      have HM2 := Lib.hid hm2
      clear hm2 G2
      obtain ⟨q0, _, _⟩ := HC.out _ HB3.out
      have l0 := cell_of_blk q0 1
      simp at l0
      clear q0
      go_wp2_with (first | (refine RowK.wpList_sfx (k := kEr) (o := ⟨some 86, _, _, _, _, _⟩) rfl (.tmp 84) (.tmp 85) rfl _ n cap j rfl rfl hj HA3.out HN3.out HC3.out ?_) | (at_builtin; refine RowK.wpList_app (k := kEr) (B := W.heap.size) (v := .slice av2 m2 cv2) (l := EL.take j ++ [(⟨v, a2, c2⟩ : Er)]) rfl (.tmp 80) (.tmp 86) rfl rfl HO3.out a3 n3 (EL.drop j) c3 rfl HL3.out (HV3.out _ HB3.out) HNN3.out (by have := HNM.out; have := HL1.out; have := HL3.out; have := HN3.out; simp only [List.length_append, List.length_cons, List.length_nil]; omega) HB3.out.size ?_; rintro v3 u3 g3; obtain ⟨av3, cv3, hv3⟩ := g3.1.shape; obtain ⟨n9, hn9⟩ : ∃ n9, n9 = (EL.take j ++ [(⟨v, a2, c2⟩ : Er)] ++ EL.drop j).length := ⟨_, rfl⟩; rw [← hn9] at hv3; subst hv3; have HN9 := Lib.hid hn9; have G3 := Lib.hid g3; clear g3 hn9; have HB4 : Hid (Below W.heap.size W u3) := Lib.hid (HB3.out.trans (below_grownR HO3.out G3.out.2.1 HB3.out.size)); have y0 := cell_of_blk (HC.out _ HB4.out).1 1; have f0 := frozen_of_blk (HC.out _ HB4.out).1 1; have z0 : rb < u3.heap.size := (Array.getElem?_eq_some_iff.1 (HC.out _ HB4.out).1).1; simp at y0))
      clear l0 y0 f0
      go_ret
      have hO := G3.out.1
      have hq : u3.setCell ⟨rb, 1, none⟩ (.slice av3 n9 cv3) = u3.setCell ⟨rb, 1, none⟩ (.slice av3 (EL.take j ++ [(⟨v, a2, c2⟩ : Er)] ++ EL.drop j).length cv3) := by rw [← HN9.out]
      rw [hq]
      rw [HN9.out] at hO
      refine ⟨HADD.out.1, ⟨_, _, HRW.out.layE HB4.out HBW9.out hO (fun x hx => ?_), ?_⟩, ?_⟩
      · rcases List.mem_append.1 hx with hx | hx
        · rcases List.mem_append.1 hx with hx | hx
          · exact .inl (List.mem_of_mem_take hx)
          · obtain rfl : x = (⟨v, a2, c2⟩ : Er) := by simpa using hx
            exact .inr (HPB.out.below HB4.out)
        · exact .inl (List.mem_of_mem_drop hx)
      · rw [HADD.out.2]
        exact ⟨HV.out.symm, map_ins (key := Eg.id) (f := Er.e) (x := (⟨v, a2, c2⟩ : Er)) HE.out HLT.out (fun y hy => Int.not_lt.2 (HGE.out y hy))⟩
      · rw [← hq]
        exact (HCW.out.trans (Chg.of_below HB4.out (fun j => j = rb)) (fun _ _ h => h)).setCell (p := ⟨rb, 1, none⟩) (fun _ => rfl) _

end Go.Proofs.YtkbmipmegljidaaGreat
