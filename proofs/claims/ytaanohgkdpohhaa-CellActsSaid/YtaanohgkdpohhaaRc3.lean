/- The reference's drop. Conditions: the contract's own premises. -/
import Derived.Test.YtaanohgkdpohhaaRc2
namespace Go.Proofs.Ytaanohgkdpohhaa
open Go.RowKit Go.Maps

theorem below_grownC {w w' : World} {B : Nat} {v : Value} {l : List (Ky × Cl)} (h : kC.Own w B v l) (hg : w.grownBy w' v.ownBlock) (hB : B ≤ w.heap.size) : Below B w w' :=
  ⟨hg.os, hg.tape, hg.output, hg.size, fun k hk => hg.block k (by omega) (fun e => by have := (h.lt k e.symm).1; omega)⟩
theorem below_nilC {w w' : World} (hg : w.grownBy w' (Value.slice none 0 0).ownBlock) : Below w.heap.size w w' := ⟨hg.os, hg.tape, hg.output, hg.size, fun j hj => hg.block j hj (fun e => by cases e)⟩
set_option maxRecDepth 100000 in
set_option maxHeartbeats 4000000 in
theorem rdrop_any (rb D room : Nat) (v : Value) (L : List (Ky × Cl)) (i : Nat) (w : World) (h : RO w rb D room v L) (hD : D ≤ w.heap.size) (hi : i < L.length) :
    Calls Try.prog 149 #[.pointer (some ⟨rb, 0, none⟩), .int .i64 (i : Int)] w fun e w' => e = .returned (.tuple #[]) ∧ RPost w rb D room v (L.take i ++ L.drop (i + 1)) w' := by
  obtain ⟨g, cap, hv, _, hcap, hat⟩ := h.o.at' (fun e => by rw [e] at hi; simp at hi)
  subst hv
  obtain ⟨n, hn⟩ : ∃ n, n = L.length := ⟨_, rfl⟩
  obtain ⟨i1, hi1⟩ : ∃ j, j = i + 1 := ⟨_, rfl⟩
  have HN : Hid (n = L.length ∧ n ≤ 1048576 ∧ n ≤ cap) := Lib.hid ⟨hn, by have := h.len; omega, by omega⟩
  have HI1 := Lib.hid hi1
  have hil : i < n := by omega
  rw [← hn] at h ⊢
  rw [← hi1]
  have HRO := Lib.hid h
  have HDD := Lib.hid hD
  have HVV : Hid (kC.V w (some ⟨g, 0, none⟩) L) := Lib.hid (fun _ => ⟨g, 0, rfl, hat⟩)
  obtain ⟨a1, ha1⟩ : ∃ a1, kC.pfx ((some ⟨g, 0, none⟩) : Option Addr) cap = a1 := ⟨_, rfl⟩
  obtain ⟨a3, ha3⟩ : ∃ a3, kC.sfx ((some ⟨g, 0, none⟩) : Option Addr) cap i1 = a3 := ⟨_, rfl⟩
  obtain ⟨n3, hn3⟩ : ∃ n3, n - i1 = n3 := ⟨_, rfl⟩
  obtain ⟨c3, hc3⟩ : ∃ c3, cap - i1 = c3 := ⟨_, rfl⟩
  have HV1 : Hid (kC.V w a1 (L.take i)) := Lib.hid (by rw [← ha1]; exact HVV.out.take i cap)
  have HV3 : Hid (kC.V w a3 (L.drop i1)) := Lib.hid (by rw [← ha3]; exact HVV.out.drop hcap)
  have HNN1 : Hid (a1 = none → cap = 0) := Lib.hid (fun e => RowK.pfx_none (k := kC) (a := ((some ⟨g, 0, none⟩) : Option Addr)) (fun ea => by cases ea) (ha1.trans e))
  have HNN3 : Hid (a3 = none → c3 = 0) := Lib.hid (fun e => by rw [← hc3]; exact RowK.sfx_none (k := kC) (a := ((some ⟨g, 0, none⟩) : Option Addr)) (fun ea => by cases ea) (ha3.trans e))
  have HL1 : Hid ((L.take i).length = i) := Lib.hid (by rw [List.length_take]; have := HN.out; omega)
  have HL3 : Hid ((L.drop i1).length = n3) := Lib.hid (by rw [List.length_drop, ← HN.out.1]; exact hn3)
  have HA1 := Lib.hid ha1
  have HA3 := Lib.hid ha3
  have HN3 := Lib.hid hn3
  have HC3 := Lib.hid hc3
  have hjc : i ≤ cap := by have := HN.out; omega
  have hjn : i1 ≤ n := by omega
  have hw1 : IntKind.i64.wrap ((i : Int) + 1) = (i1 : Int) := by rw [IntKind.wrap_i64]; have := HN.out; omega
  have l0 := cell_of_blk h.blk 1
  have zr := h.lt
  simp at l0
  clear h hD hi hn hi1 hcap hat ha1 ha3 hn3 hc3
  go_enter Try.func149, Try.ntmps149
  go_upto_region 2 with (first | (refine RowK.wpList_pfx (k := kC) (o := ⟨some 11, _, _, _, _, _⟩) rfl (.tmp 9) (.tmp 10) rfl _ n cap i rfl rfl hjc HA1.out ?_) | (at_builtin; refine RowK.wpList_app (k := kC) (B := w.heap.size) (v := .slice none 0 0) (l := []) rfl (.tmp 5) (.tmp 11) rfl rfl (RowK.Own.nil kC _ _) a1 i (L.take i) cap rfl HL1.out HV1.out HNN1.out (by have := HN.out; rw [HL1.out]; simp; omega) (Nat.le_refl _) ?_; rintro v1 u1 g1; have G1 := Lib.hid (show kC.App w w.heap.size (.slice none 0 0) (L.take i) v1 u1 from g1); clear g1))
  have HB1 : Hid (Below w.heap.size w u1) := Lib.hid (below_nilC G1.out.2.1)
  have HR1 := Lib.hid (HRO.out.below HB1.out)
  have HV31 := Lib.hid (HV3.out.below HB1.out)
  clear l0 zr
  have l0 := cell_of_blk HR1.out.blk 1
  have zr := HR1.out.lt
  simp at l0
  go_wp2_with (first | (refine RowK.wpList_sfx (k := kC) (o := ⟨some 21, _, _, _, _, _⟩) rfl (.tmp 18) (.tmp 20) rfl _ n cap i1 rfl rfl hjn HA3.out HN3.out HC3.out ?_) | (at_builtin; refine RowK.wpList_app (k := kC) (B := w.heap.size) (v := v1) (l := L.take i) rfl (.tmp 14) (.tmp 21) rfl rfl G1.out.1 a3 n3 (L.drop i1) c3 rfl HL3.out HV31.out HNN3.out (by have := HN.out; have := HL1.out; have := HL3.out; have := HN3.out; omega) HB1.out.size ?_; rintro v3 u3 g3; obtain ⟨av3, cv3, hv3⟩ := g3.1.shape; obtain ⟨n9, hn9⟩ : ∃ n9, n9 = (L.take i ++ L.drop i1).length := ⟨_, rfl⟩; rw [← hn9] at hv3; subst hv3; have HB3 : Hid (Below w.heap.size w u3) := Lib.hid (HB1.out.trans (below_grownC G1.out.1 g3.2.1 HB1.out.size)); have hb3 := (HB3.out.block rb HRO.out.lt).trans HRO.out.blk; have y0 := cell_of_blk hb3 1; have f0 := frozen_of_blk hb3 1; have z0 := (Array.getElem?_eq_some_iff.1 hb3).1; simp at y0; have HBK := Lib.hid hb3; have HN9 := Lib.hid hn9; have G3 := Lib.hid g3; clear g3 hn9 hb3))
  go_end0
  have hO := G3.out.1
  have hne : some rb ≠ (Value.slice av3 n9 cv3).ownBlock := own_ty' hO HBK.out (by decide)
  have hc : Chg u3 (u3.setCell ⟨rb, 1, none⟩ (.slice av3 n9 cv3)) (fun i => i = rb) := (Chg.refl u3 (fun i => i = rb)).setCell (p := ⟨rb, 1, none⟩) (fun _ => rfl) _
  refine ⟨rfl, ⟨.slice av3 n9 cv3, ⟨by rw [blk_setCell HBK.out]; simp, (hO.chg hc (fun j hj e => hne (by rw [hj, e]))).mono HDD.out, ?_⟩, fun j hj => .inr (hO.lt j hj).1⟩, (Chg.of_below HB3.out _).setCell (p := ⟨rb, 1, none⟩) (fun _ => .inl rfl) _⟩
  have h1 := HL1.out
  have h2 := HL3.out
  have h3 := HN.out
  have h4 := HN3.out
  have h5 := HI1.out
  rw [List.length_append]
  omega
end Go.Proofs.Ytaanohgkdpohhaa
