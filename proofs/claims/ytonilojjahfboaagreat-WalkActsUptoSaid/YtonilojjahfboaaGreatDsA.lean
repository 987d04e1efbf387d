/- Layer 17: an act done to a walk and to the document's. Conditions: the contract's own premises. (Printed by gen_ds.py.) Layer 17: an act done to a walk and to the document's. Conditions: the contract's own premises. (Printed by gen_ds.py.) -/
import Derived.Test.YtonilojjahfboaaGreatRsA
import Derived.Test.YtonilojjahfboaaGreatPb5
import Derived.Test.YtonilojjahfboaaGreatA7
import Derived.BigQuiet
import Derived.Deep.Cut
import Derived.Deep.CutRange
import Derived.Deep.RegionHeld3
namespace Go.Proofs.YtonilojjahfboaaGreat
open Go.RowKit Go.Maps

theorem WkS.chgD {w0 w w' : World} {wb gb : Nat} {st : Option Nat} {S : Nat → Prop} (h : WkS w0 w wb gb st) (hc : Chg w w' S) (hn : ¬ S wb) (hS : ∀ j, S j → w0.heap.size ≤ j) : WkS w0 w' wb gb st :=
  ⟨⟨hc.os.trans h.bel.os, hc.tape.trans h.bel.tape, hc.output.trans h.bel.output, Nat.le_trans h.bel.size hc.size, fun k hk => (hc.block k (Nat.lt_of_lt_of_le hk h.bel.size) (fun hs => by have := hS k hs; omega)).trans (h.bel.block k hk)⟩, h.new, (hc.block _ h.lt hn).trans h.blk, h.small⟩
theorem RowK.run_mid1 {P : Program} {α : Type} (k : RowK P α) (a : Option Addr) (cap len i : Nat) (h : i + 1 ≤ cap) (w : World) :
    (Instr.sliceAt k.t (.slice a len cap) (some (.int .i64 i)) (some (.int .i64 ((i : Int) + 1))) none).run P w = .ok (.slice (k.sfx a cap i) 1 (cap - i)) w := by
  obtain ⟨i0, hi, hz0, hz1, hz2⟩ := info_parts k.info
  have hz : (i : Int) + 1 ≤ (cap : Int) := by omega
  have hz3 : (i : Int) ≤ (i : Int) + 1 := by omega
  have hu := run_underlying k.ht
  unfold RowK.sfx
  simp [Instr.sliceAt, go_sem, hu, k.ht, hi, hz, hz1, hz3, sizeOf, typeInfo]
theorem RowK.V.one {P : Program} {α : Type} {k : RowK P α} {w : World} {a : Option Addr} {l : List α} {i cap : Nat} {x : α} (h : k.V w a l) (hx : l[i]? = some x) (hc : l.length ≤ cap) : k.V w (k.sfx a cap i) [x] := fun _ => by
  have hlt := (List.getElem?_eq_some_iff.1 hx).1
  obtain ⟨b, off, e, hat⟩ := h (fun e => by rw [e] at hlt; simp at hlt)
  refine ⟨b, off + i * k.size, ?_, ⟨fun j y hy q u hu => ?_, hat.lt⟩⟩
  · unfold RowK.sfx
    rw [if_neg (by omega), e]
    simp [Addr.add]
  · obtain ⟨rfl, rfl⟩ : j = 0 ∧ y = x := by
      cases j with
      | zero => exact ⟨rfl, by simpa using hy.symm⟩
      | succ j => simp at hy
    have := hat.cells i y hx q u hu
    rw [Nat.zero_mul, Nat.add_zero]
    exact this
/-- a walk and the document's, side by side -/
structure DI (w0 w : World) (wb rb gb qb : Nat) (st : Option Nat) : Prop where
  a : WkS w0 w wb gb st
  r : WrS w0 w rb qb st
  ne : wb ≠ rb
section
variable {w0 w w' : World} {wb rb gb qb : Nat} {st s2 : Option Nat}
theorem DI.below (h : DI w0 w wb rb gb qb st) (hb : Below w.heap.size w w') : DI w0 w' wb rb gb qb st := ⟨h.a.below hb, h.r.below hb, h.ne⟩
theorem DI.other (h : DI w0 w wb rb gb qb st) (hc : Chg w w' (fun i => i = wb)) : WrS w0 w' rb qb st := h.r.chg hc (fun e => h.ne e.symm) (fun j e => by rw [e]; exact h.a.new)
end
theorem chg2a {w w' : World} {a b : Nat} (h : Chg w w' (fun i => i = a)) : Chg w w' (fun i => i = a ∨ i = b) := h.mono (fun _ _ e => .inl e)
theorem chg2b {w w' : World} {a b : Nat} (h : Chg w w' (fun i => i = b)) : Chg w w' (fun i => i = a ∨ i = b) := h.mono (fun _ _ e => .inr e)
def D17 (w0 : World) (wb rb gb qb : Nat) (e : Ending) (w' : World) : Prop := e = .returned (.bool true) ∧ ∃ st, DI w0 w' wb rb gb qb st
set_option maxRecDepth 100000 in
set_option maxHeartbeats 8000000 in
theorem d17_6 (w0 w : World) (wb gb vb eb rb qb B : Nat) (VL : List Vr) (EL : List Er) (st : Option Nat) (x : A7) (hG : GrC w0 gb vb eb (VL.map Vr.v) (EL.map Er.e)) (hR : RgL w0 qb B VL EL) (h : DI w0 w wb rb gb qb st) (hx : x.Ok) (hV : VL.length ≤ 1000) (hE : EL.length ≤ 1000) (hk : x.kind = 6) :
    Calls Tryz.prog 45 #[.pointer (some ⟨wb, 0, none⟩), .pointer (some ⟨rb, 0, none⟩), .agg #[.int .i64 x.kind, .int .i64 x.id, .bool x.out, .string x.lab, .string x.nl, .string x.nk, .int .i64 x.low.kind, .int .i64 x.low.n, .string x.low.s, .int .i64 x.high.kind, .int .i64 x.high.n, .string x.high.s]] w (D17 w0 wb rb gb qb) := by
  obtain ⟨W, hW⟩ : ∃ W, W = w.alloc (.cells #[.int .i64 x.kind, .int .i64 x.id, .bool x.out, .string x.lab, .string x.nl, .string x.nk, .int .i64 x.low.kind, .int .i64 x.low.n, .string x.low.s, .int .i64 x.high.kind, .int .i64 x.high.n, .string x.high.s] 102) := ⟨_, rfl⟩
  have hBW : Below w.heap.size w W := by rw [hW]; exact below_box w _
  obtain ⟨ab, hab⟩ : ∃ b, b = w.heap.size := ⟨_, rfl⟩
  have hbx : A7Box W ab x := by unfold A7Box; rw [hW, hab]; exact heap_new w _
  have hI := h.below hBW
  have HI := Lib.hid hI
  have HAB : Hid (wb < ab ∧ rb < ab) := Lib.hid (by have := h.a.lt; have := h.r.lt; omega)
  have HXK : Hid (∀ u, Chg W u (fun i => i = wb ∨ i = rb) → A7Box u ab x) := Lib.hid (fun u hu => (hu.block _ (Array.getElem?_eq_some_iff.1 hbx).1 (by have := HAB.out; omega)).trans hbx)
  have HKS : Hid (∀ u, Chg W u (fun i => i = wb ∨ i = rb) → ((u.cell? ⟨ab, 1, none⟩ = some (.int .i64 x.id) ∧ u.cell? ⟨ab, 2, none⟩ = some (.bool x.out) ∧ u.cell? ⟨ab, 3, none⟩ = some (.string x.lab)) ∧ ab < u.heap.size) ∧ ((u.cell? ⟨ab, 4, none⟩ = some (.string x.nl) ∧ u.cell? ⟨ab, 5, none⟩ = some (.string x.nk) ∧ u.cell? ⟨ab, 6, none⟩ = some (.int .i64 x.low.kind) ∧ u.cell? ⟨ab, 7, none⟩ = some (.int .i64 x.low.n) ∧ u.cell? ⟨ab, 8, none⟩ = some (.string x.low.s) ∧ u.cell? ⟨ab, 9, none⟩ = some (.int .i64 x.high.kind) ∧ u.cell? ⟨ab, 10, none⟩ = some (.int .i64 x.high.n) ∧ u.cell? ⟨ab, 11, none⟩ = some (.string x.high.s)) ∧ ab < u.heap.size)) := Lib.hid (fun u hu => by
    obtain ⟨q0, q1, q2, q3, q4, q5, q6, q7, q8, q9, q10, q11, ql⟩ := (HXK.out u hu).cells
    exact ⟨⟨⟨q1, q2, q3⟩, ql⟩, ⟨q4, q5, q6, q7, q8, q9, q10, q11⟩, ql⟩)
  have HG := Lib.hid hG
  have HR := Lib.hid hR
  have HX := Lib.hid hx
  have HN : Hid (VL.length ≤ 1000 ∧ EL.length ≤ 1000) := Lib.hid ⟨hV, hE⟩
  have HRV : Hid (RgV w0 qb VL) := Lib.hid (by
    obtain ⟨⟨va, vc, ea, ec, h1, h2, h3⟩, h4, h5, h6⟩ := hR
    exact ⟨⟨va, vc, by rw [cell_of_blk h1]; rfl, h2.toV⟩, fun y hy => ⟨(h4 y hy).1.v, Nat.le_trans (checkR_ps (hG.ok.v y.v (List.mem_map.2 ⟨y, hy, rfl⟩))) (by omega)⟩, by omega, hG.ok.sv⟩)
  have HW := Lib.hid hW
  have HAE := Lib.hid hab
  clear hG hR h hx hV hE hW hBW hab hbx hI
  obtain ⟨p0, p1, p2, p3, p4, p5, p6, p7, p8, p9, p10, p11, pl⟩ := (HXK.out W (Chg.refl _ _)).cells
  have n0 : (x.kind == 0) = false := by simp only [beq_eq_false_iff_ne]; omega
  have n1 : (x.kind == 1) = false := by simp only [beq_eq_false_iff_ne]; omega
  have n2 : (x.kind == 2) = false := by simp only [beq_eq_false_iff_ne]; omega
  have n3 : (x.kind == 3) = false := by simp only [beq_eq_false_iff_ne]; omega
  have n4 : (x.kind == 4) = false := by simp only [beq_eq_false_iff_ne]; omega
  have n5 : (x.kind == 5) = false := by simp only [beq_eq_false_iff_ne]; omega
  have n6 : (x.kind == 6) = true := by simp only [beq_iff_eq]; omega
  clear hk
  go_enter Tryz.func45, Tryz.ntmps45
  go_upto_region 1 with fail
  rw [← HW.out, ← HAE.out]
  go_upto_region 23 with fail
  obtain ⟨s2, hs2⟩ : ∃ s, s = payS st x.id.toNat := ⟨_, rfl⟩
  have hD : Below W.heap.size W W.drew := below_drewN (Below.refl _ _) 1
  have hca := payN_any w0 W.drew wb gb st x.id (HI.out.a.below hD)
  have HCA : Hid (Calls Tryz.prog 55 #[.pointer (some ⟨wb, 0, none⟩), .int .i64 x.id] W.drew fun e w' => e = .returned (.bool s2.isSome) ∧ WkS w0 w' wb gb s2 ∧ WrS w0 w' rb qb st ∧ Chg W w' (fun i => i = wb ∨ i = rb)) := Lib.hid (by
    refine hca.mono ?_
    rintro e w' ⟨rfl, hs, hk⟩
    rw [← hs2] at hs
    exact ⟨by rw [← hs2], hs, (HI.out.below hD).other hk, (Chg.of_below hD _).trans (chg2a hk) (fun _ _ h => h)⟩)
  have HCB : Hid (∀ u, Chg W u (fun i => i = wb ∨ i = rb) → WkS w0 u wb gb s2 → WrS w0 u rb qb st → Calls Tryz.prog 120 #[.pointer (some ⟨rb, 0, none⟩), .int .i64 x.id] u fun e w' => e = .returned (.bool s2.isSome) ∧ DI w0 w' wb rb gb qb s2 ∧ Chg W w' (fun i => i = wb ∨ i = rb)) := Lib.hid (fun u hu h1 h2 => by
    refine (r17pay_any w0 u rb qb st x.id h2).mono ?_
    rintro e w' ⟨rfl, hs, hk⟩
    rw [← hs2] at hs
    exact ⟨by rw [← hs2], ⟨h1.chgD hk HI.out.ne (fun j e => by rw [e]; exact h2.new), hs, HI.out.ne⟩, hu.trans (chg2b hk) (fun _ _ h => h)⟩)
  have HS0 := Lib.hid (HKS.out W.drew (Chg.of_below hD _)).1
  obtain ⟨b, hb⟩ : ∃ b, b = s2.isSome := ⟨_, rfl⟩
  rw [← hb] at HCA HCB
  clear hs2 hca hb p0 p1 p2 p3 p4 p5 p6 p7 p8 p9 p10 p11 pl
  go_region_held3 (fun u => (u.cell? ⟨ab, 1, none⟩ = some (.int .i64 x.id) ∧ u.cell? ⟨ab, 2, none⟩ = some (.bool x.out) ∧ u.cell? ⟨ab, 3, none⟩ = some (.string x.lab)) ∧ ab < u.heap.size)
    (first | exact HS0.out | exact HSA.out | exact HSB.out)
    (first | (go_at_call 55; (with_reducible refine HCA.out.mono ?_); rintro e w6 ⟨rfl, s6, t6, k6⟩; have HSA := Lib.hid (HKS.out _ k6).1; have HB6 := Lib.hid (HCB.out _ k6 s6 t6); clear s6 t6 k6) | (go_at_call 120; (with_reducible refine HB6.out.mono ?_); rintro e w7 ⟨rfl, d7, k7⟩; have HSB := Lib.hid (HKS.out _ k7).1; have HD7 := Lib.hid d7; clear d7 k7) | fail)
  all_goals
    go_wp2_with fail
    go_ret
    exact ⟨by cases b <;> rfl, s2, HD7.out⟩
set_option maxRecDepth 100000 in
set_option maxHeartbeats 8000000 in
theorem d17_no (w0 w : World) (wb gb vb eb rb qb B : Nat) (VL : List Vr) (EL : List Er) (st : Option Nat) (x : A7) (hG : GrC w0 gb vb eb (VL.map Vr.v) (EL.map Er.e)) (hR : RgL w0 qb B VL EL) (h : DI w0 w wb rb gb qb st) (hx : x.Ok) (hV : VL.length ≤ 1000) (hE : EL.length ≤ 1000) (hk : x.kind < 0 ∨ 6 < x.kind) :
    Calls Tryz.prog 45 #[.pointer (some ⟨wb, 0, none⟩), .pointer (some ⟨rb, 0, none⟩), .agg #[.int .i64 x.kind, .int .i64 x.id, .bool x.out, .string x.lab, .string x.nl, .string x.nk, .int .i64 x.low.kind, .int .i64 x.low.n, .string x.low.s, .int .i64 x.high.kind, .int .i64 x.high.n, .string x.high.s]] w (D17 w0 wb rb gb qb) := by
  obtain ⟨W, hW⟩ : ∃ W, W = w.alloc (.cells #[.int .i64 x.kind, .int .i64 x.id, .bool x.out, .string x.lab, .string x.nl, .string x.nk, .int .i64 x.low.kind, .int .i64 x.low.n, .string x.low.s, .int .i64 x.high.kind, .int .i64 x.high.n, .string x.high.s] 102) := ⟨_, rfl⟩
  have hBW : Below w.heap.size w W := by rw [hW]; exact below_box w _
  obtain ⟨ab, hab⟩ : ∃ b, b = w.heap.size := ⟨_, rfl⟩
  have hbx : A7Box W ab x := by unfold A7Box; rw [hW, hab]; exact heap_new w _
  have hI := h.below hBW
  have HI := Lib.hid hI
  have HAB : Hid (wb < ab ∧ rb < ab) := Lib.hid (by have := h.a.lt; have := h.r.lt; omega)
  have HXK : Hid (∀ u, Chg W u (fun i => i = wb ∨ i = rb) → A7Box u ab x) := Lib.hid (fun u hu => (hu.block _ (Array.getElem?_eq_some_iff.1 hbx).1 (by have := HAB.out; omega)).trans hbx)
  have HKS : Hid (∀ u, Chg W u (fun i => i = wb ∨ i = rb) → ((u.cell? ⟨ab, 1, none⟩ = some (.int .i64 x.id) ∧ u.cell? ⟨ab, 2, none⟩ = some (.bool x.out) ∧ u.cell? ⟨ab, 3, none⟩ = some (.string x.lab)) ∧ ab < u.heap.size) ∧ ((u.cell? ⟨ab, 4, none⟩ = some (.string x.nl) ∧ u.cell? ⟨ab, 5, none⟩ = some (.string x.nk) ∧ u.cell? ⟨ab, 6, none⟩ = some (.int .i64 x.low.kind) ∧ u.cell? ⟨ab, 7, none⟩ = some (.int .i64 x.low.n) ∧ u.cell? ⟨ab, 8, none⟩ = some (.string x.low.s) ∧ u.cell? ⟨ab, 9, none⟩ = some (.int .i64 x.high.kind) ∧ u.cell? ⟨ab, 10, none⟩ = some (.int .i64 x.high.n) ∧ u.cell? ⟨ab, 11, none⟩ = some (.string x.high.s)) ∧ ab < u.heap.size)) := Lib.hid (fun u hu => by
    obtain ⟨q0, q1, q2, q3, q4, q5, q6, q7, q8, q9, q10, q11, ql⟩ := (HXK.out u hu).cells
    exact ⟨⟨⟨q1, q2, q3⟩, ql⟩, ⟨q4, q5, q6, q7, q8, q9, q10, q11⟩, ql⟩)
  have HG := Lib.hid hG
  have HR := Lib.hid hR
  have HX := Lib.hid hx
  have HN : Hid (VL.length ≤ 1000 ∧ EL.length ≤ 1000) := Lib.hid ⟨hV, hE⟩
  have HRV : Hid (RgV w0 qb VL) := Lib.hid (by
    obtain ⟨⟨va, vc, ea, ec, h1, h2, h3⟩, h4, h5, h6⟩ := hR
    exact ⟨⟨va, vc, by rw [cell_of_blk h1]; rfl, h2.toV⟩, fun y hy => ⟨(h4 y hy).1.v, Nat.le_trans (checkR_ps (hG.ok.v y.v (List.mem_map.2 ⟨y, hy, rfl⟩))) (by omega)⟩, by omega, hG.ok.sv⟩)
  have HW := Lib.hid hW
  have HAE := Lib.hid hab
  clear hG hR h hx hV hE hW hBW hab hbx hI
  obtain ⟨p0, p1, p2, p3, p4, p5, p6, p7, p8, p9, p10, p11, pl⟩ := (HXK.out W (Chg.refl _ _)).cells
  have n0 : (x.kind == 0) = false := by simp only [beq_eq_false_iff_ne]; omega
  have n1 : (x.kind == 1) = false := by simp only [beq_eq_false_iff_ne]; omega
  have n2 : (x.kind == 2) = false := by simp only [beq_eq_false_iff_ne]; omega
  have n3 : (x.kind == 3) = false := by simp only [beq_eq_false_iff_ne]; omega
  have n4 : (x.kind == 4) = false := by simp only [beq_eq_false_iff_ne]; omega
  have n5 : (x.kind == 5) = false := by simp only [beq_eq_false_iff_ne]; omega
  have n6 : (x.kind == 6) = false := by simp only [beq_eq_false_iff_ne]; omega
  clear hk
  go_enter Tryz.func45, Tryz.ntmps45
  go_upto_region 1 with fail
  rw [← HW.out, ← HAE.out]
  go_wp2_with fail
  go_ret
  exact ⟨rfl, st, HI.out⟩
set_option maxRecDepth 100000 in
set_option maxHeartbeats 8000000 in
theorem d17_3 (w0 w : World) (wb gb vb eb rb qb B : Nat) (VL : List Vr) (EL : List Er) (st : Option Nat) (x : A7) (hG : GrC w0 gb vb eb (VL.map Vr.v) (EL.map Er.e)) (hR : RgL w0 qb B VL EL) (h : DI w0 w wb rb gb qb st) (hx : x.Ok) (hV : VL.length ≤ 1000) (hE : EL.length ≤ 1000) (hk : x.kind = 3) :
    Calls Tryz.prog 45 #[.pointer (some ⟨wb, 0, none⟩), .pointer (some ⟨rb, 0, none⟩), .agg #[.int .i64 x.kind, .int .i64 x.id, .bool x.out, .string x.lab, .string x.nl, .string x.nk, .int .i64 x.low.kind, .int .i64 x.low.n, .string x.low.s, .int .i64 x.high.kind, .int .i64 x.high.n, .string x.high.s]] w (D17 w0 wb rb gb qb) := by
  obtain ⟨W, hW⟩ : ∃ W, W = w.alloc (.cells #[.int .i64 x.kind, .int .i64 x.id, .bool x.out, .string x.lab, .string x.nl, .string x.nk, .int .i64 x.low.kind, .int .i64 x.low.n, .string x.low.s, .int .i64 x.high.kind, .int .i64 x.high.n, .string x.high.s] 102) := ⟨_, rfl⟩
  have hBW : Below w.heap.size w W := by rw [hW]; exact below_box w _
  obtain ⟨ab, hab⟩ : ∃ b, b = w.heap.size := ⟨_, rfl⟩
  have hbx : A7Box W ab x := by unfold A7Box; rw [hW, hab]; exact heap_new w _
  have hI := h.below hBW
  have HI := Lib.hid hI
  have HAB : Hid (wb < ab ∧ rb < ab) := Lib.hid (by have := h.a.lt; have := h.r.lt; omega)
  have HXK : Hid (∀ u, Chg W u (fun i => i = wb ∨ i = rb) → A7Box u ab x) := Lib.hid (fun u hu => (hu.block _ (Array.getElem?_eq_some_iff.1 hbx).1 (by have := HAB.out; omega)).trans hbx)
  have HKS : Hid (∀ u, Chg W u (fun i => i = wb ∨ i = rb) → ((u.cell? ⟨ab, 1, none⟩ = some (.int .i64 x.id) ∧ u.cell? ⟨ab, 2, none⟩ = some (.bool x.out) ∧ u.cell? ⟨ab, 3, none⟩ = some (.string x.lab)) ∧ ab < u.heap.size) ∧ ((u.cell? ⟨ab, 4, none⟩ = some (.string x.nl) ∧ u.cell? ⟨ab, 5, none⟩ = some (.string x.nk) ∧ u.cell? ⟨ab, 6, none⟩ = some (.int .i64 x.low.kind) ∧ u.cell? ⟨ab, 7, none⟩ = some (.int .i64 x.low.n) ∧ u.cell? ⟨ab, 8, none⟩ = some (.string x.low.s) ∧ u.cell? ⟨ab, 9, none⟩ = some (.int .i64 x.high.kind) ∧ u.cell? ⟨ab, 10, none⟩ = some (.int .i64 x.high.n) ∧ u.cell? ⟨ab, 11, none⟩ = some (.string x.high.s)) ∧ ab < u.heap.size)) := Lib.hid (fun u hu => by
    obtain ⟨q0, q1, q2, q3, q4, q5, q6, q7, q8, q9, q10, q11, ql⟩ := (HXK.out u hu).cells
    exact ⟨⟨⟨q1, q2, q3⟩, ql⟩, ⟨q4, q5, q6, q7, q8, q9, q10, q11⟩, ql⟩)
  have HG := Lib.hid hG
  have HR := Lib.hid hR
  have HX := Lib.hid hx
  have HN : Hid (VL.length ≤ 1000 ∧ EL.length ≤ 1000) := Lib.hid ⟨hV, hE⟩
  have HRV : Hid (RgV w0 qb VL) := Lib.hid (by
    obtain ⟨⟨va, vc, ea, ec, h1, h2, h3⟩, h4, h5, h6⟩ := hR
    exact ⟨⟨va, vc, by rw [cell_of_blk h1]; rfl, h2.toV⟩, fun y hy => ⟨(h4 y hy).1.v, Nat.le_trans (checkR_ps (hG.ok.v y.v (List.mem_map.2 ⟨y, hy, rfl⟩))) (by omega)⟩, by omega, hG.ok.sv⟩)
  have HW := Lib.hid hW
  have HAE := Lib.hid hab
  clear hG hR h hx hV hE hW hBW hab hbx hI
  obtain ⟨p0, p1, p2, p3, p4, p5, p6, p7, p8, p9, p10, p11, pl⟩ := (HXK.out W (Chg.refl _ _)).cells
  have n0 : (x.kind == 0) = false := by simp only [beq_eq_false_iff_ne]; omega
  have n1 : (x.kind == 1) = false := by simp only [beq_eq_false_iff_ne]; omega
  have n2 : (x.kind == 2) = false := by simp only [beq_eq_false_iff_ne]; omega
  have n3 : (x.kind == 3) = true := by simp only [beq_iff_eq]; omega
  clear hk
  go_enter Tryz.func45, Tryz.ntmps45
  go_upto_region 1 with fail
  rw [← HW.out, ← HAE.out]
  go_upto_region 16 with fail
  obtain ⟨E, hEE⟩ : ∃ E, E = EL.map Er.e := ⟨_, rfl⟩
  obtain ⟨s2, hs2⟩ : ∃ s, s = payS st (1 + (idsE E (sideP x.out x.id)).length) := ⟨_, rfl⟩
  obtain ⟨L, hL⟩ : ∃ L : List Int, L = if s2.isSome then nextL E x.out x.lab x.id else [] := ⟨_, rfl⟩
  have HLL : Hid (L.length ≤ 1000) := Lib.hid (by
    have h1 := next_len E x.out x.lab x.id
    have h2 := HN.out.2
    rw [hL]
    split
    · rw [hEE] at h1 ⊢; rw [List.length_map] at h1; omega
    · exact Nat.zero_le _)
  have hD : Below W.heap.size W W.drew := below_drewN (Below.refl _ _) 1
  have hca := wnext_any w0 W.drew wb gb vb eb (VL.map Vr.v) (EL.map Er.e) st x.id x.out x.lab HG.out (HI.out.a.below hD) (by rw [List.length_map]; have := HN.out.2; omega)
  rw [← hEE] at hca
  have HCA : Hid (Calls Tryz.prog 40 #[.pointer (some ⟨wb, 0, none⟩), .int .i64 x.id, .bool x.out, .string x.lab] W.drew fun e w' => ∃ a cap, e = .returned (.slice a L.length cap) ∧ kI.Own w' W.heap.size (.slice a L.length cap) L ∧ WkS w0 w' wb gb s2 ∧ WrS w0 w' rb qb st ∧ Chg W w' (fun i => i = wb ∨ i = rb)) := Lib.hid (by
    refine hca.mono ?_
    rintro e w' ⟨v, rfl, o, hs, hk⟩
    rw [← hs2] at hs o
    rw [← hL] at o
    obtain ⟨a, cap, rfl⟩ := o.shape
    exact ⟨a, cap, rfl, o, hs, (HI.out.below hD).other hk, (Chg.of_below hD _).trans (chg2a hk) (fun _ _ h => h)⟩)
  have HCB : Hid (∀ u, Chg W u (fun i => i = wb ∨ i = rb) → WkS w0 u wb gb s2 → WrS w0 u rb qb st → ∀ a cap, kI.Own u W.heap.size (.slice a L.length cap) L → Calls Tryz.prog 122 #[.pointer (some ⟨rb, 0, none⟩), .int .i64 x.id, .bool x.out, .string x.lab] u fun e w' => ∃ b cb, e = .returned (.slice b L.length cb) ∧ kI.Own w' W.heap.size (.slice a L.length cap) L ∧ kI.V w' b L ∧ DI w0 w' wb rb gb qb s2 ∧ Chg W w' (fun i => i = wb ∨ i = rb)) := Lib.hid (fun u hu h1 h2 a cap ho => by
    have hn := r17next_any w0 u rb qb B VL EL st x.id x.out x.lab HR.out HG.out.ok.se h2 (by have := HN.out.2; omega)
    rw [← hEE] at hn
    refine hn.mono ?_
    rintro e w' ⟨b, cb, L', rfl, hl', o, hs, hk⟩
    rw [← hs2] at hs hl'
    rw [← hL] at hl'
    subst hl'
    exact ⟨b, cb, rfl, ho.chg hk (fun j hj e => by have := (ho.lt j hj).1; have := HI.out.r.lt; omega), o.toV, ⟨h1.chgD hk HI.out.ne (fun j e => by rw [e]; exact h2.new), hs, HI.out.ne⟩, hu.trans (chg2b hk) (fun _ _ h => h)⟩)
  have HCC : Hid (∀ u a cap b cb, kI.Own u W.heap.size (.slice a L.length cap) L → kI.V u b L → Calls Tryz.prog 44 #[.slice a L.length cap, .slice b L.length cb] u fun e w' => e = .returned (.bool true) ∧ Below u.heap.size u w') := Lib.hid (fun u a cap b cb ho hv => by
    have := ints10_any a b cap cb L L u ho.toV hv (by have := HLL.out; omega)
    rw [decide_eq_true (rfl : L = L)] at this
    exact this)
  have HS0 := Lib.hid (HKS.out W.drew (Chg.of_below hD _)).1
  clear hs2 hca hL hEE p0 p1 p2 p3 p4 p5 p6 p7 p8 p9 p10 p11 pl
  go_region_held3 (fun u => (u.cell? ⟨ab, 1, none⟩ = some (.int .i64 x.id) ∧ u.cell? ⟨ab, 2, none⟩ = some (.bool x.out) ∧ u.cell? ⟨ab, 3, none⟩ = some (.string x.lab)) ∧ ab < u.heap.size)
    (first | exact HS0.out | exact HSA.out | exact HSB.out | exact HSC.out)
    (first | (go_at_call 40; (with_reducible refine HCA.out.mono ?_); rintro e w6 ⟨a6, c6, rfl, o6, s6, t6, k6⟩; have HSA := Lib.hid (HKS.out _ k6).1; have HB6 := Lib.hid (HCB.out _ k6 s6 t6 a6 c6 o6); clear o6 s6 t6 k6) | (go_at_call 122; (with_reducible refine HB6.out.mono ?_); rintro e w7 ⟨b7, c7, rfl, o7, v7, d7, k7⟩; have HSB := Lib.hid (HKS.out _ k7).1; have HD7 := Lib.hid d7; have HK7 := Lib.hid k7; have HI7 := Lib.hid (HCC.out w7 a6 c6 b7 c7 o7 v7); clear o7 v7 d7 k7) | (go_at_call 44; (with_reducible refine HI7.out.mono ?_); rintro e w8 ⟨rfl, b8⟩; have HSC := Lib.hid (HKS.out _ (HK7.out.trans (Chg.of_below b8 (fun _ => False)) (fun _ _ e => e.elim))).1; have HD8 := Lib.hid (HD7.out.below b8); clear b8) | fail)
  all_goals
    go_wp2_with fail
    go_ret
    exact ⟨rfl, s2, HD8.out⟩
set_option maxRecDepth 100000 in
set_option maxHeartbeats 8000000 in
theorem d17_4 (w0 w : World) (wb gb vb eb rb qb B : Nat) (VL : List Vr) (EL : List Er) (st : Option Nat) (x : A7) (hG : GrC w0 gb vb eb (VL.map Vr.v) (EL.map Er.e)) (hR : RgL w0 qb B VL EL) (h : DI w0 w wb rb gb qb st) (hx : x.Ok) (hV : VL.length ≤ 1000) (hE : EL.length ≤ 1000) (hk : x.kind = 4) :
    Calls Tryz.prog 45 #[.pointer (some ⟨wb, 0, none⟩), .pointer (some ⟨rb, 0, none⟩), .agg #[.int .i64 x.kind, .int .i64 x.id, .bool x.out, .string x.lab, .string x.nl, .string x.nk, .int .i64 x.low.kind, .int .i64 x.low.n, .string x.low.s, .int .i64 x.high.kind, .int .i64 x.high.n, .string x.high.s]] w (D17 w0 wb rb gb qb) := by
  obtain ⟨W, hW⟩ : ∃ W, W = w.alloc (.cells #[.int .i64 x.kind, .int .i64 x.id, .bool x.out, .string x.lab, .string x.nl, .string x.nk, .int .i64 x.low.kind, .int .i64 x.low.n, .string x.low.s, .int .i64 x.high.kind, .int .i64 x.high.n, .string x.high.s] 102) := ⟨_, rfl⟩
  have hBW : Below w.heap.size w W := by rw [hW]; exact below_box w _
  obtain ⟨ab, hab⟩ : ∃ b, b = w.heap.size := ⟨_, rfl⟩
  have hbx : A7Box W ab x := by unfold A7Box; rw [hW, hab]; exact heap_new w _
  have hI := h.below hBW
  have HI := Lib.hid hI
  have HAB : Hid (wb < ab ∧ rb < ab) := Lib.hid (by have := h.a.lt; have := h.r.lt; omega)
  have HXK : Hid (∀ u, Chg W u (fun i => i = wb ∨ i = rb) → A7Box u ab x) := Lib.hid (fun u hu => (hu.block _ (Array.getElem?_eq_some_iff.1 hbx).1 (by have := HAB.out; omega)).trans hbx)
  have HKS : Hid (∀ u, Chg W u (fun i => i = wb ∨ i = rb) → ((u.cell? ⟨ab, 1, none⟩ = some (.int .i64 x.id) ∧ u.cell? ⟨ab, 2, none⟩ = some (.bool x.out) ∧ u.cell? ⟨ab, 3, none⟩ = some (.string x.lab)) ∧ ab < u.heap.size) ∧ ((u.cell? ⟨ab, 4, none⟩ = some (.string x.nl) ∧ u.cell? ⟨ab, 5, none⟩ = some (.string x.nk) ∧ u.cell? ⟨ab, 6, none⟩ = some (.int .i64 x.low.kind) ∧ u.cell? ⟨ab, 7, none⟩ = some (.int .i64 x.low.n) ∧ u.cell? ⟨ab, 8, none⟩ = some (.string x.low.s) ∧ u.cell? ⟨ab, 9, none⟩ = some (.int .i64 x.high.kind) ∧ u.cell? ⟨ab, 10, none⟩ = some (.int .i64 x.high.n) ∧ u.cell? ⟨ab, 11, none⟩ = some (.string x.high.s)) ∧ ab < u.heap.size)) := Lib.hid (fun u hu => by
    obtain ⟨q0, q1, q2, q3, q4, q5, q6, q7, q8, q9, q10, q11, ql⟩ := (HXK.out u hu).cells
    exact ⟨⟨⟨q1, q2, q3⟩, ql⟩, ⟨q4, q5, q6, q7, q8, q9, q10, q11⟩, ql⟩)
  have HG := Lib.hid hG
  have HR := Lib.hid hR
  have HX := Lib.hid hx
  have HN : Hid (VL.length ≤ 1000 ∧ EL.length ≤ 1000) := Lib.hid ⟨hV, hE⟩
  have HRV : Hid (RgV w0 qb VL) := Lib.hid (by
    obtain ⟨⟨va, vc, ea, ec, h1, h2, h3⟩, h4, h5, h6⟩ := hR
    exact ⟨⟨va, vc, by rw [cell_of_blk h1]; rfl, h2.toV⟩, fun y hy => ⟨(h4 y hy).1.v, Nat.le_trans (checkR_ps (hG.ok.v y.v (List.mem_map.2 ⟨y, hy, rfl⟩))) (by omega)⟩, by omega, hG.ok.sv⟩)
  have HW := Lib.hid hW
  have HAE := Lib.hid hab
  clear hG hR h hx hV hE hW hBW hab hbx hI
  obtain ⟨p0, p1, p2, p3, p4, p5, p6, p7, p8, p9, p10, p11, pl⟩ := (HXK.out W (Chg.refl _ _)).cells
  have n0 : (x.kind == 0) = false := by simp only [beq_eq_false_iff_ne]; omega
  have n1 : (x.kind == 1) = false := by simp only [beq_eq_false_iff_ne]; omega
  have n2 : (x.kind == 2) = false := by simp only [beq_eq_false_iff_ne]; omega
  have n3 : (x.kind == 3) = false := by simp only [beq_eq_false_iff_ne]; omega
  have n4 : (x.kind == 4) = true := by simp only [beq_iff_eq]; omega
  clear hk
  go_enter Tryz.func45, Tryz.ntmps45
  go_upto_region 1 with fail
  rw [← HW.out, ← HAE.out]
  go_upto_region 18 with fail
  obtain ⟨V, hVV⟩ : ∃ V, V = VL.map Vr.v := ⟨_, rfl⟩
  obtain ⟨s2, hs2⟩ : ∃ s, s = payS st 1 := ⟨_, rfl⟩
  obtain ⟨L, hL⟩ : ∃ L : List Int, L = if s2.isSome then fitL V x.nl x.nk x.low x.high else [] := ⟨_, rfl⟩
  have HLL : Hid (L.length ≤ 1000) := Lib.hid (by
    have h1 := fitL_len V x.nl x.nk x.low x.high
    have h2 := HN.out.1
    rw [hL]
    split
    · rw [hVV] at h1 ⊢; rw [List.length_map] at h1; omega
    · exact Nat.zero_le _)
  have hD : Below W.heap.size W W.drew := below_drewN (Below.refl _ _) 1
  have hca := wfind_any w0 W.drew wb gb vb eb (VL.map Vr.v) (EL.map Er.e) st x.nl x.nk x.low x.high HG.out (HI.out.a.below hD) (by rw [List.length_map]; have := HN.out.1; omega)
  rw [← hVV] at hca
  have HCA : Hid (Calls Tryz.prog 41 #[.pointer (some ⟨wb, 0, none⟩), .agg #[.string x.nl, .string x.nk, .int .i64 x.low.kind, .int .i64 x.low.n, .string x.low.s, .int .i64 x.high.kind, .int .i64 x.high.n, .string x.high.s]] W.drew fun e w' => ∃ a cap, e = .returned (.slice a L.length cap) ∧ FreshI W.heap.size w' a L ∧ WkS w0 w' wb gb s2 ∧ WrS w0 w' rb qb st ∧ Chg W w' (fun i => i = wb ∨ i = rb)) := Lib.hid (by
    refine hca.mono ?_
    rintro e w' ⟨a, cap, l', rfl, hl', o, hs, hk⟩
    rw [← hs2] at hs hl'
    rw [← hL] at hl'
    subst hl'
    exact ⟨a, cap, rfl, o, hs, (HI.out.below hD).other hk, (Chg.of_below hD _).trans (chg2a hk) (fun _ _ h => h)⟩)
  have HCB : Hid (∀ u, Chg W u (fun i => i = wb ∨ i = rb) → WkS w0 u wb gb s2 → WrS w0 u rb qb st → ∀ a, FreshI W.heap.size u a L → Calls Tryz.prog 123 #[.pointer (some ⟨rb, 0, none⟩), .agg #[.string x.nl, .string x.nk, .int .i64 x.low.kind, .int .i64 x.low.n, .string x.low.s, .int .i64 x.high.kind, .int .i64 x.high.n, .string x.high.s]] u fun e w' => ∃ b cb, e = .returned (.slice b L.length cb) ∧ kI.V w' a L ∧ kI.V w' b L ∧ DI w0 w' wb rb gb qb s2 ∧ Chg W w' (fun i => i = wb ∨ i = rb)) := Lib.hid (fun u hu h1 h2 a ho => by
    have hn := r17find_any w0 u rb qb VL st x.nl x.nk x.low x.high HRV.out h2
    rw [← hVV] at hn
    refine hn.mono ?_
    rintro e w' ⟨b, cb, L', rfl, hl', o, hs, hk⟩
    rw [← hs2] at hs hl'
    rw [← hL] at hl'
    subst hl'
    exact ⟨b, cb, rfl, (ho.chg hk (fun j e => by have := HI.out.r.lt; omega)).toV, o.toV, ⟨h1.chgD hk HI.out.ne (fun j e => by rw [e]; exact h2.new), hs, HI.out.ne⟩, hu.trans (chg2b hk) (fun _ _ h => h)⟩)
  have HCC : Hid (∀ u a cap b cb, kI.V u a L → kI.V u b L → Calls Tryz.prog 44 #[.slice a L.length cap, .slice b L.length cb] u fun e w' => e = .returned (.bool true) ∧ Below u.heap.size u w') := Lib.hid (fun u a cap b cb ho hv => by
    have := ints10_any a b cap cb L L u ho hv (by have := HLL.out; omega)
    rw [decide_eq_true (rfl : L = L)] at this
    exact this)
  have HS0 := Lib.hid (HKS.out W.drew (Chg.of_below hD _)).2
  clear hs2 hca hL hVV p0 p1 p2 p3 p4 p5 p6 p7 p8 p9 p10 p11 pl
  go_region_held3 (fun u => (u.cell? ⟨ab, 4, none⟩ = some (.string x.nl) ∧ u.cell? ⟨ab, 5, none⟩ = some (.string x.nk) ∧ u.cell? ⟨ab, 6, none⟩ = some (.int .i64 x.low.kind) ∧ u.cell? ⟨ab, 7, none⟩ = some (.int .i64 x.low.n) ∧ u.cell? ⟨ab, 8, none⟩ = some (.string x.low.s) ∧ u.cell? ⟨ab, 9, none⟩ = some (.int .i64 x.high.kind) ∧ u.cell? ⟨ab, 10, none⟩ = some (.int .i64 x.high.n) ∧ u.cell? ⟨ab, 11, none⟩ = some (.string x.high.s)) ∧ ab < u.heap.size)
    (first | exact HS0.out | exact HSA.out | exact HSB.out | exact HSC.out)
    (first | (go_at_call 41; (with_reducible refine HCA.out.mono ?_); rintro e w6 ⟨a6, c6, rfl, o6, s6, t6, k6⟩; have HSA := Lib.hid (HKS.out _ k6).2; have HB6 := Lib.hid (HCB.out _ k6 s6 t6 a6 o6); clear o6 s6 t6 k6) | (go_at_call 123; (with_reducible refine HB6.out.mono ?_); rintro e w7 ⟨b7, c7, rfl, o7, v7, d7, k7⟩; have HSB := Lib.hid (HKS.out _ k7).2; have HD7 := Lib.hid d7; have HK7 := Lib.hid k7; have HI7 := Lib.hid (HCC.out w7 a6 c6 b7 c7 o7 v7); clear o7 v7 d7 k7) | (go_at_call 44; (with_reducible refine HI7.out.mono ?_); rintro e w8 ⟨rfl, b8⟩; have HSC := Lib.hid (HKS.out _ (HK7.out.trans (Chg.of_below b8 (fun _ => False)) (fun _ _ e => e.elim))).2; have HD8 := Lib.hid (HD7.out.below b8); clear b8) | fail)
  all_goals
    go_wp2_with fail
    go_ret
    exact ⟨rfl, s2, HD8.out⟩
set_option maxRecDepth 100000 in
set_option maxHeartbeats 8000000 in
theorem d17_2 (w0 w : World) (wb gb vb eb rb qb B : Nat) (VL : List Vr) (EL : List Er) (st : Option Nat) (x : A7) (hG : GrC w0 gb vb eb (VL.map Vr.v) (EL.map Er.e)) (hR : RgL w0 qb B VL EL) (h : DI w0 w wb rb gb qb st) (hx : x.Ok) (hV : VL.length ≤ 1000) (hE : EL.length ≤ 1000) (hk : x.kind = 2) :
    Calls Tryz.prog 45 #[.pointer (some ⟨wb, 0, none⟩), .pointer (some ⟨rb, 0, none⟩), .agg #[.int .i64 x.kind, .int .i64 x.id, .bool x.out, .string x.lab, .string x.nl, .string x.nk, .int .i64 x.low.kind, .int .i64 x.low.n, .string x.low.s, .int .i64 x.high.kind, .int .i64 x.high.n, .string x.high.s]] w (D17 w0 wb rb gb qb) := by
  obtain ⟨W, hW⟩ : ∃ W, W = w.alloc (.cells #[.int .i64 x.kind, .int .i64 x.id, .bool x.out, .string x.lab, .string x.nl, .string x.nk, .int .i64 x.low.kind, .int .i64 x.low.n, .string x.low.s, .int .i64 x.high.kind, .int .i64 x.high.n, .string x.high.s] 102) := ⟨_, rfl⟩
  have hBW : Below w.heap.size w W := by rw [hW]; exact below_box w _
  obtain ⟨ab, hab⟩ : ∃ b, b = w.heap.size := ⟨_, rfl⟩
  have hbx : A7Box W ab x := by unfold A7Box; rw [hW, hab]; exact heap_new w _
  have hI := h.below hBW
  have HI := Lib.hid hI
  have HAB : Hid (wb < ab ∧ rb < ab) := Lib.hid (by have := h.a.lt; have := h.r.lt; omega)
  have HXK : Hid (∀ u, Chg W u (fun i => i = wb ∨ i = rb) → A7Box u ab x) := Lib.hid (fun u hu => (hu.block _ (Array.getElem?_eq_some_iff.1 hbx).1 (by have := HAB.out; omega)).trans hbx)
  have HKS : Hid (∀ u, Chg W u (fun i => i = wb ∨ i = rb) → ((u.cell? ⟨ab, 1, none⟩ = some (.int .i64 x.id) ∧ u.cell? ⟨ab, 2, none⟩ = some (.bool x.out) ∧ u.cell? ⟨ab, 3, none⟩ = some (.string x.lab)) ∧ ab < u.heap.size) ∧ ((u.cell? ⟨ab, 4, none⟩ = some (.string x.nl) ∧ u.cell? ⟨ab, 5, none⟩ = some (.string x.nk) ∧ u.cell? ⟨ab, 6, none⟩ = some (.int .i64 x.low.kind) ∧ u.cell? ⟨ab, 7, none⟩ = some (.int .i64 x.low.n) ∧ u.cell? ⟨ab, 8, none⟩ = some (.string x.low.s) ∧ u.cell? ⟨ab, 9, none⟩ = some (.int .i64 x.high.kind) ∧ u.cell? ⟨ab, 10, none⟩ = some (.int .i64 x.high.n) ∧ u.cell? ⟨ab, 11, none⟩ = some (.string x.high.s)) ∧ ab < u.heap.size)) := Lib.hid (fun u hu => by
    obtain ⟨q0, q1, q2, q3, q4, q5, q6, q7, q8, q9, q10, q11, ql⟩ := (HXK.out u hu).cells
    exact ⟨⟨⟨q1, q2, q3⟩, ql⟩, ⟨q4, q5, q6, q7, q8, q9, q10, q11⟩, ql⟩)
  have HG := Lib.hid hG
  have HR := Lib.hid hR
  have HX := Lib.hid hx
  have HN : Hid (VL.length ≤ 1000 ∧ EL.length ≤ 1000) := Lib.hid ⟨hV, hE⟩
  have HRV : Hid (RgV w0 qb VL) := Lib.hid (by
    obtain ⟨⟨va, vc, ea, ec, h1, h2, h3⟩, h4, h5, h6⟩ := hR
    exact ⟨⟨va, vc, by rw [cell_of_blk h1]; rfl, h2.toV⟩, fun y hy => ⟨(h4 y hy).1.v, Nat.le_trans (checkR_ps (hG.ok.v y.v (List.mem_map.2 ⟨y, hy, rfl⟩))) (by omega)⟩, by omega, hG.ok.sv⟩)
  have HW := Lib.hid hW
  have HAE := Lib.hid hab
  clear hG hR h hx hV hE hW hBW hab hbx hI
  obtain ⟨p0, p1, p2, p3, p4, p5, p6, p7, p8, p9, p10, p11, pl⟩ := (HXK.out W (Chg.refl _ _)).cells
  have n0 : (x.kind == 0) = false := by simp only [beq_eq_false_iff_ne]; omega
  have n1 : (x.kind == 1) = false := by simp only [beq_eq_false_iff_ne]; omega
  have n2 : (x.kind == 2) = true := by simp only [beq_iff_eq]; omega
  clear hk
  go_enter Tryz.func45, Tryz.ntmps45
  go_upto_region 1 with fail
  rw [← HW.out, ← HAE.out]
  go_upto_region 12 with (go_at_call 116; (refine (wedges_any w0 W wb gb vb eb (VL.map Vr.v) (EL.map Er.e) st x.id x.out HG.out HI.out.a (by rw [List.length_map]; have := HN.out.2; omega)).mono ?_); rintro e w1 ⟨v, rfl, o1, s1, k1⟩; obtain ⟨a1, c1, rfl⟩ := o1.shape; have HO1 := Lib.hid o1; have HS1 := Lib.hid s1; have HK1 := Lib.hid k1; have HT1 := Lib.hid (HI.out.other k1); clear o1 s1 k1)
  obtain ⟨E, hEE⟩ : ∃ E, E = EL.map Er.e := ⟨_, rfl⟩
  obtain ⟨s2, hs2⟩ : ∃ s, s = payS st 1 := ⟨_, rfl⟩
  obtain ⟨L, hL⟩ : ∃ L : List Int, L = if s2.isSome then idsE E (sideP x.out x.id) else [] := ⟨_, rfl⟩
  rw [← hEE, ← hs2, ← hL] at HO1
  rw [← hs2] at HS1
  rw [← hEE, ← hs2, ← hL]
  have HLL : Hid (L.length ≤ 1000) := Lib.hid (by
    have h1 := idsE_len E (sideP x.out x.id)
    have h2 := HN.out.2
    rw [hL]
    split
    · rw [hEE] at h1 ⊢; rw [List.length_map] at h1; omega
    · exact Nat.zero_le _)
  have HPY : Hid (Calls Tryz.prog 120 #[.pointer (some ⟨rb, 0, none⟩), .int .i64 1] w1 fun e w' => e = .returned (.bool s2.isSome) ∧ DI w0 w' wb rb gb qb s2 ∧ kI.Own w' W.heap.size (.slice a1 L.length c1) L ∧ Chg W w' (fun i => i = wb ∨ i = rb)) := Lib.hid (by
    refine (r17pay_any w0 w1 rb qb st 1 HT1.out).mono ?_
    rintro e w' ⟨rfl, hs, hk⟩
    have e1 : (1 : Int).toNat = 1 := rfl
    rw [e1, ← hs2] at hs
    exact ⟨by rw [e1, ← hs2], ⟨HS1.out.chgD hk HI.out.ne (fun j e => by rw [e]; exact HT1.out.new), hs, HI.out.ne⟩, HO1.out.chg hk (fun j hj e => by have := (HO1.out.lt j hj).1; have := HI.out.r.lt; omega), (chg2a HK1.out).trans (chg2b hk) (fun _ _ h => h)⟩)
  have HLE := Lib.hid hL
  have HEE := Lib.hid hEE
  clear hs2 hL hEE p0 p1 p2 p3 p4 p5 p6 p7 p8 p9 p10 p11 pl
  go_wp2_with fail
  refine HPY.out.mono ?_
  rintro e w2 ⟨rfl, d2, o2, k2⟩
  have HD2 := Lib.hid d2
  have HO2 := Lib.hid o2
  have HK2 := Lib.hid k2
  clear d2 o2 k2
  cases s2 with
  | none =>
    obtain rfl : L = [] := HLE.out
    simp only [Option.isSome_none, List.length_nil]
    go_wp2_with fail
    go_ret
    exact ⟨rfl, _, HD2.out⟩
  | some k =>
    have HLE2 : Hid (L = idsE E (sideP x.out x.id)) := Lib.hid HLE.out
    simp only [Option.isSome_some]
    obtain ⟨c0, _⟩ := HD2.out.r.cells
    have hzr := HD2.out.r.lt
    obtain ⟨⟨⟨p1, p2, p3⟩, pl⟩, _⟩ := HKS.out w2 HK2.out
    have HFC : Hid (∀ u, Below w2.heap.size w2 u → Below w2.heap.size w2 u ∧ u.cell? ⟨rb, 0, none⟩ = some (.pointer (some ⟨qb, 0, none⟩)) ∧ (u.cell? ⟨ab, 1, none⟩ = some (.int .i64 x.id) ∧ u.cell? ⟨ab, 2, none⟩ = some (.bool x.out)) ∧ rb < u.heap.size ∧ ab < u.heap.size) := Lib.hid (fun u hu => ⟨hu, (hu.cell (p := ⟨rb, 0, none⟩) hzr).trans c0, ⟨(hu.cell (p := ⟨ab, _, none⟩) pl).trans p1, (hu.cell (p := ⟨ab, _, none⟩) pl).trans p2⟩, Nat.lt_of_lt_of_le hzr hu.size, Nat.lt_of_lt_of_le pl hu.size⟩)
    have HEN : Hid (∀ u, Below w2.heap.size w2 u → Calls Tryz.prog 121 #[.pointer (some ⟨qb, 0, none⟩), .int .i64 x.id, .bool x.out] u fun e w' => ∃ b cb, e = .returned (.slice b L.length cb) ∧ kI.V w' b L ∧ Below u.heap.size u w') := Lib.hid (fun u hu => by
      obtain ⟨⟨va, vc, ea, ec, h1, h2, h3⟩, _⟩ := HR.out.below (HD2.out.a.bel.trans (hu.mono HD2.out.a.bel.size))
      have d1 : u.cell? ⟨qb, 1, none⟩ = some (.slice ea EL.length ec) := by rw [cell_of_blk h1]; rfl
      refine (r16ends_any d1 h3.toV (by have := HN.out.2; omega) x.id x.out).mono ?_
      rintro e w' ⟨v, rfl, o, hb⟩
      rw [← HEE.out, ← HLE2.out] at o
      obtain ⟨b, cb, rfl⟩ := o.shape
      exact ⟨b, cb, rfl, o.toV, hb⟩)
    have HCC : Hid (∀ u b cb, Below w2.heap.size w2 u → kI.V u b L → Calls Tryz.prog 44 #[.slice a1 L.length c1, .slice b L.length cb] u fun e w' => e = .returned (.bool true) ∧ Below u.heap.size u w') := Lib.hid (fun u b cb hu hv => by
      have := ints10_any a1 b c1 cb L L u (HO2.out.below hu).toV hv (by have := HLL.out; omega)
      rw [decide_eq_true (rfl : L = L)] at this
      exact this)
    clear c0 hzr p1 p2 p3 pl
    go_upto_region 14 with fail
    go_region_held3 (fun u => Below w2.heap.size w2 u ∧ u.cell? ⟨rb, 0, none⟩ = some (.pointer (some ⟨qb, 0, none⟩)) ∧ (u.cell? ⟨ab, 1, none⟩ = some (.int .i64 x.id) ∧ u.cell? ⟨ab, 2, none⟩ = some (.bool x.out)) ∧ rb < u.heap.size ∧ ab < u.heap.size)
      (first | exact HFC.out _ (Below.refl _ _).drew | exact HFC.out _ HBC.out | exact HFC.out _ HBD.out)
      (first | (go_at_call 121; (refine (HEN.out _ (by go_split_ands; assumption)).mono ?_); rintro e wc ⟨b3, c3, rfl, v3, hbc⟩; have HBC := Lib.hid (below_then (show Below w2.heap.size w2 _ by go_split_ands; assumption) hbc); have HC3 := Lib.hid (HCC.out wc b3 c3 HBC.out v3); clear v3) | (go_at_call 44; (with_reducible refine HC3.out.mono ?_); rintro e wd ⟨rfl, hbd⟩; have HBD := Lib.hid (below_then HBC.out hbd)) | fail)
    all_goals
      go_wp2_with fail
      go_ret
      exact ⟨rfl, _, HD2.out.below HBD.out⟩
end Go.Proofs.YtonilojjahfboaaGreat
namespace Go.Proofs.YtonilojjahfboaaGreat
open Go.RowKit Go.Maps

set_option maxRecDepth 100000 in
set_option maxHeartbeats 8000000 in
theorem d17_5 (w0 w : World) (wb gb vb eb rb qb B : Nat) (VL : List Vr) (EL : List Er) (st : Option Nat) (x : A7) (hG : GrC w0 gb vb eb (VL.map Vr.v) (EL.map Er.e)) (hR : RgL w0 qb B VL EL) (h : DI w0 w wb rb gb qb st) (hx : x.Ok) (hV : VL.length ≤ 1000) (hE : EL.length ≤ 1000) (hk : x.kind = 5) :
    Calls Tryz.prog 45 #[.pointer (some ⟨wb, 0, none⟩), .pointer (some ⟨rb, 0, none⟩), .agg #[.int .i64 x.kind, .int .i64 x.id, .bool x.out, .string x.lab, .string x.nl, .string x.nk, .int .i64 x.low.kind, .int .i64 x.low.n, .string x.low.s, .int .i64 x.high.kind, .int .i64 x.high.n, .string x.high.s]] w (D17 w0 wb rb gb qb) := by
  obtain ⟨W, hW⟩ : ∃ W, W = w.alloc (.cells #[.int .i64 x.kind, .int .i64 x.id, .bool x.out, .string x.lab, .string x.nl, .string x.nk, .int .i64 x.low.kind, .int .i64 x.low.n, .string x.low.s, .int .i64 x.high.kind, .int .i64 x.high.n, .string x.high.s] 102) := ⟨_, rfl⟩
  have hBW : Below w.heap.size w W := by rw [hW]; exact below_box w _
  obtain ⟨ab, hab⟩ : ∃ b, b = w.heap.size := ⟨_, rfl⟩
  have hbx : A7Box W ab x := by unfold A7Box; rw [hW, hab]; exact heap_new w _
  have hI := h.below hBW
  have HI := Lib.hid hI
  have HAB : Hid (wb < ab ∧ rb < ab) := Lib.hid (by have := h.a.lt; have := h.r.lt; omega)
  have HXK : Hid (∀ u, Chg W u (fun i => i = wb ∨ i = rb) → A7Box u ab x) := Lib.hid (fun u hu => (hu.block _ (Array.getElem?_eq_some_iff.1 hbx).1 (by have := HAB.out; omega)).trans hbx)
  have HKS : Hid (∀ u, Chg W u (fun i => i = wb ∨ i = rb) → ((u.cell? ⟨ab, 1, none⟩ = some (.int .i64 x.id) ∧ u.cell? ⟨ab, 2, none⟩ = some (.bool x.out) ∧ u.cell? ⟨ab, 3, none⟩ = some (.string x.lab)) ∧ ab < u.heap.size) ∧ ((u.cell? ⟨ab, 4, none⟩ = some (.string x.nl) ∧ u.cell? ⟨ab, 5, none⟩ = some (.string x.nk) ∧ u.cell? ⟨ab, 6, none⟩ = some (.int .i64 x.low.kind) ∧ u.cell? ⟨ab, 7, none⟩ = some (.int .i64 x.low.n) ∧ u.cell? ⟨ab, 8, none⟩ = some (.string x.low.s) ∧ u.cell? ⟨ab, 9, none⟩ = some (.int .i64 x.high.kind) ∧ u.cell? ⟨ab, 10, none⟩ = some (.int .i64 x.high.n) ∧ u.cell? ⟨ab, 11, none⟩ = some (.string x.high.s)) ∧ ab < u.heap.size)) := Lib.hid (fun u hu => by
    obtain ⟨q0, q1, q2, q3, q4, q5, q6, q7, q8, q9, q10, q11, ql⟩ := (HXK.out u hu).cells
    exact ⟨⟨⟨q1, q2, q3⟩, ql⟩, ⟨q4, q5, q6, q7, q8, q9, q10, q11⟩, ql⟩)
  have HG := Lib.hid hG
  have HR := Lib.hid hR
  have HX := Lib.hid hx
  have HN : Hid (VL.length ≤ 1000 ∧ EL.length ≤ 1000) := Lib.hid ⟨hV, hE⟩
  have HRV : Hid (RgV w0 qb VL) := Lib.hid (by
    obtain ⟨⟨va, vc, ea, ec, h1, h2, h3⟩, h4, h5, h6⟩ := hR
    exact ⟨⟨va, vc, by rw [cell_of_blk h1]; rfl, h2.toV⟩, fun y hy => ⟨(h4 y hy).1.v, Nat.le_trans (checkR_ps (hG.ok.v y.v (List.mem_map.2 ⟨y, hy, rfl⟩))) (by omega)⟩, by omega, hG.ok.sv⟩)
  have HW := Lib.hid hW
  have HAE := Lib.hid hab
  clear hG hR h hx hV hE hW hBW hab hbx hI
  obtain ⟨p0, p1, p2, p3, p4, p5, p6, p7, p8, p9, p10, p11, pl⟩ := (HXK.out W (Chg.refl _ _)).cells
  have n0 : (x.kind == 0) = false := by simp only [beq_eq_false_iff_ne]; omega
  have n1 : (x.kind == 1) = false := by simp only [beq_eq_false_iff_ne]; omega
  have n2 : (x.kind == 2) = false := by simp only [beq_eq_false_iff_ne]; omega
  have n3 : (x.kind == 3) = false := by simp only [beq_eq_false_iff_ne]; omega
  have n4 : (x.kind == 4) = false := by simp only [beq_eq_false_iff_ne]; omega
  have n5 : (x.kind == 5) = true := by simp only [beq_iff_eq]; omega
  clear hk
  go_enter Tryz.func45, Tryz.ntmps45
  go_upto_region 1 with fail
  rw [← HW.out, ← HAE.out]
  obtain ⟨V, hVV⟩ : ∃ V, V = VL.map Vr.v := ⟨_, rfl⟩
  obtain ⟨s2, hs2⟩ : ∃ s, s = payS st 1 := ⟨_, rfl⟩
  obtain ⟨q, hq⟩ : ∃ q, q = isN V x.nl x.nk x.low x.high x.id := ⟨_, rfl⟩
  have hft := wfits_any w0 W wb gb vb eb (VL.map Vr.v) (EL.map Er.e) st x.nl x.nk x.low x.high x.id HG.out HI.out.a HX.out.1
  unfold FtPost at hft
  rw [← hVV, ← hs2, ← hq] at hft
  have HFT := Lib.hid hft
  have HIS : Hid (∀ u, Below w0.heap.size w0 u → Calls Tryz.prog 125 #[.pointer (some ⟨qb, 0, none⟩), .agg #[.string x.nl, .string x.nk, .int .i64 x.low.kind, .int .i64 x.low.n, .string x.low.s, .int .i64 x.high.kind, .int .i64 x.high.n, .string x.high.s], .int .i64 x.id] u fun e w' => e = .returned (.bool q) ∧ Below u.heap.size u w') := Lib.hid (fun u hu => by
    have := r17is_any (HRV.out.below hu) x.nl x.nk x.low x.high x.id
    rw [← hVV, ← hq] at this
    exact this)
  have HPY : Hid (∀ u, WrS w0 u rb qb st → Calls Tryz.prog 120 #[.pointer (some ⟨rb, 0, none⟩), .int .i64 1] u fun e w' => e = .returned (.bool s2.isSome) ∧ WrS w0 w' rb qb s2 ∧ Chg u w' (fun i => i = rb)) := Lib.hid (fun u hu => by
    refine (r17pay_any w0 u rb qb st 1 hu).mono ?_
    rintro e w' ⟨rfl, hs, hk⟩
    have e1 : (1 : Int).toNat = 1 := rfl
    rw [e1, ← hs2] at hs
    exact ⟨by rw [e1, ← hs2], hs, hk⟩)
  clear hft hVV hs2 hq
  go_upto_region 21 with (go_at_call 124; (with_reducible refine HFT.out.mono ?_); rintro e w1 ⟨rfl, s1, k1⟩; have HS1 := Lib.hid s1; have HK1 := Lib.hid (chg2a (b := rb) k1); have HT1 := Lib.hid (HI.out.other k1); clear s1 k1)
  clear p0 p1 p2 p3 p4 p5 p6 p7 p8 p9 p10 p11 pl
  have hD : Below w1.heap.size w1 w1.drew := below_drewN (Below.refl _ _) 1
  have HP1 := Lib.hid (HPY.out w1.drew (HT1.out.below hD))
  have HFC : Hid (∀ u, Chg W u (fun i => i = wb ∨ i = rb) → ∀ s3, WrS w0 u rb qb s3 → u.cell? ⟨rb, 0, none⟩ = some (.pointer (some ⟨qb, 0, none⟩)) ∧ (u.cell? ⟨ab, 1, none⟩ = some (.int .i64 x.id)) ∧ ((u.cell? ⟨ab, 4, none⟩ = some (.string x.nl) ∧ u.cell? ⟨ab, 5, none⟩ = some (.string x.nk) ∧ u.cell? ⟨ab, 6, none⟩ = some (.int .i64 x.low.kind) ∧ u.cell? ⟨ab, 7, none⟩ = some (.int .i64 x.low.n) ∧ u.cell? ⟨ab, 8, none⟩ = some (.string x.low.s) ∧ u.cell? ⟨ab, 9, none⟩ = some (.int .i64 x.high.kind) ∧ u.cell? ⟨ab, 10, none⟩ = some (.int .i64 x.high.n) ∧ u.cell? ⟨ab, 11, none⟩ = some (.string x.high.s)) ∧ ab < u.heap.size) ∧ rb < u.heap.size) := Lib.hid (fun u hu s3 hs => ⟨hs.cells.1, (HKS.out u hu).1.1.1, (HKS.out u hu).2, hs.lt⟩)
  have HK1D : Hid (Chg W w1.drew (fun i => i = wb ∨ i = rb)) := Lib.hid (HK1.out.trans (Chg.of_below hD (fun _ => False)) (fun _ _ e => e.elim))
  have HS0 := Lib.hid (HFC.out w1.drew HK1D.out st (HT1.out.below hD))
  have HD2 : Hid (∀ u, WrS w0 u rb qb s2 → Chg w1.drew u (fun i => i = rb) → DI w0 u wb rb gb qb s2 ∧ Chg W u (fun i => i = wb ∨ i = rb)) := Lib.hid (fun u hu hc => ⟨⟨(HS1.out.below hD).chgD hc HI.out.ne (fun j e => by rw [e]; exact HT1.out.new), hu, HI.out.ne⟩, HK1D.out.trans (chg2b hc) (fun _ _ h => h)⟩)
  cases hsp : s2.isSome
  · rw [hsp] at HP1
    simp only [Bool.false_and]
    refine wp_region_held_drew (S := fun u => u.cell? ⟨rb, 0, none⟩ = some (.pointer (some ⟨qb, 0, none⟩)) ∧ (u.cell? ⟨ab, 1, none⟩ = some (.int .i64 x.id)) ∧ ((u.cell? ⟨ab, 4, none⟩ = some (.string x.nl) ∧ u.cell? ⟨ab, 5, none⟩ = some (.string x.nk) ∧ u.cell? ⟨ab, 6, none⟩ = some (.int .i64 x.low.kind) ∧ u.cell? ⟨ab, 7, none⟩ = some (.int .i64 x.low.n) ∧ u.cell? ⟨ab, 8, none⟩ = some (.string x.low.s) ∧ u.cell? ⟨ab, 9, none⟩ = some (.int .i64 x.high.kind) ∧ u.cell? ⟨ab, 10, none⟩ = some (.int .i64 x.high.n) ∧ u.cell? ⟨ab, 11, none⟩ = some (.string x.high.s)) ∧ ab < u.heap.size) ∧ rb < u.heap.size) (by kernel_rfl) HS0.out (fun hHeld => ?_)
    refine wpAnyH_take (i := 0) (v := ?_) rfl (by kernel_rfl) (by kernel_rfl) (by kernel_rfl) (fun _ _ _ h => h) (Or.inl ⟨by kernel_rfl, ?_⟩) (by assumption) ?_
    rotate_left
    · intro w hSw; (try dsimp only at hSw); go_simp; first | done | with_reducible rfl
    simp only [List.getElem_toArray, List.getElem_cons_zero, Act.put, List.setIfInBounds_toArray, List.set_cons_zero, List.set_cons_succ]
    refine wpAnyH_take (i := 1) (v := ?_) rfl (by kernel_rfl) (by kernel_rfl) (by kernel_rfl) (fun _ _ _ h => h) (Or.inl ⟨by kernel_rfl, ?_⟩) (by assumption) ?_
    rotate_left
    · intro w hSw; (try dsimp only at hSw); go_simp; first | done | with_reducible rfl
    simp only [List.getElem_toArray, List.getElem_cons_succ, List.getElem_cons_zero, Act.put, List.setIfInBounds_toArray, List.set_cons_zero, List.set_cons_succ]
    refine wpAnyH_ready (rs := [2]) (by kernel_rfl) (by simp) ?_
    refine AllReadyH.cons rfl (fun K hK => ?_) AllReadyH.nil
    go_simp
    (with_reducible refine HP1.out.mono ?_)
    rintro e w6 ⟨rfl, s6, k6⟩
    have HD6 := Lib.hid (HD2.out w6 s6 k6)
    have HSA := Lib.hid (HFC.out w6 HD6.out.2 _ s6)
    clear s6 k6
    dsimp only
    refine hK.out _ _ HSA.out (fun hHeld2 => ?_)
    clear hK K hHeld
    refine wpAnyH_take (i := 3) (v := ?_) rfl (by kernel_rfl) (by kernel_rfl) (by kernel_rfl) (fun _ _ _ h => h) (Or.inl ⟨by kernel_rfl, ?_⟩) (by assumption) ?_
    rotate_left
    · intro w hSw; (try dsimp only at hSw); go_simp; first | done | with_reducible rfl
    simp only [List.getElem_toArray, List.getElem_cons_succ, List.getElem_cons_zero, Act.put, List.setIfInBounds_toArray, List.set_cons_zero, List.set_cons_succ]
    refine wpAnyH_take (i := 4) (v := undef) rfl (by kernel_rfl) (by kernel_rfl) (by kernel_rfl) (fun _ _ _ h => h) (Or.inr ⟨by kernel_rfl, rfl⟩) (by assumption) ?_
    simp only [List.getElem_toArray, List.getElem_cons_succ, List.getElem_cons_zero, Act.put, List.setIfInBounds_toArray, List.set_cons_zero, List.set_cons_succ]
    refine wpAnyH_take (i := 5) (v := undef) rfl (by kernel_rfl) (by kernel_rfl) (by kernel_rfl) (fun _ _ _ h => h) (Or.inr ⟨by kernel_rfl, rfl⟩) (by assumption) ?_
    simp only [List.getElem_toArray, List.getElem_cons_succ, List.getElem_cons_zero, Act.put, List.setIfInBounds_toArray, List.set_cons_zero, List.set_cons_succ]
    refine wpAnyH_take (i := 6) (v := undef) rfl (by kernel_rfl) (by kernel_rfl) (by kernel_rfl) (fun _ _ _ h => h) (Or.inr ⟨by kernel_rfl, rfl⟩) (by assumption) ?_
    simp only [List.getElem_toArray, List.getElem_cons_succ, List.getElem_cons_zero, Act.put, List.setIfInBounds_toArray, List.set_cons_zero, List.set_cons_succ]
    refine wpAnyH_take (i := 7) (v := undef) rfl (by kernel_rfl) (by kernel_rfl) (by kernel_rfl) (fun _ _ _ h => h) (Or.inr ⟨by kernel_rfl, rfl⟩) (by assumption) ?_
    simp only [List.getElem_toArray, List.getElem_cons_succ, List.getElem_cons_zero, Act.put, List.setIfInBounds_toArray, List.set_cons_zero, List.set_cons_succ]
    refine wpAnyH_take (i := 8) (v := undef) rfl (by kernel_rfl) (by kernel_rfl) (by kernel_rfl) (fun _ _ _ h => h) (Or.inr ⟨by kernel_rfl, rfl⟩) (by assumption) ?_
    simp only [List.getElem_toArray, List.getElem_cons_succ, List.getElem_cons_zero, Act.put, List.setIfInBounds_toArray, List.set_cons_zero, List.set_cons_succ]
    refine wpAnyH_take (i := 9) (v := undef) rfl (by kernel_rfl) (by kernel_rfl) (by kernel_rfl) (fun _ _ _ h => h) (Or.inr ⟨by kernel_rfl, rfl⟩) (by assumption) ?_
    simp only [List.getElem_toArray, List.getElem_cons_succ, List.getElem_cons_zero, Act.put, List.setIfInBounds_toArray, List.set_cons_zero, List.set_cons_succ]
    refine wpAnyH_take (i := 10) (v := undef) rfl (by kernel_rfl) (by kernel_rfl) (by kernel_rfl) (fun _ _ _ h => h) (Or.inr ⟨by kernel_rfl, rfl⟩) (by assumption) ?_
    simp only [List.getElem_toArray, List.getElem_cons_succ, List.getElem_cons_zero, Act.put, List.setIfInBounds_toArray, List.set_cons_zero, List.set_cons_succ]
    refine wpAnyH_take (i := 11) (v := undef) rfl (by kernel_rfl) (by kernel_rfl) (by kernel_rfl) (fun _ _ _ h => h) (Or.inr ⟨by kernel_rfl, rfl⟩) (by assumption) ?_
    simp only [List.getElem_toArray, List.getElem_cons_succ, List.getElem_cons_zero, Act.put, List.setIfInBounds_toArray, List.set_cons_zero, List.set_cons_succ]
    refine wpAnyH_take (i := 12) (v := undef) rfl (by kernel_rfl) (by kernel_rfl) (by kernel_rfl) (fun _ _ _ h => h) (Or.inr ⟨by kernel_rfl, rfl⟩) (by assumption) ?_
    simp only [List.getElem_toArray, List.getElem_cons_succ, List.getElem_cons_zero, Act.put, List.setIfInBounds_toArray, List.set_cons_zero, List.set_cons_succ]
    refine wpAnyH_take (i := 13) (v := ?_) rfl (by kernel_rfl) (by kernel_rfl) (by kernel_rfl) (fun _ _ _ h => h) (Or.inl ⟨by kernel_rfl, ?_⟩) (by assumption) ?_
    rotate_left
    · intro w hSw; (try dsimp only at hSw); go_simp; first | done | with_reducible rfl
    simp only [List.getElem_toArray, List.getElem_cons_succ, List.getElem_cons_zero, Act.put, List.setIfInBounds_toArray, List.set_cons_zero, List.set_cons_succ]
    refine wpAnyH_take (i := 14) (v := ?_) rfl (by kernel_rfl) (by kernel_rfl) (by kernel_rfl) (fun _ _ _ h => h) (Or.inl ⟨by kernel_rfl, ?_⟩) (by assumption) ?_
    rotate_left
    · intro w hSw; (try dsimp only at hSw); go_simp; first | done | with_reducible rfl
    simp only [List.getElem_toArray, List.getElem_cons_succ, List.getElem_cons_zero, Act.put, List.setIfInBounds_toArray, List.set_cons_zero, List.set_cons_succ]
    refine wpAnyH_take (i := 15) (v := ?_) rfl (by kernel_rfl) (by kernel_rfl) (by kernel_rfl) (fun _ _ _ h => h) (Or.inl ⟨by kernel_rfl, ?_⟩) (by assumption) ?_
    rotate_left
    · intro w hSw; (try dsimp only at hSw); go_simp; first | done | with_reducible rfl
    simp only [List.getElem_toArray, List.getElem_cons_succ, List.getElem_cons_zero, Act.put, List.setIfInBounds_toArray, List.set_cons_zero, List.set_cons_succ]
    refine wpAnyH_done (by kernel_rfl) ?_ _
    all_goals
      go_wp2_with fail
      go_ret
      exact ⟨rfl, s2, HD6.out.1⟩
  · rw [hsp] at HP1
    simp only [Bool.true_and]
    go_region_held3 (fun u => u.cell? ⟨rb, 0, none⟩ = some (.pointer (some ⟨qb, 0, none⟩)) ∧ (u.cell? ⟨ab, 1, none⟩ = some (.int .i64 x.id)) ∧ ((u.cell? ⟨ab, 4, none⟩ = some (.string x.nl) ∧ u.cell? ⟨ab, 5, none⟩ = some (.string x.nk) ∧ u.cell? ⟨ab, 6, none⟩ = some (.int .i64 x.low.kind) ∧ u.cell? ⟨ab, 7, none⟩ = some (.int .i64 x.low.n) ∧ u.cell? ⟨ab, 8, none⟩ = some (.string x.low.s) ∧ u.cell? ⟨ab, 9, none⟩ = some (.int .i64 x.high.kind) ∧ u.cell? ⟨ab, 10, none⟩ = some (.int .i64 x.high.n) ∧ u.cell? ⟨ab, 11, none⟩ = some (.string x.high.s)) ∧ ab < u.heap.size) ∧ rb < u.heap.size)
      (first | exact HS0.out | exact HSA.out | exact HSB.out)
      (first | (go_at_call 120; (with_reducible refine HP1.out.mono ?_); rintro e w6 ⟨rfl, s6, k6⟩; have HD6 := Lib.hid (HD2.out w6 s6 k6); have HSA := Lib.hid (HFC.out w6 HD6.out.2 _ s6); have HI6 := Lib.hid (HIS.out w6 s6.bel); clear s6 k6) | (go_at_call 125; (with_reducible refine HI6.out.mono ?_); rintro e w7 ⟨rfl, b7⟩; have HSB := Lib.hid (HFC.out w7 (HD6.out.2.trans (Chg.of_below b7 (fun _ => False)) (fun _ _ e => e.elim)) _ (HD6.out.1.r.below b7)); have HD7 := Lib.hid (HD6.out.1.below b7); clear b7) | fail)
    all_goals
      go_wp2_with fail
      go_ret
      exact ⟨by cases q <;> rfl, s2, HD7.out⟩
end Go.Proofs.YtonilojjahfboaaGreat
