/- (*occ.Txn).lock. Conditions: each contract's own premises. (*occ.Txn).take. Conditions: each contract's own premises. (*occ.Txn).check. Conditions: each contract's own premises. (*occ.Txn).install. Conditions: each contract's own premises. (*occ.Txn).Step, Abort, Phase, Stamp, Steps, Record. Conditions: each contract's own premises. -/
import Derived.Test.YtkhkdedjffkhdaaGreatOcR
import Derived.Test.YtkhkdedjffkhdaaGreatOcQ
import Derived.Deep.CutBlock
namespace Go.Proofs.YtkhkdedjffkhdaaGreat
open Go.RowKit Go.Maps

section
variable {w : World} {a : Ta} {T : Tn} {P : Ps} {s : Sto}
theorem TxC.setMost {m : Tm} (h : TxC w m T) (mo : Nat) : TxC (w.setCell ⟨m.tb, 8, none⟩ (.int .u64 mo)) m { T with most := mo } ∧ Chg w (w.setCell ⟨m.tb, 8, none⟩ (.int .u64 mo)) (fun j => j = m.tb) := by
  have hc : Chg w (w.setCell ⟨m.tb, 8, none⟩ (.int .u64 mo)) (fun j => j = m.tb) := (Chg.refl w (fun j => j = m.tb)).setCell (p := ⟨m.tb, 8, none⟩) (fun _ => rfl) _
  refine ⟨h.upd hc ?_ rfl rfl rfl, hc⟩
  rw [blk_setCell h.blk _]
  simp [Tm.cells]
theorem most_new (u : World) (x y : Nat) (hx : Sm x) (hy : Sm y) : Calls Tryz.prog 39 #[.slice (some ⟨u.heap.size, 0, none⟩) 2 2] (u.alloc (.cells #[.int .u64 x, .int .u64 y] 43)) fun e w' => e = .returned (.int .u64 (max x y : Nat)) ∧ (u.alloc (.cells #[.int .u64 x, .int .u64 y] 43)) = w' := by
  have e := heap_new u (.cells #[.int .u64 x, .int .u64 y] 43)
  have h := most2_any u.heap.size 2 x y (u.alloc (.cells #[.int .u64 x, .int .u64 y] 43)) (by unfold Sm at hx; omega) (by unfold Sm at hy; omega) (by rw [cell_of_blk e]; rfl) (by rw [cell_of_blk e]; rfl)
  rw [mo_self hx, mo_self hy] at h
  exact h
/-- the cells that a step looks at -/
theorem TxC.rowW {m : Tm} (h : TxC w m T) {x : Wr} {i : Nat} (hx : T.W[i]? = some x) : ∃ b, m.wa = some ⟨b, 0, none⟩ ∧ kW.At w b 0 T.W := by
  obtain ⟨b, c, e, _, _, hat⟩ := h.wo.at' (fun e => by rw [e] at hx; simp at hx)
  injection e with e1
  exact ⟨b, e1, hat⟩
theorem TxC.rowL {m : Tm} (h : TxC w m T) {x : Wr} {i : Nat} (hx : T.L[i]? = some x) : ∃ b, m.la = some ⟨b, 0, none⟩ ∧ kW.At w b 0 T.L := by
  obtain ⟨b, c, e, _, _, hat⟩ := h.lo.at' (fun e => by rw [e] at hx; simp at hx)
  injection e with e1
  exact ⟨b, e1, hat⟩
theorem TxC.rowR {m : Tm} (h : TxC w m T) {x : Ky} {i : Nat} (hx : T.R[i]? = some x) : ∃ b, m.ra = some ⟨b, 0, none⟩ ∧ kK.At w b 0 T.R := by
  obtain ⟨b, c, e, _, _, hat⟩ := h.ro.at' (fun e => by rw [e] at hx; simp at hx)
  injection e with e1
  exact ⟨b, e1, hat⟩
/-- what a step that goes well leaves -/
def GoPost (w : World) (a : Ta) (T' : Tn) (P : Ps) (s : Sto) (g : Ky → Option Cl) (cnt c : Nat) (e : Ending) (w' : World) : Prop :=
  e = .returned (.int .i64 0) ∧ ∃ s', OcA w' a T' P s' ∧ OcT w w' a a s s' ∧ s'.g = g ∧ s'.cnt = cnt ∧ s'.c = c
set_option maxRecDepth 100000 in
set_option maxHeartbeats 4000000 in
theorem oclock_ok (h : OcA w a T P s) {x : Wr} (hx : T.W[T.i]? = some x) (st : Nat) (c : Cl) (cnt : Nat) (hst : Sm st) (hmo : Sm T.most) (hi : T.i ≤ 1000000)
    (hl : ∀ u, StC u s → Calls Tryz.prog 85 #[.pointer (some ⟨a.m.cb, 0, none⟩), .agg #[.int .i64 x.k.kind, .int .i64 x.k.a, .int .i64 x.k.b, .string x.k.s], .int .i64 T.who] u (PostG u s (setG s.g x.k (some c)) cnt s.c (.tuple #[.int .u64 st, .int .i64 0]))) :
    Calls Tryz.prog 48 #[.pointer (some ⟨a.m.tb, 0, none⟩)] w (GoPost w a (doneT { T with most := max T.most st } T.W.length 2) P s (setG s.g x.k (some c)) cnt s.c) := by
  obtain ⟨c0, c1, c2, c3, c4, c5, c6, c7, c8, c9, c10, cl⟩ := h.mm.t.cell
  obtain ⟨b, hwa, hat⟩ := h.mm.t.rowW hx
  obtain ⟨d0, d1, d2, d3, d4, d5⟩ := kW_cells hat hx
  have dl := hat.lt
  obtain ⟨tb, htb⟩ : ∃ b, b = a.m.tb := ⟨_, rfl⟩
  obtain ⟨cb, hcb⟩ : ∃ b, b = a.m.cb := ⟨_, rfl⟩
  obtain ⟨who, hwho⟩ : ∃ b, b = T.who := ⟨_, rfl⟩
  obtain ⟨i, hi0⟩ : ∃ b, b = T.i := ⟨_, rfl⟩
  obtain ⟨nW, hnW⟩ : ∃ b, b = T.W.length := ⟨_, rfl⟩
  have hin : (i : Int) < (nW : Int) := by have := (List.getElem?_eq_some_iff.1 hx).1; omega
  rw [← htb] at c0 c1 c2 c3 c4 c5 c6 c7 c8 c9 c10 cl ⊢
  rw [← hcb] at c1
  rw [← hwho] at c2
  rw [← hi0] at c7 d0 d1 d2 d3
  simp only [Nat.zero_add] at d0 d1 d2 d3
  rw [hwa, ← hnW] at c4
  have hLK := hl w.drew (h.below (Below.refl _ _).drew).st
  rw [← hcb, ← hwho] at hLK
  have HLK := Lib.hid hLK
  have HA := Lib.hid h
  have HM : Hid (Sm T.most ∧ Sm st ∧ T.i ≤ 1000000) := Lib.hid ⟨hmo, hst, hi⟩
  have HE : Hid (tb = a.m.tb ∧ nW = T.W.length ∧ cb = a.m.cb ∧ who = T.who ∧ i = T.i ∧ T.W[T.i]? = some x) := Lib.hid ⟨htb, hnW, hcb, hwho, hi0, hx⟩
  have HWA : Hid (a.m.wa = some ⟨b, 0, none⟩) := Lib.hid hwa
  obtain ⟨TT, hTT⟩ : ∃ t, t = doneT { T with most := max T.most st } T.W.length 2 := ⟨_, rfl⟩
  rw [← hTT]
  have HTT := Lib.hid hTT
  clear hTT
  clear h hx hl hLK hwa hat hcb hwho hi0 hnW htb d4 d5 c0 c3 c5 c6 c8 c9 c10 hst hmo hi
  go_enter Tryz.func48, Tryz.ntmps48
  go_upto_region 1 with fail
  have HS0 : Hid (∀ u, TxC u a.m T → u.cell? ⟨tb, 1, none⟩ = some (.pointer (some ⟨cb, 0, none⟩)) ∧ u.cell? ⟨tb, 2, none⟩ = some (.int .i64 who) ∧ u.cell? ⟨tb, 4, none⟩ = some (.slice (some ⟨b, 0, none⟩) nW a.m.wc) ∧ u.cell? ⟨tb, 7, none⟩ = some (.int .i64 i) ∧ tb < u.heap.size ∧ u.cell? ⟨b, i * 6, none⟩ = some (.int .i64 x.k.kind) ∧ u.cell? ⟨b, i * 6 + 1, none⟩ = some (.int .i64 x.k.a) ∧ u.cell? ⟨b, i * 6 + 2, none⟩ = some (.int .i64 x.k.b) ∧ u.cell? ⟨b, i * 6 + 3, none⟩ = some (.string x.k.s) ∧ b < u.heap.size) := Lib.hid (fun u hu => by
    obtain ⟨_, k1, k2, _, k4, _, _, k7, _, _, _, kl⟩ := hu.cell
    obtain ⟨b', hb', hat'⟩ := hu.rowW HE.out.2.2.2.2.2
    obtain rfl : b' = b := by rw [HWA.out] at hb'; injection hb' with hb'; injection hb' with hb'; exact hb'.symm
    obtain ⟨g0, g1, g2, g3, _, _⟩ := kW_cells hat' HE.out.2.2.2.2.2
    rw [HWA.out, ← HE.out.2.1] at k4
    rw [← HE.out.1] at k1 k2 k4 k7 kl
    rw [← HE.out.2.2.1] at k1
    rw [← HE.out.2.2.2.1] at k2
    rw [← HE.out.2.2.2.2.1] at k7 g0 g1 g2 g3
    simp only [Nat.zero_add] at g0 g1 g2 g3
    exact ⟨k1, k2, k4, k7, kl, g0, g1, g2, g3, hat'.lt⟩)
  go_region_held3 (fun u => u.cell? ⟨tb, 1, none⟩ = some (.pointer (some ⟨cb, 0, none⟩)) ∧ u.cell? ⟨tb, 2, none⟩ = some (.int .i64 who) ∧ u.cell? ⟨tb, 4, none⟩ = some (.slice (some ⟨b, 0, none⟩) nW a.m.wc) ∧ u.cell? ⟨tb, 7, none⟩ = some (.int .i64 i) ∧ tb < u.heap.size ∧ u.cell? ⟨b, i * 6, none⟩ = some (.int .i64 x.k.kind) ∧ u.cell? ⟨b, i * 6 + 1, none⟩ = some (.int .i64 x.k.a) ∧ u.cell? ⟨b, i * 6 + 2, none⟩ = some (.int .i64 x.k.b) ∧ u.cell? ⟨b, i * 6 + 3, none⟩ = some (.string x.k.s) ∧ b < u.heap.size)
    (first | exact HS0.out _ (HA.out.mm.t.below (Below.refl _ _).drew) | exact HS0.out _ HA2.out.1.mm.t)
    ((go_at_call 85; refine HLK.out.mono ?_; rintro e w2 ⟨rfl, s', hp⟩; have HA2 := Lib.hid ((HA.out.below (Below.refl _ _).drew).store hp); have HG2 := Lib.hid (And.intro hp.g (And.intro hp.cnt hp.c)); clear hp))
  all_goals (
    obtain ⟨_, _, _, _, k4, _, _, k7, k8, _, _, kl⟩ := HA2.out.1.mm.t.cell
    have f8 := frozen_of_blk HA2.out.1.mm.t.blk 8
    rw [← HE.out.1] at k4 k8 kl f8
    rw [HWA.out, ← HE.out.2.1] at k4
    obtain ⟨mo1, hmo1⟩ : ∃ x, x = T.most := ⟨_, rfl⟩
    rw [← hmo1] at k8
    have HMW := Lib.hid (most_new w2 mo1 st (by rw [hmo1]; exact HM.out.1) HM.out.2.1)
    have hq := HA2.out.1.mm.t.setMost (max mo1 st)
    have hq2 := HA2.out.1.own hq.1 hq.2
    have hq3 := hq2.1.below (below_box _ (.cells #[.int .u64 mo1, .int .u64 st] 43))
    have hdn := done_any hq3.mm.t T.W.length 2 HM.out.2.2
    have HQ3 : Hid (OcA ((w2.setCell ⟨a.m.tb, 8, none⟩ (.int .u64 (max mo1 st : Nat))).alloc (.cells #[.int .u64 mo1, .int .u64 st] 43)) a { T with most := max mo1 st } P _ ∧ OcT w ((w2.setCell ⟨a.m.tb, 8, none⟩ (.int .u64 (max mo1 st : Nat))).alloc (.cells #[.int .u64 mo1, .int .u64 st] 43)) a a s _) := Lib.hid ⟨hq3, (((OcT.below (Below.refl _ _).drew a s).trans HA2.out.2).trans hq2.2).trans (OcT.below (below_box _ _) a _)⟩
    rw [hmo1, ← HTT.out, ← HE.out.2.1, ← hmo1, ← HE.out.1] at hdn
    rw [← HE.out.1] at HQ3
    have HMX : Hid (mo1 = T.most) := Lib.hid hmo1
    clear k7 hmo1 hq hq2 hq3
    go_upto_region 5 with (first | (go_at_call 39; refine HMW.out.mono ?_; rintro e w3 ⟨rfl, rfl⟩) | fail)
    obtain ⟨W3, hW3⟩ : ∃ W3, W3 = (w2.setCell ⟨tb, 8, none⟩ (.int .u64 (max mo1 st : Nat))).alloc (.cells #[.int .u64 mo1, .int .u64 st] 43) := ⟨_, rfl⟩
    rw [← hW3]
    rw [← hW3] at hdn HQ3
    have j4 : W3.cell? ⟨tb, 4, none⟩ = some (.slice (some ⟨b, 0, none⟩) nW a.m.wc) := by
      have h := HQ3.out.1.mm.t.cell.2.2.2.2.1
      rw [← HE.out.1, HWA.out] at h
      rw [h, ← HE.out.2.1]
    have jl : tb < W3.heap.size := by have h := HQ3.out.1.mm.t.lt; rw [← HE.out.1] at h; exact h
    have HDN := Lib.hid hdn
    clear hW3 hdn k4 k8 kl f8
    go_wp2_with fail
    refine HDN.out.mono ?_
    rintro e w9 ⟨rfl, hx9, hc9⟩
    have hO := HQ3.out.1.own hx9 hc9
    have HO := Lib.hid (And.intro hO.1 (HQ3.out.2.trans hO.2))
    clear hO hx9 hc9
    go_wp2_with fail
    go_ret
    exact ⟨rfl, _, HO.out.1, HO.out.2, HG2.out.1, HG2.out.2.1, HG2.out.2.2⟩)
/-- one lets go -/
def OvE (code : Int) (w : World) (a : Ta) (T : Tn) (P : Ps) (s : Sto) (e : Ending) (w' : World) : Prop := e = .returned (.int .i64 code) ∧ OvPost w a T P s (.returned (.tuple #[])) w'
theorem OvPost.from {w2 w' : World} {e : Ending} (h : OcT w w2 a a s s) (p : OvPost w2 a T P s e w') : OvPost w a T P s e w' := by
  obtain ⟨h1, ks, s', h2, h3, h4, h5, h6, h7⟩ := p
  exact ⟨h1, ks, s', h2, h3, h4, h5, h.trans h6, h7⟩
set_option maxRecDepth 100000 in
set_option maxHeartbeats 4000000 in
theorem oclock_busy (h : OcA w a T P s) {x : Wr} (hx : T.W[T.i]? = some x) (hk : x.k.Ok) {y : Cl} (hg : s.g x.k = some y) (hlk : y.lk = true) :
    Calls Tryz.prog 48 #[.pointer (some ⟨a.m.tb, 0, none⟩)] w (fun e w' => e = .returned (.int .i64 60) ∧ OcA w' a T P s ∧ OcT w w' a a s s) := by
  obtain ⟨c0, c1, c2, c3, c4, c5, c6, c7, c8, c9, c10, cl⟩ := h.mm.t.cell
  obtain ⟨b, hwa, hat⟩ := h.mm.t.rowW hx
  obtain ⟨d0, d1, d2, d3, d4, d5⟩ := kW_cells hat hx
  have dl := hat.lt
  obtain ⟨tb, htb⟩ : ∃ b, b = a.m.tb := ⟨_, rfl⟩
  obtain ⟨cb, hcb⟩ : ∃ b, b = a.m.cb := ⟨_, rfl⟩
  obtain ⟨who, hwho⟩ : ∃ b, b = T.who := ⟨_, rfl⟩
  obtain ⟨i, hi0⟩ : ∃ b, b = T.i := ⟨_, rfl⟩
  obtain ⟨nW, hnW⟩ : ∃ b, b = T.W.length := ⟨_, rfl⟩
  have hin : (i : Int) < (nW : Int) := by have := (List.getElem?_eq_some_iff.1 hx).1; omega
  rw [← htb] at c0 c1 c2 c3 c4 c5 c6 c7 c8 c9 c10 cl ⊢
  rw [← hcb] at c1
  rw [← hwho] at c2
  rw [← hi0] at c7 d0 d1 d2 d3
  simp only [Nat.zero_add] at d0 d1 d2 d3
  rw [hwa, ← hnW] at c4
  have hLK := lock_busy_g s a.m.cb x.k y T.who w.drew (h.below (Below.refl _ _).drew).st h.cb hk hg hlk
  rw [← hcb, ← hwho] at hLK
  have HLK := Lib.hid hLK
  have HA := Lib.hid h
  have HE : Hid (tb = a.m.tb ∧ nW = T.W.length ∧ cb = a.m.cb ∧ who = T.who ∧ i = T.i ∧ T.W[T.i]? = some x) := Lib.hid ⟨htb, hnW, hcb, hwho, hi0, hx⟩
  have HWA : Hid (a.m.wa = some ⟨b, 0, none⟩) := Lib.hid hwa
  clear h hx hLK hwa hat hcb hwho hi0 hnW htb d4 d5 c0 c3 c5 c6 c8 c9 c10
  go_enter Tryz.func48, Tryz.ntmps48
  go_upto_region 1 with fail
  have HS0 : Hid (∀ u, TxC u a.m T → u.cell? ⟨tb, 1, none⟩ = some (.pointer (some ⟨cb, 0, none⟩)) ∧ u.cell? ⟨tb, 2, none⟩ = some (.int .i64 who) ∧ u.cell? ⟨tb, 4, none⟩ = some (.slice (some ⟨b, 0, none⟩) nW a.m.wc) ∧ u.cell? ⟨tb, 7, none⟩ = some (.int .i64 i) ∧ tb < u.heap.size ∧ u.cell? ⟨b, i * 6, none⟩ = some (.int .i64 x.k.kind) ∧ u.cell? ⟨b, i * 6 + 1, none⟩ = some (.int .i64 x.k.a) ∧ u.cell? ⟨b, i * 6 + 2, none⟩ = some (.int .i64 x.k.b) ∧ u.cell? ⟨b, i * 6 + 3, none⟩ = some (.string x.k.s) ∧ b < u.heap.size) := Lib.hid (fun u hu => by
    obtain ⟨_, k1, k2, _, k4, _, _, k7, _, _, _, kl⟩ := hu.cell
    obtain ⟨b', hb', hat'⟩ := hu.rowW HE.out.2.2.2.2.2
    obtain rfl : b' = b := by rw [HWA.out] at hb'; injection hb' with hb'; injection hb' with hb'; exact hb'.symm
    obtain ⟨g0, g1, g2, g3, _, _⟩ := kW_cells hat' HE.out.2.2.2.2.2
    rw [HWA.out, ← HE.out.2.1] at k4
    rw [← HE.out.1] at k1 k2 k4 k7 kl
    rw [← HE.out.2.2.1] at k1
    rw [← HE.out.2.2.2.1] at k2
    rw [← HE.out.2.2.2.2.1] at k7 g0 g1 g2 g3
    simp only [Nat.zero_add] at g0 g1 g2 g3
    exact ⟨k1, k2, k4, k7, kl, g0, g1, g2, g3, hat'.lt⟩)
  go_region_held3 (fun u => u.cell? ⟨tb, 1, none⟩ = some (.pointer (some ⟨cb, 0, none⟩)) ∧ u.cell? ⟨tb, 2, none⟩ = some (.int .i64 who) ∧ u.cell? ⟨tb, 4, none⟩ = some (.slice (some ⟨b, 0, none⟩) nW a.m.wc) ∧ u.cell? ⟨tb, 7, none⟩ = some (.int .i64 i) ∧ tb < u.heap.size ∧ u.cell? ⟨b, i * 6, none⟩ = some (.int .i64 x.k.kind) ∧ u.cell? ⟨b, i * 6 + 1, none⟩ = some (.int .i64 x.k.a) ∧ u.cell? ⟨b, i * 6 + 2, none⟩ = some (.int .i64 x.k.b) ∧ u.cell? ⟨b, i * 6 + 3, none⟩ = some (.string x.k.s) ∧ b < u.heap.size)
    (first | exact HS0.out _ (HA.out.mm.t.below (Below.refl _ _).drew) | exact HS0.out _ HA2.out.1.mm.t)
    ((go_at_call 85; refine HLK.out.mono ?_; rintro e w2 ⟨rfl, hb2⟩; have HA2 : Hid (OcA w2 a T P s ∧ OcT w w2 a a s s) := Lib.hid ⟨(HA.out.below (Below.refl _ _).drew).below hb2, (OcT.below (Below.refl _ _).drew a s).trans (OcT.below hb2 a s)⟩; clear hb2))
  clear hk hg hlk
  all_goals
    go_wp2_with fail
    go_ret
    exact ⟨rfl, HA2.out.1, HA2.out.2⟩
set_option maxRecDepth 100000 in
set_option maxHeartbeats 4000000 in
theorem oclock_full (h : OcA w a T P s) {x : Wr} (hx : T.W[T.i]? = some x) (hk : x.k.Ok) (hg : s.g x.k = none) (hc : s.cnt = s.ar.room) (hn : s.cnt ≤ 1000) (hcc : s.c ≤ 1000000) :
    Calls Tryz.prog 48 #[.pointer (some ⟨a.m.tb, 0, none⟩)] w (OvE 50 w a T P s) := by
  obtain ⟨c0, c1, c2, c3, c4, c5, c6, c7, c8, c9, c10, cl⟩ := h.mm.t.cell
  obtain ⟨b, hwa, hat⟩ := h.mm.t.rowW hx
  obtain ⟨d0, d1, d2, d3, d4, d5⟩ := kW_cells hat hx
  have dl := hat.lt
  obtain ⟨tb, htb⟩ : ∃ b, b = a.m.tb := ⟨_, rfl⟩
  obtain ⟨cb, hcb⟩ : ∃ b, b = a.m.cb := ⟨_, rfl⟩
  obtain ⟨who, hwho⟩ : ∃ b, b = T.who := ⟨_, rfl⟩
  obtain ⟨i, hi0⟩ : ∃ b, b = T.i := ⟨_, rfl⟩
  obtain ⟨nW, hnW⟩ : ∃ b, b = T.W.length := ⟨_, rfl⟩
  have hin : (i : Int) < (nW : Int) := by have := (List.getElem?_eq_some_iff.1 hx).1; omega
  rw [← htb] at c0 c1 c2 c3 c4 c5 c6 c7 c8 c9 c10 cl ⊢
  rw [← hcb] at c1
  rw [← hwho] at c2
  rw [← hi0] at c7 d0 d1 d2 d3
  simp only [Nat.zero_add] at d0 d1 d2 d3
  rw [hwa, ← hnW] at c4
  have hLK := lock_full_g s a.m.cb x.k T.who w.drew (h.below (Below.refl _ _).drew).st h.cb hk hg hc
  rw [← hcb, ← hwho] at hLK
  have HLK := Lib.hid hLK
  have HA := Lib.hid h
  have HE : Hid (tb = a.m.tb ∧ nW = T.W.length ∧ cb = a.m.cb ∧ who = T.who ∧ i = T.i ∧ T.W[T.i]? = some x) := Lib.hid ⟨htb, hnW, hcb, hwho, hi0, hx⟩
  have HWA : Hid (a.m.wa = some ⟨b, 0, none⟩) := Lib.hid hwa
  clear h hx hLK hwa hat hcb hwho hi0 hnW htb d4 d5 c0 c3 c5 c6 c8 c9 c10
  go_enter Tryz.func48, Tryz.ntmps48
  go_upto_region 1 with fail
  have HS0 : Hid (∀ u, TxC u a.m T → u.cell? ⟨tb, 1, none⟩ = some (.pointer (some ⟨cb, 0, none⟩)) ∧ u.cell? ⟨tb, 2, none⟩ = some (.int .i64 who) ∧ u.cell? ⟨tb, 4, none⟩ = some (.slice (some ⟨b, 0, none⟩) nW a.m.wc) ∧ u.cell? ⟨tb, 7, none⟩ = some (.int .i64 i) ∧ tb < u.heap.size ∧ u.cell? ⟨b, i * 6, none⟩ = some (.int .i64 x.k.kind) ∧ u.cell? ⟨b, i * 6 + 1, none⟩ = some (.int .i64 x.k.a) ∧ u.cell? ⟨b, i * 6 + 2, none⟩ = some (.int .i64 x.k.b) ∧ u.cell? ⟨b, i * 6 + 3, none⟩ = some (.string x.k.s) ∧ b < u.heap.size) := Lib.hid (fun u hu => by
    obtain ⟨_, k1, k2, _, k4, _, _, k7, _, _, _, kl⟩ := hu.cell
    obtain ⟨b', hb', hat'⟩ := hu.rowW HE.out.2.2.2.2.2
    obtain rfl : b' = b := by rw [HWA.out] at hb'; injection hb' with hb'; injection hb' with hb'; exact hb'.symm
    obtain ⟨g0, g1, g2, g3, _, _⟩ := kW_cells hat' HE.out.2.2.2.2.2
    rw [HWA.out, ← HE.out.2.1] at k4
    rw [← HE.out.1] at k1 k2 k4 k7 kl
    rw [← HE.out.2.2.1] at k1
    rw [← HE.out.2.2.2.1] at k2
    rw [← HE.out.2.2.2.2.1] at k7 g0 g1 g2 g3
    simp only [Nat.zero_add] at g0 g1 g2 g3
    exact ⟨k1, k2, k4, k7, kl, g0, g1, g2, g3, hat'.lt⟩)
  go_region_held3 (fun u => u.cell? ⟨tb, 1, none⟩ = some (.pointer (some ⟨cb, 0, none⟩)) ∧ u.cell? ⟨tb, 2, none⟩ = some (.int .i64 who) ∧ u.cell? ⟨tb, 4, none⟩ = some (.slice (some ⟨b, 0, none⟩) nW a.m.wc) ∧ u.cell? ⟨tb, 7, none⟩ = some (.int .i64 i) ∧ tb < u.heap.size ∧ u.cell? ⟨b, i * 6, none⟩ = some (.int .i64 x.k.kind) ∧ u.cell? ⟨b, i * 6 + 1, none⟩ = some (.int .i64 x.k.a) ∧ u.cell? ⟨b, i * 6 + 2, none⟩ = some (.int .i64 x.k.b) ∧ u.cell? ⟨b, i * 6 + 3, none⟩ = some (.string x.k.s) ∧ b < u.heap.size)
    (first | exact HS0.out _ (HA.out.mm.t.below (Below.refl _ _).drew) | exact HS0.out _ HA2.out.1.mm.t)
    ((go_at_call 85; refine HLK.out.mono ?_; rintro e w2 ⟨rfl, hb2⟩; have HA2 : Hid (OcA w2 a T P s ∧ OcT w w2 a a s s) := Lib.hid ⟨(HA.out.below (Below.refl _ _).drew).below hb2, (OcT.below (Below.refl _ _).drew a s).trans (OcT.below hb2 a s)⟩; clear hb2))
  have HNC : Hid (s.cnt ≤ 1000 ∧ s.c ≤ 1000000) := Lib.hid ⟨hn, hcc⟩
  clear hk hg hc hn hcc
  all_goals (
    have hov := over_any HA2.out.1 HNC.out.1 HNC.out.2
    rw [← HE.out.1] at hov
    have HOV := Lib.hid hov
    clear hov
    go_wp2_with fail
    refine HOV.out.mono ?_
    rintro e w3 hp
    obtain ⟨rfl, hp2⟩ := hp
    have HP2 := Lib.hid hp2
    clear hp2
    go_wp2_with fail
    go_ret
    exact ⟨rfl, OvPost.from HA2.out.2 ⟨rfl, HP2.out⟩⟩)
end
end Go.Proofs.YtkhkdedjffkhdaaGreat
namespace Go.Proofs.YtkhkdedjffkhdaaGreat
open Go.RowKit Go.Maps

section
variable {w : World} {a : Ta} {T : Tn} {P : Ps} {s : Sto}
theorem TxC.setSt {m : Tm} (h : TxC w m T) (st : Nat) : TxC (w.setCell ⟨m.tb, 9, none⟩ (.int .u64 st)) m { T with st := st } ∧ Chg w (w.setCell ⟨m.tb, 9, none⟩ (.int .u64 st)) (fun j => j = m.tb) := by
  have hc : Chg w (w.setCell ⟨m.tb, 9, none⟩ (.int .u64 st)) (fun j => j = m.tb) := (Chg.refl w (fun j => j = m.tb)).setCell (p := ⟨m.tb, 9, none⟩) (fun _ => rfl) _
  refine ⟨h.upd hc ?_ rfl rfl rfl, hc⟩
  rw [blk_setCell h.blk _]
  simp [Tm.cells]
theorem sm_max {x y : Nat} (hx : Sm x) (hy : Sm y) : Sm (max x y) := by unfold Sm at *; omega
/-- the stamp that one takes -/
def stN (T : Tn) (last : Nat) (ep : Int) : Nat × Int := nextW (max (mo last) T.most) ep
theorem most_any (u : World) (x y : Nat) (hx : x < 18446744073709551616) (hy : Sm y) : Calls Tryz.prog 39 #[.slice (some ⟨u.heap.size, 0, none⟩) 2 2] (u.alloc (.cells #[.int .u64 x, .int .u64 y] 43)) fun e w' => e = .returned (.int .u64 (max (mo x) y : Nat)) ∧ (u.alloc (.cells #[.int .u64 x, .int .u64 y] 43)) = w' := by
  have e := heap_new u (.cells #[.int .u64 x, .int .u64 y] 43)
  have h := most2_any u.heap.size 2 x y (u.alloc (.cells #[.int .u64 x, .int .u64 y] 43)) hx (by unfold Sm at hy; omega) (by rw [cell_of_blk e]; rfl) (by rw [cell_of_blk e]; rfl)
  rw [mo_self hy] at h
  exact h
/-- a step that turns the transaction alone -/
def MyPost (code : Int) (w : World) (a : Ta) (T' : Tn) (P : Ps) (s : Sto) (e : Ending) (w' : World) : Prop := e = .returned (.int .i64 code) ∧ OcA w' a T' P s ∧ OcT w w' a a s s
set_option maxRecDepth 100000 in
set_option maxHeartbeats 4000000 in
theorem octake_ok (h : OcA w a T P s) (last : Nat) (ep : Int) (hl : last < 18446744073709551616) (hmo : Sm T.most) (hc : (stN T last ep).2 = 0) :
    Calls Tryz.prog 49 #[.pointer (some ⟨a.m.tb, 0, none⟩), .int .u64 last, .int .i64 ep] w (MyPost 0 w a (toT { T with st := (stN T last ep).1 } 3) P s) := by
  obtain ⟨k0, k1, k2, k3, k4, k5, k6, k7, c8, c9, k10, cl⟩ := h.mm.t.cell
  clear k0 k1 k2 k3 k4 k5 k6 k7 k10
  have f9 := frozen_of_blk h.mm.t.blk 9
  obtain ⟨tb, htb⟩ : ∃ b, b = a.m.tb := ⟨_, rfl⟩
  obtain ⟨mo1, hmo1⟩ : ∃ x, x = T.most := ⟨_, rfl⟩
  have HMW := Lib.hid (most_any w last mo1 hl (by rw [hmo1]; exact hmo))
  have hsm : Sm (max (mo last) mo1) := sm_max (mo_lt last) (by rw [hmo1]; exact hmo)
  obtain ⟨mx, hmx⟩ : ∃ x, x = max (mo last) mo1 := ⟨_, rfl⟩
  rw [← hmx] at hsm HMW
  obtain ⟨st, hst⟩ : ∃ x, x = (stN T last ep).1 := ⟨_, rfl⟩
  have HNX : Hid (∀ u, Calls Tryz.prog 87 #[.int .u64 mx, .int .i64 ep] u fun e w' => e = .returned (.tuple #[.int .u64 st, .int .i64 0]) ∧ u = w') := Lib.hid (fun u => by
    have h := next_any mx ep u (by unfold Sm at hsm; omega)
    have hN : nextW mx ep = (st, 0) := by
      rw [hmx, hmo1]
      exact Prod.ext hst.symm hc
    rw [mo_self hsm, hN] at h
    exact h)
  have HA := Lib.hid h
  have HE : Hid (tb = a.m.tb ∧ mo1 = T.most) := Lib.hid ⟨htb, hmo1⟩
  obtain ⟨TT, hTT⟩ : ∃ t, t = toT { T with st := (stN T last ep).1 } 3 := ⟨_, rfl⟩
  have HTT : Hid (TT = toT { T with st := st } 3) := Lib.hid (by rw [hTT, hst])
  rw [← hTT]
  rw [← htb] at c8 c9 cl f9 ⊢
  rw [← hmo1] at c8
  clear h hl hmo hc htb hmo1 hsm hmx hst hTT
  have HB : Hid (Below w.heap.size w (w.alloc (.cells #[.int .u64 last, .int .u64 mo1] 43))) := Lib.hid (below_box _ _)
  go_enter Tryz.func49, Tryz.ntmps49
  go_upto_region 6 with (first | (go_at_call 39; refine HMW.out.mono ?_; rintro e w3 ⟨rfl, rfl⟩) | (go_at_call 87; refine (HNX.out _).mono ?_; rintro e w3 ⟨rfl, rfl⟩) | fail)
  obtain ⟨W3, hW3⟩ : ∃ W3, W3 = (w.setCell ⟨tb, 9, none⟩ (.int .u64 st)).alloc (.cells #[.int .u64 last, .int .u64 mo1] 43) := ⟨_, rfl⟩
  rw [← hW3]
  have hq := HA.out.mm.t.setSt st
  have hq2 := HA.out.own hq.1 hq.2
  have hq3 := hq2.1.below (below_box _ (.cells #[.int .u64 last, .int .u64 mo1] 43))
  have hO3 := hq2.2.trans (OcT.below (below_box _ (.cells #[.int .u64 last, .int .u64 mo1] 43)) a s)
  rw [← HE.out.1, ← hW3] at hq3 hO3
  have hto := to_any hq3.mm.t 3
  rw [← HTT.out, ← HE.out.1] at hto
  have HTO := Lib.hid hto
  have HQ3 := Lib.hid (And.intro hq3 hO3)
  clear hW3 hq hq2 hq3 hO3 hto
  go_wp2_with fail
  refine HTO.out.mono ?_
  rintro e w9 ⟨rfl, hx9, hc9⟩
  have hO := HQ3.out.1.own hx9 hc9
  have HO := Lib.hid (And.intro hO.1 (HQ3.out.2.trans hO.2))
  clear hO hx9 hc9
  go_wp2_with fail
  go_ret
  exact ⟨rfl, HO.out.1, HO.out.2⟩
set_option maxRecDepth 100000 in
set_option maxHeartbeats 4000000 in
theorem octake_bad (h : OcA w a T P s) (last : Nat) (ep : Int) (hl : last < 18446744073709551616) (hmo : Sm T.most) {code : Int} (hc : (stN T last ep).2 = code) (hc0 : code ≠ 0) (hn : s.cnt ≤ 1000) (hcc : s.c ≤ 1000000) :
    Calls Tryz.prog 49 #[.pointer (some ⟨a.m.tb, 0, none⟩), .int .u64 last, .int .i64 ep] w (OvE code w a T P s) := by
  obtain ⟨k0, k1, k2, k3, k4, k5, k6, k7, c8, c9, k10, cl⟩ := h.mm.t.cell
  clear k0 k1 k2 k3 k4 k5 k6 k7 k10 c9
  obtain ⟨tb, htb⟩ : ∃ b, b = a.m.tb := ⟨_, rfl⟩
  obtain ⟨mo1, hmo1⟩ : ∃ x, x = T.most := ⟨_, rfl⟩
  have HMW := Lib.hid (most_any w last mo1 hl (by rw [hmo1]; exact hmo))
  have hsm : Sm (max (mo last) mo1) := sm_max (mo_lt last) (by rw [hmo1]; exact hmo)
  obtain ⟨mx, hmx⟩ : ∃ x, x = max (mo last) mo1 := ⟨_, rfl⟩
  rw [← hmx] at hsm HMW
  obtain ⟨st, hst⟩ : ∃ x, x = (stN T last ep).1 := ⟨_, rfl⟩
  have HNX : Hid (∀ u, Calls Tryz.prog 87 #[.int .u64 mx, .int .i64 ep] u fun e w' => e = .returned (.tuple #[.int .u64 st, .int .i64 code]) ∧ u = w') := Lib.hid (fun u => by
    have h := next_any mx ep u (by unfold Sm at hsm; omega)
    have hN : nextW mx ep = (st, code) := by
      rw [hmx, hmo1]
      exact Prod.ext hst.symm hc
    rw [mo_self hsm, hN] at h
    exact h)
  have HW : Hid (OcA (w.alloc (.cells #[.int .u64 last, .int .u64 mo1] 43)) a T P s ∧ OcT w (w.alloc (.cells #[.int .u64 last, .int .u64 mo1] 43)) a a s s) := Lib.hid ⟨h.below (below_box _ _), OcT.below (below_box _ _) a s⟩
  have HN : Hid (s.cnt ≤ 1000 ∧ s.c ≤ 1000000) := Lib.hid ⟨hn, hcc⟩
  have HE : Hid (tb = a.m.tb) := Lib.hid htb
  have t1 : (code == 0) = false := by simpa using hc0
  have t2 : (code != 0) = true := by simpa using hc0
  rw [← htb] at c8 cl ⊢
  rw [← hmo1] at c8
  clear h hl hmo hc htb hmo1 hsm hmx hst hc0 hn hcc
  go_enter Tryz.func49, Tryz.ntmps49
  go_upto_region 3 with (first | (go_at_call 39; refine HMW.out.mono ?_; rintro e w3 ⟨rfl, rfl⟩) | (go_at_call 87; refine (HNX.out _).mono ?_; rintro e w3 ⟨rfl, rfl⟩) | fail)
  obtain ⟨W3, hW3⟩ : ∃ W3, W3 = w.alloc (.cells #[.int .u64 last, .int .u64 mo1] 43) := ⟨_, rfl⟩
  rw [← hW3]
  rw [← hW3] at HW
  have hov := over_any HW.out.1 HN.out.1 HN.out.2
  rw [← HE.out] at hov
  have HOV := Lib.hid hov
  clear hov hW3
  go_wp2_with fail
  refine HOV.out.mono ?_
  rintro e w3 ⟨rfl, hp2⟩
  have HP2 := Lib.hid hp2
  clear hp2
  go_wp2_with fail
  go_ret
  exact ⟨rfl, OvPost.from HW.out.2 ⟨rfl, HP2.out⟩⟩
end
end Go.Proofs.YtkhkdedjffkhdaaGreat
namespace Go.Proofs.YtkhkdedjffkhdaaGreat
open Go.RowKit Go.Maps

section
variable {w : World} {a : Ta} {T : Tn} {P : Ps} {s : Sto}
/-- what a check leaves -/
def ChPost (w : World) (a : Ta) (T : Tn) (P : Ps) (s : Sto) (q : Bool) (e : Ending) (w' : World) : Prop := (q = true ∧ MyPost 0 w a (doneT T T.R.length 4) P s e w') ∨ (q = false ∧ OvE 201 w a T P s e w')
set_option maxRecDepth 100000 in
set_option maxHeartbeats 4000000 in
theorem occheck_any (h : OcA w a T P s) {k : Ky} {x : Sn} (hx : T.R[T.i]? = some k) (hk : k.Ok) (hs : P.gs k = some x) (hi : T.i ≤ 1000000) (hn : s.cnt ≤ 1000) (hcc : s.c ≤ 1000000) :
    Calls Tryz.prog 50 #[.pointer (some ⟨a.m.tb, 0, none⟩)] w (ChPost w a T P s (stillV (s.g k) T.who x.word x.has)) := by
  obtain ⟨q, hq⟩ : ∃ q, q = stillV (s.g k) T.who x.word x.has := ⟨_, rfl⟩
  obtain ⟨b, hra, hat⟩ := h.mm.t.rowR hx
  obtain ⟨tb, htb⟩ : ∃ b, b = a.m.tb := ⟨_, rfl⟩
  obtain ⟨cb, hcb⟩ : ∃ b, b = a.m.cb := ⟨_, rfl⟩
  obtain ⟨sb, hsb⟩ : ∃ b, b = a.m.sb := ⟨_, rfl⟩
  obtain ⟨who, hwho⟩ : ∃ b, b = T.who := ⟨_, rfl⟩
  obtain ⟨i, hi0⟩ : ∃ b, b = T.i := ⟨_, rfl⟩
  obtain ⟨nR, hnR⟩ : ∃ b, b = T.R.length := ⟨_, rfl⟩
  have hin : (i : Int) < (nR : Int) := by have := (List.getElem?_eq_some_iff.1 hx).1; omega
  have HTC : Hid (∀ u, Below w.heap.size w u → u.cell? ⟨tb, 0, none⟩ = some (.pointer (some ⟨sb, 0, none⟩)) ∧ u.cell? ⟨tb, 1, none⟩ = some (.pointer (some ⟨cb, 0, none⟩)) ∧ u.cell? ⟨tb, 2, none⟩ = some (.int .i64 who) ∧ u.cell? ⟨tb, 6, none⟩ = some (.slice (some ⟨b, 0, none⟩) nR a.m.rc) ∧ u.cell? ⟨tb, 7, none⟩ = some (.int .i64 i) ∧ tb < u.heap.size) := Lib.hid (fun u hu => by
    obtain ⟨k0, k1, k2, _, _, _, k6, k7, _, _, _, kl⟩ := (h.mm.t.below hu).cell
    rw [htb, hsb, hcb, hwho, hi0, hnR]
    rw [hra] at k6
    exact ⟨k0, k1, k2, k6, k7, kl⟩)
  have d0 := hat.cells _ k hx 0 _ rfl
  have d1 := hat.cells _ k hx 1 _ rfl
  have d2 := hat.cells _ k hx 2 _ rfl
  have d3 := hat.cells _ k hx 3 _ rfl
  have dl := hat.lt
  rw [← hi0] at d0 d1 d2 d3
  simp [kK] at d0 d1 d2 d3
  have HSE : Hid (∀ u, Below w.heap.size w u → Calls Tryz.prog 36 #[.pointer (some ⟨sb, 0, none⟩), .agg #[.int .i64 k.kind, .int .i64 k.a, .int .i64 k.b, .string k.s]] u fun e w' => e = .returned (.tuple #[.agg #[.int .u64 x.word, .string x.val, .bool x.has], .bool true]) ∧ Below u.heap.size u w') := Lib.hid (fun u hu => by
    have h9 := sxSeen_any (h.mm.x.below hu) hk
    rw [hs] at h9
    rw [hsb]
    exact h9)
  have HST : Hid (∀ u, Below w.heap.size w u → Calls Tryz.prog 88 #[.pointer (some ⟨cb, 0, none⟩), .agg #[.int .i64 k.kind, .int .i64 k.a, .int .i64 k.b, .string k.s], .int .i64 who, .agg #[.int .u64 x.word, .string x.val, .bool x.has]] u fun e w' => e = .returned (.bool q) ∧ Below u.heap.size u w') := Lib.hid (fun u hu => by
    rw [hcb, hq, hwho]
    exact still_g s a.m.cb k T.who x.word x.val x.has u (h.st.stay hu) h.cb hk)
  have HA := Lib.hid h
  have HN : Hid (s.cnt ≤ 1000 ∧ s.c ≤ 1000000 ∧ T.i ≤ 1000000) := Lib.hid ⟨hn, hcc, hi⟩
  have HE : Hid (tb = a.m.tb ∧ nR = T.R.length) := Lib.hid ⟨htb, hnR⟩
  obtain ⟨k0, k1, k2, k6, k7, kl⟩ := HTC.out w (Below.refl _ _)
  rw [← htb, ← hq]
  clear h hx hk hs hi hn hcc hq hra hat htb hcb hsb hwho hi0 hnR k0 k1 k2
  go_enter Tryz.func50, Tryz.ntmps50
  go_upto_region 1 with fail
  go_cut [3] from 6 to 15 (fun s3 wc => ∃ (kb : Nat) (u : World), u = wc ∧ s3 = .pointer (some ⟨kb, 0, none⟩) ∧ Hid (Below w.heap.size w u ∧ u.heap[kb]? = some (.cells #[.int .i64 k.kind, .int .i64 k.a, .int .i64 k.b, .string k.s] 47 (0, 0)) ∧ w.heap.size ≤ kb))
  case first =>
    go_region
    all_goals
      go_wp2_with fail
      go_meet
      exact ⟨_, _, rfl, rfl, Lib.hid ⟨below_then (below_box _ _) (Below.refl _ _).drew, heap_new w _, Nat.le_refl _⟩⟩
  case rest =>
  obtain ⟨kb, u, rfl, rfl, HU⟩ := hcut
  clear d0 d1 d2 d3 dl k6 k7 kl
  have HKB : Hid (∀ v, Below u.heap.size u v → v.cell? ⟨kb, 0, none⟩ = some (.int .i64 k.kind) ∧ v.cell? ⟨kb, 1, none⟩ = some (.int .i64 k.a) ∧ v.cell? ⟨kb, 2, none⟩ = some (.int .i64 k.b) ∧ v.cell? ⟨kb, 3, none⟩ = some (.string k.s) ∧ kb < v.heap.size) := Lib.hid (fun v hv => by
    have g1 := (hv.block _ (Array.getElem?_eq_some_iff.1 HU.out.2.1).1).trans HU.out.2.1
    exact ⟨by rw [cell_of_blk g1]; rfl, by rw [cell_of_blk g1]; rfl, by rw [cell_of_blk g1]; rfl, by rw [cell_of_blk g1]; rfl, (Array.getElem?_eq_some_iff.1 g1).1⟩)
  have HS2 : Hid (∀ v, Below u.heap.size u v → Below u.heap.size u v ∧ (v.cell? ⟨kb, 0, none⟩ = some (.int .i64 k.kind) ∧ v.cell? ⟨kb, 1, none⟩ = some (.int .i64 k.a) ∧ v.cell? ⟨kb, 2, none⟩ = some (.int .i64 k.b) ∧ v.cell? ⟨kb, 3, none⟩ = some (.string k.s) ∧ kb < v.heap.size) ∧ v.cell? ⟨tb, 0, none⟩ = some (.pointer (some ⟨sb, 0, none⟩)) ∧ tb < v.heap.size) := Lib.hid (fun v hv => by
    obtain ⟨j0, _, _, _, _, jl⟩ := HTC.out v (below_then HU.out.1 hv)
    exact ⟨hv, HKB.out v hv, j0, jl⟩)
  go_upto_region 2 with fail
  go_cut [4, 5] from 16 to 24 (fun s4 s5 wc => ∃ (xb : Nat) (u2 : World), u2 = wc ∧ s4 = .pointer (some ⟨xb, 0, none⟩) ∧ s5 = .bool true ∧ Hid (Below u.heap.size u u2 ∧ u2.heap[xb]? = some (.cells #[.int .u64 x.word, .string x.val, .bool x.has] 96 (0, 0))))
  case first =>
    go_region_held3 (fun v => Below u.heap.size u v ∧ (v.cell? ⟨kb, 0, none⟩ = some (.int .i64 k.kind) ∧ v.cell? ⟨kb, 1, none⟩ = some (.int .i64 k.a) ∧ v.cell? ⟨kb, 2, none⟩ = some (.int .i64 k.b) ∧ v.cell? ⟨kb, 3, none⟩ = some (.string k.s) ∧ kb < v.heap.size) ∧ v.cell? ⟨tb, 0, none⟩ = some (.pointer (some ⟨sb, 0, none⟩)) ∧ tb < v.heap.size)
      (first | exact HS2.out _ (Below.refl _ _).drew | exact HS2.out _ HBC.out | exact HS2.out _ (below_then HBC.out (below_box _ _)) | exact HS2.out _ (below_box _ _).drew | exact HS2.out _ (box3 (Nat.le_refl _) HBC.out hbv _ _ _ rfl).1)
      ((go_at_call 36; (refine (HSE.out _ (below_then HU.out.1 (by go_split_ands; assumption))).mono ?_); rintro e wc ⟨rfl, hbc⟩; have HBC := Lib.hid (below_then (show Below u.heap.size u _ by go_split_ands; assumption) hbc); first | (have hbv : wc.heap[u.heap.size]? = some (.cells #[.int .u64 0, .string ⟨#[]⟩, .bool false] 96 (0, 0)) := (hbc.block _ (by simp)).trans (heap_new u _); have z0 := cell_of_blk hbv 0; have z1 := cell_of_blk hbv 1; have z2 := cell_of_blk hbv 2; have y0 := frozen_of_blk hbv 0; have y1 := frozen_of_blk hbv 1; have y2 := frozen_of_blk hbv 2; simp at z0 z1 z2) | skip))
    all_goals
      go_wp2_with fail
      go_meet
      first
        | exact ⟨_, _, rfl, rfl, rfl, Lib.hid ⟨below_then HBC.out (below_box _ _), heap_new _ _⟩⟩
        | exact ⟨_, _, rfl, rfl, rfl, Lib.hid ⟨(box3 (Nat.le_refl _) HBC.out hbv _ _ _ rfl).1, (box3 (Nat.le_refl _) HBC.out hbv _ _ _ rfl).2⟩⟩
  case rest =>
  obtain ⟨xb, u2, rfl, rfl, rfl, HU2⟩ := hcut
  have HB2 : Hid (Below w.heap.size w u2) := Lib.hid (below_then HU.out.1 HU2.out.1)
  have HS3 : Hid (∀ v, Below u2.heap.size u2 v → Below u2.heap.size u2 v ∧ (v.cell? ⟨kb, 0, none⟩ = some (.int .i64 k.kind) ∧ v.cell? ⟨kb, 1, none⟩ = some (.int .i64 k.a) ∧ v.cell? ⟨kb, 2, none⟩ = some (.int .i64 k.b) ∧ v.cell? ⟨kb, 3, none⟩ = some (.string k.s) ∧ kb < v.heap.size) ∧ (v.cell? ⟨xb, 0, none⟩ = some (.int .u64 x.word) ∧ v.cell? ⟨xb, 1, none⟩ = some (.string x.val) ∧ v.cell? ⟨xb, 2, none⟩ = some (.bool x.has) ∧ xb < v.heap.size) ∧ v.cell? ⟨tb, 1, none⟩ = some (.pointer (some ⟨cb, 0, none⟩)) ∧ v.cell? ⟨tb, 2, none⟩ = some (.int .i64 who) ∧ tb < v.heap.size) := Lib.hid (fun v hv => by
    obtain ⟨_, j1, j2, _, _, jl⟩ := HTC.out v (below_then HB2.out hv)
    have g1 := (hv.block _ (Array.getElem?_eq_some_iff.1 HU2.out.2).1).trans HU2.out.2
    exact ⟨hv, HKB.out v (below_then HU2.out.1 hv), ⟨by rw [cell_of_blk g1]; rfl, by rw [cell_of_blk g1]; rfl, by rw [cell_of_blk g1]; rfl, (Array.getElem?_eq_some_iff.1 g1).1⟩, j1, j2, jl⟩)
  go_upto_region 3 with fail
  go_cut [36] from 25 to 36 (fun s36 wc => ∃ u3 : World, u3 = wc ∧ s36 = .bool (!q) ∧ Hid (Below u2.heap.size u2 u3))
  case first =>
    go_region_held3 (fun v => Below u2.heap.size u2 v ∧ (v.cell? ⟨kb, 0, none⟩ = some (.int .i64 k.kind) ∧ v.cell? ⟨kb, 1, none⟩ = some (.int .i64 k.a) ∧ v.cell? ⟨kb, 2, none⟩ = some (.int .i64 k.b) ∧ v.cell? ⟨kb, 3, none⟩ = some (.string k.s) ∧ kb < v.heap.size) ∧ (v.cell? ⟨xb, 0, none⟩ = some (.int .u64 x.word) ∧ v.cell? ⟨xb, 1, none⟩ = some (.string x.val) ∧ v.cell? ⟨xb, 2, none⟩ = some (.bool x.has) ∧ xb < v.heap.size) ∧ v.cell? ⟨tb, 1, none⟩ = some (.pointer (some ⟨cb, 0, none⟩)) ∧ v.cell? ⟨tb, 2, none⟩ = some (.int .i64 who) ∧ tb < v.heap.size)
      (first | exact HS3.out _ (Below.refl _ _).drew | exact HS3.out _ HBC.out)
      ((go_at_call 88; (refine (HST.out _ (below_then HB2.out (by go_split_ands; assumption))).mono ?_); rintro e wc ⟨rfl, hbc⟩; have HBC := Lib.hid (below_then (show Below u2.heap.size u2 _ by go_split_ands; assumption) hbc)))
    all_goals
      go_wp2_with fail
      go_meet
      exact ⟨_, rfl, rfl, HBC⟩
  case rest =>
  obtain ⟨u3, rfl, rfl, HU3⟩ := hcut
  apply_assumption
  have HB3 : Hid (Below w.heap.size w u3) := Lib.hid (below_then HB2.out HU3.out)
  have HA3 : Hid (OcA u3 a T P s ∧ OcT w u3 a a s s) := Lib.hid ⟨HA.out.below HB3.out, OcT.below HB3.out a s⟩
  cases q
  case false =>
    have hov := over_any HA3.out.1 HN.out.1 HN.out.2.1
    rw [← HE.out.1] at hov
    have HOV := Lib.hid hov
    clear hov
    go_wp2_with fail
    refine HOV.out.mono ?_
    rintro e w3 ⟨rfl, hp2⟩
    have HP2 := Lib.hid hp2
    clear hp2
    go_wp2_with fail
    go_ret
    exact .inr ⟨rfl, rfl, OvPost.from HA3.out.2 ⟨rfl, HP2.out⟩⟩
  case true =>
    obtain ⟨_, _, _, j6, _, jl⟩ := HTC.out u3 HB3.out
    have hdn := done_any HA3.out.1.mm.t T.R.length 4 HN.out.2.2
    rw [← HE.out.1] at hdn
    obtain ⟨TT, hTT⟩ : ∃ t, t = doneT T T.R.length 4 := ⟨_, rfl⟩
    rw [← hTT, ← HE.out.2] at hdn
    have HTT := Lib.hid hTT
    have HDN := Lib.hid hdn
    clear hdn hTT
    go_wp2_with fail
    refine HDN.out.mono ?_
    rintro e w9 ⟨rfl, hx9, hc9⟩
    have hO := HA3.out.1.own hx9 hc9
    have HO := Lib.hid (And.intro hO.1 (HA3.out.2.trans hO.2))
    clear hO hx9 hc9
    go_wp2_with fail
    go_ret
    exact .inl ⟨rfl, rfl, by rw [← HTT.out]; exact HO.out.1, HO.out.2⟩
end
end Go.Proofs.YtkhkdedjffkhdaaGreat
namespace Go.Proofs.YtkhkdedjffkhdaaGreat
open Go.RowKit Go.Maps

section
variable {w : World} {a : Ta} {T : Tn} {P : Ps} {s : Sto}
set_option maxRecDepth 100000 in
set_option maxHeartbeats 4000000 in
theorem ocinstall_ok (h : OcA w a T P s) {x : Wr} (hx : T.L[T.i]? = some x) (c : Cl) (hi : T.i ≤ 1000000)
    (hl : ∀ u, StC u s → Calls Tryz.prog 89 #[.pointer (some ⟨a.m.cb, 0, none⟩), .agg #[.int .i64 x.k.kind, .int .i64 x.k.a, .int .i64 x.k.b, .string x.k.s], .int .i64 T.who, .int .u64 T.st, .agg #[.int .u64 0, .string x.val, .bool x.has]] u (PostG u s (setG s.g x.k (some c)) s.cnt s.c (.int .i64 0))) :
    Calls Tryz.prog 51 #[.pointer (some ⟨a.m.tb, 0, none⟩)] w (GoPost w a (doneT T T.W.length 5) P s (setG s.g x.k (some c)) s.cnt s.c) := by
  obtain ⟨b, hla, hat⟩ := h.mm.t.rowL hx
  obtain ⟨tb, htb⟩ : ∃ b, b = a.m.tb := ⟨_, rfl⟩
  obtain ⟨cb, hcb⟩ : ∃ b, b = a.m.cb := ⟨_, rfl⟩
  obtain ⟨who, hwho⟩ : ∃ b, b = T.who := ⟨_, rfl⟩
  obtain ⟨st, hst⟩ : ∃ b, b = T.st := ⟨_, rfl⟩
  obtain ⟨i, hi0⟩ : ∃ b, b = T.i := ⟨_, rfl⟩
  obtain ⟨nL, hnL⟩ : ∃ b, b = T.L.length := ⟨_, rfl⟩
  obtain ⟨nW, hnW⟩ : ∃ b, b = T.W.length := ⟨_, rfl⟩
  have hin : (i : Int) < (nL : Int) := by have := (List.getElem?_eq_some_iff.1 hx).1; omega
  have HTC : Hid (∀ u, Below w.heap.size w u → u.cell? ⟨tb, 1, none⟩ = some (.pointer (some ⟨cb, 0, none⟩)) ∧ u.cell? ⟨tb, 2, none⟩ = some (.int .i64 who) ∧ u.cell? ⟨tb, 5, none⟩ = some (.slice (some ⟨b, 0, none⟩) nL a.m.lc) ∧ u.cell? ⟨tb, 7, none⟩ = some (.int .i64 i) ∧ u.cell? ⟨tb, 9, none⟩ = some (.int .u64 st) ∧ tb < u.heap.size) := Lib.hid (fun u hu => by
    obtain ⟨_, k1, k2, _, _, k5, _, k7, _, k9, _, kl⟩ := (h.mm.t.below hu).cell
    rw [htb, hcb, hwho, hi0, hnL, hst]
    rw [hla] at k5
    exact ⟨k1, k2, k5, k7, k9, kl⟩)
  obtain ⟨d0, d1, d2, d3, d4, d5⟩ := kW_cells hat hx
  have dl := hat.lt
  rw [← hi0] at d0 d1 d2 d3 d4 d5
  simp only [Nat.zero_add] at d0 d1 d2 d3 d4 d5
  have HIN : Hid (∀ u, Below w.heap.size w u → Calls Tryz.prog 89 #[.pointer (some ⟨cb, 0, none⟩), .agg #[.int .i64 x.k.kind, .int .i64 x.k.a, .int .i64 x.k.b, .string x.k.s], .int .i64 who, .int .u64 st, .agg #[.int .u64 0, .string x.val, .bool x.has]] u (PostG u s (setG s.g x.k (some c)) s.cnt s.c (.int .i64 0))) := Lib.hid (fun u hu => by
    rw [hcb, hwho, hst]
    exact hl u (h.st.stay hu))
  have HA := Lib.hid h
  have HI := Lib.hid hi
  have HE : Hid (tb = a.m.tb ∧ nW = T.W.length) := Lib.hid ⟨htb, hnW⟩
  have HE2 : Hid (cb = a.m.cb ∧ who = T.who ∧ st = T.st) := Lib.hid ⟨hcb, hwho, hst⟩
  obtain ⟨k1, k2, k5, k7, k9, kl⟩ := HTC.out w (Below.refl _ _)
  obtain ⟨TT, hTT⟩ : ∃ t, t = doneT T T.W.length 5 := ⟨_, rfl⟩
  rw [← htb, ← hTT]
  have HTT := Lib.hid hTT
  clear h hx hl hi hla hat htb hcb hwho hst hi0 hnL hnW hTT k1 k2 k9
  go_enter Tryz.func51, Tryz.ntmps51
  go_upto_region 1 with fail
  go_cut [3] from 5 to 14 (fun s3 wc => ∃ (kb : Nat) (u : World), u = wc ∧ s3 = .pointer (some ⟨kb, 0, none⟩) ∧ Hid (Below w.heap.size w u ∧ u.heap[kb]? = some (.cells #[.int .i64 x.k.kind, .int .i64 x.k.a, .int .i64 x.k.b, .string x.k.s, .string x.val, .bool x.has] 94 (0, 0)) ∧ w.heap.size ≤ kb))
  case first =>
    go_region
    all_goals
      go_wp2_with fail
      go_meet
      exact ⟨_, _, rfl, rfl, Lib.hid ⟨below_then (below_box _ _) (Below.refl _ _).drew, heap_new w _, Nat.le_refl _⟩⟩
  case rest =>
  obtain ⟨kb, u, rfl, rfl, HU⟩ := hcut
  clear d0 d1 d2 d3 d4 d5 dl k5 k7 kl
  obtain ⟨k1, k2, k5, k7, k9, kl⟩ := HTC.out u HU.out.1
  have j0 : u.cell? ⟨kb, 0, none⟩ = some (.int .i64 x.k.kind) := by rw [cell_of_blk HU.out.2.1]; rfl
  have j1 : u.cell? ⟨kb, 1, none⟩ = some (.int .i64 x.k.a) := by rw [cell_of_blk HU.out.2.1]; rfl
  have j2 : u.cell? ⟨kb, 2, none⟩ = some (.int .i64 x.k.b) := by rw [cell_of_blk HU.out.2.1]; rfl
  have j3 : u.cell? ⟨kb, 3, none⟩ = some (.string x.k.s) := by rw [cell_of_blk HU.out.2.1]; rfl
  have j4 : u.cell? ⟨kb, 4, none⟩ = some (.string x.val) := by rw [cell_of_blk HU.out.2.1]; rfl
  have j5 : u.cell? ⟨kb, 5, none⟩ = some (.bool x.has) := by rw [cell_of_blk HU.out.2.1]; rfl
  have jl := (Array.getElem?_eq_some_iff.1 HU.out.2.1).1
  have HBU : Hid (Below w.heap.size w u.drew) := Lib.hid (below_then HU.out.1 (Below.refl _ _).drew)
  go_upto_region 2 with fail
  have HS : Hid (∀ v, TxC v a.m T → v.heap[kb]? = some (.cells #[.int .i64 x.k.kind, .int .i64 x.k.a, .int .i64 x.k.b, .string x.k.s, .string x.val, .bool x.has] 94 (0, 0)) → v.cell? ⟨tb, 1, none⟩ = some (.pointer (some ⟨cb, 0, none⟩)) ∧ v.cell? ⟨tb, 2, none⟩ = some (.int .i64 who) ∧ v.cell? ⟨tb, 9, none⟩ = some (.int .u64 st) ∧ tb < v.heap.size ∧ v.cell? ⟨kb, 0, none⟩ = some (.int .i64 x.k.kind) ∧ v.cell? ⟨kb, 1, none⟩ = some (.int .i64 x.k.a) ∧ v.cell? ⟨kb, 2, none⟩ = some (.int .i64 x.k.b) ∧ v.cell? ⟨kb, 3, none⟩ = some (.string x.k.s) ∧ v.cell? ⟨kb, 4, none⟩ = some (.string x.val) ∧ v.cell? ⟨kb, 5, none⟩ = some (.bool x.has) ∧ kb < v.heap.size) := Lib.hid (fun v hv hb => by
    obtain ⟨_, m1, m2, _, _, _, _, _, _, m9, _, ml⟩ := hv.cell
    rw [← HE.out.1] at m1 m2 m9 ml
    rw [← HE2.out.1] at m1
    rw [← HE2.out.2.1] at m2
    rw [← HE2.out.2.2] at m9
    exact ⟨m1, m2, m9, ml, by rw [cell_of_blk hb]; rfl, by rw [cell_of_blk hb]; rfl, by rw [cell_of_blk hb]; rfl, by rw [cell_of_blk hb]; rfl, by rw [cell_of_blk hb]; rfl, by rw [cell_of_blk hb]; rfl, (Array.getElem?_eq_some_iff.1 hb).1⟩)
  go_region_held3 (fun v => v.cell? ⟨tb, 1, none⟩ = some (.pointer (some ⟨cb, 0, none⟩)) ∧ v.cell? ⟨tb, 2, none⟩ = some (.int .i64 who) ∧ v.cell? ⟨tb, 9, none⟩ = some (.int .u64 st) ∧ tb < v.heap.size ∧ v.cell? ⟨kb, 0, none⟩ = some (.int .i64 x.k.kind) ∧ v.cell? ⟨kb, 1, none⟩ = some (.int .i64 x.k.a) ∧ v.cell? ⟨kb, 2, none⟩ = some (.int .i64 x.k.b) ∧ v.cell? ⟨kb, 3, none⟩ = some (.string x.k.s) ∧ v.cell? ⟨kb, 4, none⟩ = some (.string x.val) ∧ v.cell? ⟨kb, 5, none⟩ = some (.bool x.has) ∧ kb < v.heap.size)
    (first | exact HS.out _ (HA.out.mm.t.below HBU.out) HU.out.2.1 | exact HS.out _ HA2.out.1.mm.t HK2.out)
    ((go_at_call 89; refine (HIN.out _ HBU.out).mono ?_; rintro e w2 ⟨rfl, s', hp⟩; have HA2 := Lib.hid ((HA.out.below HBU.out).store hp); have HG2 := Lib.hid (And.intro hp.g (And.intro hp.cnt hp.c)); have HK2 := Lib.hid ((hp.chg.block kb (Array.getElem?_eq_some_iff.1 HU.out.2.1).1 (fun e => by have h1 := HA.out.st.lt e; have h2 := HU.out.2.2; omega)).trans HU.out.2.1); clear hp))
  all_goals (
    obtain ⟨_, _, _, _, m4, _, _, _, _, _, _, ml⟩ := HA2.out.1.mm.t.cell
    rw [← HE.out.1] at m4 ml
    rw [← HE.out.2] at m4
    have hdn := done_any HA2.out.1.mm.t T.W.length 5 HI.out
    rw [← HE.out.1, ← HTT.out, ← HE.out.2] at hdn
    have HDN := Lib.hid hdn
    clear hdn k1 k2 k5 k7 k9 kl
    go_wp2_with fail
    refine HDN.out.mono ?_
    rintro e w9 ⟨rfl, hx9, hc9⟩
    have hO := HA2.out.1.own hx9 hc9
    have HO := Lib.hid (And.intro hO.1 (((OcT.below HBU.out a s).trans HA2.out.2).trans hO.2))
    clear hO hx9 hc9
    go_wp2_with fail
    go_ret
    exact ⟨rfl, _, HO.out.1, HO.out.2, HG2.out.1, HG2.out.2.1, HG2.out.2.2⟩)
end
end Go.Proofs.YtkhkdedjffkhdaaGreat
namespace Go.Proofs.YtkhkdedjffkhdaaGreat
open Go.RowKit Go.Maps

section
variable {w : World} {a : Ta} {T : Tn} {P : Ps} {s : Sto}
theorem TxC.setN {m : Tm} (h : TxC w m T) (n : Nat) : TxC (w.setCell ⟨m.tb, 10, none⟩ (.int .i64 n)) m { T with n := n } ∧ Chg w (w.setCell ⟨m.tb, 10, none⟩ (.int .i64 n)) (fun j => j = m.tb) := by
  have hc : Chg w (w.setCell ⟨m.tb, 10, none⟩ (.int .i64 n)) (fun j => j = m.tb) := (Chg.refl w (fun j => j = m.tb)).setCell (p := ⟨m.tb, 10, none⟩) (fun _ => rfl) _
  refine ⟨h.upd hc ?_ rfl rfl rfl, hc⟩
  rw [blk_setCell h.blk _]
  simp [Tm.cells]
/-- the step that a phase takes -/
def InC (ph : Int) (tb last : Nat) (ep : Int) (w : World) (Q : Ending → World → Prop) : Prop :=
  (ph = 1 ∧ Calls Tryz.prog 48 #[.pointer (some ⟨tb, 0, none⟩)] w Q) ∨
  (ph = 2 ∧ Calls Tryz.prog 49 #[.pointer (some ⟨tb, 0, none⟩), .int .u64 last, .int .i64 ep] w Q) ∨
  (ph = 3 ∧ Calls Tryz.prog 50 #[.pointer (some ⟨tb, 0, none⟩)] w Q) ∨
  (ph = 4 ∧ Calls Tryz.prog 51 #[.pointer (some ⟨tb, 0, none⟩)] w Q)
def upN (code : Int) (T : Tn) : Tn := if code = 0 then { T with n := T.n + 1 } else T
def StPst (w : World) (a : Ta) (P : Ps) (s : Sto) (R : Int → Tn → Sto → Prop) (e : Ending) (w' : World) : Prop :=
  ∃ code T' s', R code T' s' ∧ e = .returned (.tuple #[.int .i64 T'.ph, .int .i64 code]) ∧ OcA w' a (upN code T') P s' ∧ OcT w w' a a s s'
set_option maxRecDepth 100000 in
set_option maxHeartbeats 4000000 in
theorem ocstep_go (h : OcA w a T P s) (last : Nat) (ep : Int) {Q : Ending → World → Prop} (hi : InC T.ph a.m.tb last ep w Q) {R : Int → Tn → Sto → Prop}
    (hQ : ∀ e w', Q e w' → ∃ code T' s', R code T' s' ∧ e = .returned (.int .i64 code) ∧ OcA w' a T' P s' ∧ OcT w w' a a s s' ∧ T'.n ≤ 1000000) :
    Calls Tryz.prog 22 #[.pointer (some ⟨a.m.tb, 0, none⟩), .int .u64 last, .int .i64 ep] w (StPst w a P s R) := by
  obtain ⟨k0, k1, k2, c3, k4, k5, k6, k7, k8, k9, k10, cl⟩ := h.mm.t.cell
  obtain ⟨tb, htb⟩ : ∃ b, b = a.m.tb := ⟨_, rfl⟩
  obtain ⟨ph, hph⟩ : ∃ b, b = T.ph := ⟨_, rfl⟩
  have HE := Lib.hid htb
  have HQ := Lib.hid hQ
  rw [← hph] at c3 hi
  rw [← htb] at c3 cl hi ⊢
  clear hQ h k0 k1 k2 k4 k5 k6 k7 k8 k9 k10 htb hph
  rcases hi with ⟨rfl, hi⟩ | ⟨rfl, hi⟩ | ⟨rfl, hi⟩ | ⟨rfl, hi⟩
  all_goals (
    have HI := Lib.hid hi
    clear hi
    go_enter Tryz.func22, Tryz.ntmps22
    go_wp2_with fail
    refine HI.out.mono ?_
    intro e w2 hq
    obtain ⟨code, T', s', hr, rfl, hA, hO, hn⟩ := HQ.out e w2 hq
    have HR := Lib.hid (And.intro hr hO)
    have HA := Lib.hid hA
    obtain ⟨_, _, _, m3, _, _, _, _, _, _, m10, ml⟩ := hA.mm.t.cell
    have f10 := frozen_of_blk hA.mm.t.blk 10
    rw [← HE.out] at m3 m10 ml f10
    obtain ⟨ph2, hph2⟩ : ∃ b, b = T'.ph := ⟨_, rfl⟩
    obtain ⟨n2, hn2⟩ : ∃ b, b = T'.n := ⟨_, rfl⟩
    rw [← hph2] at m3
    rw [← hn2] at m10 hn
    have HP2 : Hid (ph2 = T'.ph ∧ n2 = T'.n) := Lib.hid ⟨hph2, hn2⟩
    have wn : IntKind.i64.wrap ((n2 : Int) + 1) = (n2 : Int) + 1 := IntWalk.i64_in _ (by omega)
    clear hq hr hA hO hn hph2 hn2
    by_cases hc : code = 0
    · subst hc
      go_wp2_with fail
      go_ret2
      have hS := HA.out.mm.t.setN (n2 + 1)
      have hW := HA.out.own hS.1 hS.2
      rw [← HE.out] at hW
      exact ⟨0, T', s', HR.out.1, by rw [← HP2.out.1]; rfl, by unfold upN; rw [if_pos rfl, ← HP2.out.2]; exact hW.1, HR.out.2.trans hW.2⟩
    · have t1 : (code == 0) = false := by simpa using hc
      have HC := Lib.hid hc
      clear hc
      go_wp2_with fail
      go_ret2
      exact ⟨code, T', s', HR.out.1, by rw [← HP2.out.1]; rfl, by unfold upN; rw [if_neg HC.out]; exact HA.out, HR.out.2⟩)
set_option maxRecDepth 100000 in
theorem ocstep_state (h : TxC w a.m T) (last : Nat) (ep : Int) (hp : T.ph ≠ 1 ∧ T.ph ≠ 2 ∧ T.ph ≠ 3 ∧ T.ph ≠ 4) :
    Calls Tryz.prog 22 #[.pointer (some ⟨a.m.tb, 0, none⟩), .int .u64 last, .int .i64 ep] w fun e w' => e = .returned (.tuple #[.int .i64 T.ph, .int .i64 200]) ∧ w = w' := by
  obtain ⟨k0, k1, k2, c3, k4, k5, k6, k7, k8, k9, k10, cl⟩ := h.cell
  obtain ⟨tb, htb⟩ : ∃ b, b = a.m.tb := ⟨_, rfl⟩
  obtain ⟨ph, hph⟩ : ∃ b, b = T.ph := ⟨_, rfl⟩
  rw [← hph] at c3 hp ⊢
  rw [← htb] at c3 cl ⊢
  have t1 : (ph == 1) = false := by simpa using hp.1
  have t2 : (ph == 2) = false := by simpa using hp.2.1
  have t3 : (ph == 3) = false := by simpa using hp.2.2.1
  have t4 : (ph == 4) = false := by simpa using hp.2.2.2
  clear h k0 k1 k2 k4 k5 k6 k7 k8 k9 k10 htb hph hp
  go_enter Tryz.func22, Tryz.ntmps22
  go_wp2_with fail
  go_ret2
  exact ⟨rfl, rfl⟩
theorem ocphase_any {m : Tm} (h : TxC w m T) : Calls Tryz.prog 13 #[.pointer (some ⟨m.tb, 0, none⟩)] w fun e w' => e = .returned (.int .i64 T.ph) ∧ w = w' := by
  obtain ⟨k0, k1, k2, c3, k4, k5, k6, k7, k8, k9, k10, cl⟩ := h.cell
  clear h k0 k1 k2 k4 k5 k6 k7 k8 k9 k10
  go_enter Tryz.func13, Tryz.ntmps13
  go_wp2_with fail
  go_ret
  exact ⟨rfl, rfl⟩
theorem ocstamp_any {m : Tm} (h : TxC w m T) : Calls Tryz.prog 14 #[.pointer (some ⟨m.tb, 0, none⟩)] w fun e w' => e = .returned (.int .u64 T.st) ∧ w = w' := by
  obtain ⟨k0, k1, k2, c3, k4, k5, k6, k7, k8, c9, k10, cl⟩ := h.cell
  clear h k0 k1 k2 c3 k4 k5 k6 k7 k8 k10
  go_enter Tryz.func14, Tryz.ntmps14
  go_wp2_with fail
  go_ret
  exact ⟨rfl, rfl⟩
theorem ocsteps_any {m : Tm} (h : TxC w m T) : Calls Tryz.prog 15 #[.pointer (some ⟨m.tb, 0, none⟩)] w fun e w' => e = .returned (.int .i64 T.n) ∧ w = w' := by
  obtain ⟨k0, k1, k2, c3, k4, k5, k6, k7, k8, c9, k10, cl⟩ := h.cell
  clear h k0 k1 k2 c3 k4 k5 k6 k7 k8 c9
  go_enter Tryz.func15, Tryz.ntmps15
  go_wp2_with fail
  go_ret
  exact ⟨rfl, rfl⟩
end
end Go.Proofs.YtkhkdedjffkhdaaGreat
