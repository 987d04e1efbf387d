/- A transaction with its sets beside its store, in memory: what keeps them apart, what a turn changes. Conditions: each lemma's own premises. (*occ.Txn).Held, over. Conditions: each contract's own premises. -/
import Derived.Test.YtkhkdedjffkhdaaGreatOcP
import Derived.Test.YtkhkdedjffkhdaaGreatCelB
import Derived.Test.YtkhkdedjffkhdaaGreatRwX
import Derived.BigRegion
import Derived.Deep.CutRange
import Derived.Deep.RegionHeld3
namespace Go.Proofs.YtkhkdedjffkhdaaGreat
open Go.RowKit Go.Maps

/-- a transaction's sets, plainly -/
structure Ps where
  ns : Nat
  nw : Nat
  nm : Nat
  gs : Ky → Option Sn
  gw : Ky → Option Tx
  gm : Ky → Option Tx
/-- where a transaction lies, with its sets -/
structure Ta where
  m : Tm
  bs : Nat
  bw : Nat
  bm : Nat
def ownB (a : Option Addr) (j : Nat) : Prop := (Value.slice a 0 0).ownBlock = some j
theorem ownB_iff {a : Option Addr} {n c j : Nat} : (Value.slice a n c).ownBlock = some j ↔ ownB a j := by
  unfold ownB
  cases a <;> exact Iff.rfl
def Ta.fp (a : Ta) (j : Nat) : Prop := j = a.m.tb ∨ j = a.m.sb ∨ j = a.bs ∨ j = a.bw ∨ j = a.bm ∨ ownB a.m.wa j ∨ ownB a.m.la j ∨ ownB a.m.ra j
structure OcM (w : World) (a : Ta) (T : Tn) (P : Ps) : Prop where
  t : TxC w a.m T
  x : StX w a.m.sb a.bs a.bw a.bm P.ns P.nw P.nm P.gs P.gw P.gm
section
variable {w w' : World} {a a' : Ta} {T T' : Tn} {P P' : Ps} {s s' : Sto}
theorem OcM.lt (h : OcM w a T P) {j : Nat} (hj : a.fp j) : j < w.heap.size := by
  rcases hj with rfl | rfl | rfl | rfl | rfl | hj | hj | hj
  · exact h.t.lt
  · exact (Array.getElem?_eq_some_iff.1 h.x.blk).1
  · exact h.x.sm.lt
  · exact h.x.wm.lt
  · exact h.x.mm.lt
  · exact (h.t.wo.lt j (ownB_iff.2 hj)).2
  · exact (h.t.lo.lt j (ownB_iff.2 hj)).2
  · exact (h.t.ro.lt j (ownB_iff.2 hj)).2
theorem OcM.keep {S : Nat → Prop} (h : OcM w a T P) (hc : Chg w w' S) (hS : ∀ j, a.fp j → ¬ S j) : OcM w' a T P :=
  ⟨⟨(hc.block _ h.t.lt (hS _ (.inl rfl))).trans h.t.blk,
    RowK.Own.chg h.t.wo hc (fun j hj => hS j (.inr (.inr (.inr (.inr (.inr (.inl (ownB_iff.1 hj)))))))),
    RowK.Own.chg h.t.lo hc (fun j hj => hS j (.inr (.inr (.inr (.inr (.inr (.inr (.inl (ownB_iff.1 hj))))))))),
    RowK.Own.chg h.t.ro hc (fun j hj => hS j (.inr (.inr (.inr (.inr (.inr (.inr (.inr (ownB_iff.1 hj)))))))))⟩,
   h.x.chg hc (hS _ (.inr (.inl rfl))) (hS _ (.inr (.inr (.inl rfl)))) (hS _ (.inr (.inr (.inr (.inl rfl))))) (hS _ (.inr (.inr (.inr (.inr (.inl rfl))))))⟩
theorem OcM.below (h : OcM w a T P) (hb : Below w.heap.size w w') : OcM w' a T P := h.keep (Chg.of_below hb (fun _ => False)) (fun _ _ e => e)
/-- beside its store -/
structure OcA (w : World) (a : Ta) (T : Tn) (P : Ps) (s : Sto) : Prop where
  mm : OcM w a T P
  st : StC w s
  cb : s.sb = a.m.cb
  ap : ∀ j, a.fp j → ¬ s.fp j
/-- a turn of a transaction and its store -/
structure OcT (w w' : World) (a a' : Ta) (s s' : Sto) : Prop where
  chg : Chg w w' (fun j => a.fp j ∨ s.fp j)
  af : ∀ j, a'.fp j → a.fp j ∨ w.heap.size ≤ j
  sf : ∀ j, s'.fp j → s.fp j ∨ w.heap.size ≤ j
  tb : a'.m.tb = a.m.tb
  sb : s'.sb = s.sb
  room : s'.ar.room = s.ar.room
theorem OcT.below (hb : Below w.heap.size w w') (a : Ta) (s : Sto) : OcT w w' a a s s := ⟨Chg.of_below hb _, fun _ h => .inl h, fun _ h => .inl h, rfl, rfl, rfl⟩
theorem OcT.trans {v : World} {b c : Ta} {t r : Sto} (h : OcT w w' a b s t) (k : OcT w' v b c t r) : OcT w v a c s r := by
  refine ⟨h.chg.trans k.chg (fun i hi hh => ?_), fun j hj => ?_, fun j hj => ?_, k.tb.trans h.tb, k.sb.trans h.sb, k.room.trans h.room⟩
  · rcases hh with hh | hh
    · rcases h.af i hh with e | e
      · exact .inl e
      · omega
    · rcases h.sf i hh with e | e
      · exact .inr e
      · omega
  · rcases k.af j hj with e | e
    · exact h.af j e
    · exact .inr (Nat.le_trans h.chg.size e)
  · rcases k.sf j hj with e | e
    · exact h.sf j e
    · exact .inr (Nat.le_trans h.chg.size e)
theorem OcA.below (h : OcA w a T P s) (hb : Below w.heap.size w w') : OcA w' a T P s := ⟨h.mm.below hb, h.st.stay hb, h.cb, h.ap⟩
/-- the transaction's own block alone has changed -/
theorem OcA.own (h : OcA w a T P s) (ht : TxC w' a.m T') (hc : Chg w w' (fun j => j = a.m.tb)) : OcA w' a T' P s ∧ OcT w w' a a s s :=
  ⟨⟨⟨ht, h.mm.x.txn h.mm.t hc⟩, h.st.keep (fun i hi => hc.block i (h.st.lt hi) (fun e => h.ap i (.inl e) hi)), h.cb, h.ap⟩,
   ⟨hc.mono (fun _ _ e => .inl (.inl e)), fun _ h => .inl h, fun _ h => .inl h, rfl, rfl, rfl⟩⟩
/-- the store alone has changed -/
theorem OcA.store {g : Ky → Option Cl} {cnt c : Nat} (h : OcA w a T P s) (p : GPost w s s' g cnt c w') : OcA w' a T P s' ∧ OcT w w' a a s s' :=
  ⟨⟨h.mm.keep p.chg h.ap, p.st, p.sb.trans h.cb, fun j hj hf => by
    rcases p.fp j hf with e | e
    · exact h.ap j hj e
    · have := h.mm.lt hj; omega⟩,
   ⟨p.chg.mono (fun _ _ e => .inr e), fun _ h => .inl h, p.fp, rfl, p.sb, p.room⟩⟩
/-- another transaction of the same store -/
theorem OcA.other {b : Ta} {T2 : Tn} {P2 : Ps} (h : OcA w b T2 P2 s) (hs : StC w' s') (ht : OcT w w' a a' s s') (hd : ∀ j, b.fp j → ¬ a.fp j) : OcA w' b T2 P2 s' ∧ ∀ j, b.fp j → ¬ a'.fp j :=
  ⟨⟨h.mm.keep ht.chg (fun j hj e => by
      rcases e with e | e
      · exact hd j hj e
      · exact h.ap j hj e), hs, ht.sb.trans h.cb, fun j hj hf => by
    rcases ht.sf j hf with e | e
    · exact h.ap j hj e
    · have := h.mm.lt hj; omega⟩, fun j hj hf => by
    rcases ht.af j hf with e | e
    · exact hd j hj e
    · have := h.mm.lt hj; omega⟩
end
end Go.Proofs.YtkhkdedjffkhdaaGreat
namespace Go.Proofs.YtkhkdedjffkhdaaGreat
open Go.RowKit Go.Maps

theorem ksv_row {w : World} {S : Nat → Prop} {B n c : Nat} {a : Option Addr} {ks : List Ky} (h : kK.Own w B (.slice a n c) ks) (ho : ∀ k ∈ ks, k.Ok) (hS : ∀ j, S j → j < B) : KsV w S a ks := fun hn => by
  obtain ⟨b, cap, e, hB, _, hat⟩ := h.at' hn
  injection e with e1
  subst e1
  exact ⟨b, 0, rfl, ⟨ho, fun i k hk => ⟨hat.cells i k hk 0 _ rfl, hat.cells i k hk 1 _ rfl, hat.cells i k hk 2 _ rfl, hat.cells i k hk 3 _ rfl⟩, hat.lt⟩, fun hs => by have := hS b hs; omega⟩
theorem held_ok {s : Sto} {who : Int} {ks : List Ky} (hs : KySorted ks) (hm : ∀ k, k ∈ ks ↔ ∃ c, s.g k = some c ∧ heldC who c = true) : unlockOk s.g who ks ks.length := fun i k _ hk => by
  obtain ⟨c, h1, h2⟩ := (hm k).1 (List.mem_of_getElem? hk)
  refine ⟨by rw [h1]; exact h2, fun hmem => ?_⟩
  obtain ⟨j, hj⟩ := List.mem_iff_getElem?.1 hmem
  rw [List.getElem?_take] at hj
  split at hj
  · rename_i hji
    have h3 := List.pairwise_iff_getElem.1 hs j i (List.getElem?_eq_some_iff.1 hj).1 (List.getElem?_eq_some_iff.1 hk).1 hji
    rw [(List.getElem?_eq_some_iff.1 hj).2, (List.getElem?_eq_some_iff.1 hk).2] at h3
    have := (Ky.cmp_zero k k).2 rfl
    omega
  · cases hj
section
variable {w : World} {a : Ta} {T : Tn} {P : Ps} {s : Sto}
theorem OcA.key (h : OcA w a T P s) {k : Ky} {c : Cl} (hk : s.g k = some c) : k.Ok := by
  obtain ⟨y, hy, _⟩ := Sto.g_some hk
  exact (h.st.slot k y hy).1
set_option maxRecDepth 100000 in
set_option maxHeartbeats 2000000 in
theorem ocheld_any (h : OcA w a T P s) (hn : s.cnt ≤ 1000000) : Calls Tryz.prog 16 #[.pointer (some ⟨a.m.tb, 0, none⟩)] w (WhichG s.g (heldC T.who) s.cnt w) := by
  obtain ⟨tb, htb⟩ : ∃ b, b = a.m.tb := ⟨_, rfl⟩
  obtain ⟨cb, hcb⟩ : ∃ b, b = a.m.cb := ⟨_, rfl⟩
  obtain ⟨who, hwho⟩ : ∃ b, b = T.who := ⟨_, rfl⟩
  have HFC : Hid (∀ u, Below w.heap.size w u → Below w.heap.size w u ∧ u.cell? ⟨tb, 1, none⟩ = some (.pointer (some ⟨cb, 0, none⟩)) ∧ u.cell? ⟨tb, 2, none⟩ = some (.int .i64 who) ∧ tb < u.heap.size) := Lib.hid (fun u hu => by
    obtain ⟨_, c1, c2, _, _, _, _, _, _, _, _, cl⟩ := (h.mm.t.below hu).cell
    rw [htb, hcb, hwho]
    exact ⟨hu, c1, c2, cl⟩)
  have HH : Hid (∀ u, Below w.heap.size w u → Calls Tryz.prog 23 #[.pointer (some ⟨cb, 0, none⟩), .int .i64 who] u (WhichG s.g (heldC who) s.cnt u)) := Lib.hid (fun u hu => by
    rw [hcb]
    exact held_g s a.m.cb who u (h.st.stay hu) h.cb hn)
  rw [← htb, ← hwho]
  clear h htb hcb hwho hn
  go_enter Tryz.func16, Tryz.ntmps16
  go_upto_region 1 with fail
  go_region_held3 (fun u => Below w.heap.size w u ∧ u.cell? ⟨tb, 1, none⟩ = some (.pointer (some ⟨cb, 0, none⟩)) ∧ u.cell? ⟨tb, 2, none⟩ = some (.int .i64 who) ∧ tb < u.heap.size)
    (first | exact HFC.out _ (Below.refl _ _).drew | exact HFC.out _ HBC.out)
    ((go_at_call 23; (refine (HH.out _ (by go_split_ands; assumption)).mono ?_); rintro e wc ⟨v, ks, rfl, g1, g2, g3, g4, hbc⟩; have HBC := Lib.hid (below_then (show Below w.heap.size w _ by go_split_ands; assumption) hbc); have HRES : Hid (WhichG s.g (heldC who) s.cnt w (.returned v) wc) := Lib.hid ⟨v, ks, rfl, g1, g2, g3, RowK.Own.mono g4 (show w.heap.size ≤ _ from (show Below w.heap.size w _ by go_split_ands; assumption).size), HBC.out⟩; clear g1 g2 g3 g4 hbc))
  all_goals
    go_wp2_with fail
    go_ret
    exact HRES.out
def OvPost (w : World) (a : Ta) (T : Tn) (P : Ps) (s : Sto) (e : Ending) (w' : World) : Prop :=
  e = .returned (.tuple #[]) ∧ ∃ ks s', KySorted ks ∧ (∀ k, k ∈ ks ↔ ∃ c, s.g k = some c ∧ heldC T.who c = true) ∧ ks.length ≤ s.cnt ∧ OcA w' a { T with ph := 6 } P s' ∧ OcT w w' a a s s' ∧ s'.g = (unG s.g ks).1 ∧ s'.cnt = s.cnt - (unG s.g ks).2 ∧ s'.c = s.c + (unG s.g ks).2
theorem TxC.setPh {m : Tm} (h : TxC w m T) (ph : Int) : TxC (w.setCell ⟨m.tb, 3, none⟩ (.int .i64 ph)) m { T with ph := ph } ∧ Chg w (w.setCell ⟨m.tb, 3, none⟩ (.int .i64 ph)) (fun j => j = m.tb) := by
  have hc : Chg w (w.setCell ⟨m.tb, 3, none⟩ (.int .i64 ph)) (fun j => j = m.tb) := (Chg.refl w (fun j => j = m.tb)).setCell (p := ⟨m.tb, 3, none⟩) (fun _ => rfl) _
  refine ⟨h.upd hc ?_ rfl rfl rfl, hc⟩
  rw [blk_setCell h.blk _]
  simp [Tm.cells]
set_option maxRecDepth 100000 in
set_option maxHeartbeats 4000000 in
theorem over_any (h : OcA w a T P s) (hn : s.cnt ≤ 1000) (hc : s.c ≤ 1000000) : Calls Tryz.prog 73 #[.pointer (some ⟨a.m.tb, 0, none⟩)] w (OvPost w a T P s) := by
  obtain ⟨tb, htb⟩ : ∃ b, b = a.m.tb := ⟨_, rfl⟩
  obtain ⟨cb, hcb⟩ : ∃ b, b = a.m.cb := ⟨_, rfl⟩
  obtain ⟨who, hwho⟩ : ∃ b, b = T.who := ⟨_, rfl⟩
  have HFC : Hid (∀ u, Below w.heap.size w u → Below w.heap.size w u ∧ u.cell? ⟨tb, 1, none⟩ = some (.pointer (some ⟨cb, 0, none⟩)) ∧ u.cell? ⟨tb, 2, none⟩ = some (.int .i64 who) ∧ tb < u.heap.size) := Lib.hid (fun u hu => by
    obtain ⟨_, c1, c2, _, _, _, _, _, _, _, _, cl⟩ := (h.mm.t.below hu).cell
    rw [htb, hcb, hwho]
    exact ⟨hu, c1, c2, cl⟩)
  have HH : Hid (∀ u, Below w.heap.size w u → Calls Tryz.prog 16 #[.pointer (some ⟨tb, 0, none⟩)] u (WhichG s.g (heldC who) s.cnt u)) := Lib.hid (fun u hu => by
    rw [htb, hwho]
    exact ocheld_any (h.below hu) (by omega))
  have HUN : Hid (∀ (u : World) (ka : Option Addr) (ks : List Ky) (n kc : Nat), Below w.heap.size w u → kK.Own u w.heap.size (.slice ka n kc) ks → n = ks.length → ks.length ≤ s.cnt → KySorted ks → (∀ k, k ∈ ks ↔ ∃ c, s.g k = some c ∧ heldC who c = true) → Calls Tryz.prog 98 #[.pointer (some ⟨cb, 0, none⟩), .int .i64 who, .slice ka n kc] u (PostG u s (unG s.g ks).1 (s.cnt - (unG s.g ks).2) (s.c + (unG s.g ks).2) (.int .i64 0))) := Lib.hid (fun u ka ks n kc hu ho hnk hl hs hm => by
    subst hnk
    rw [hcb]
    exact unlock_ok s a.m.cb kc who ka ks u (h.st.stay hu) h.cb (ksv_row ho (fun k hk => by obtain ⟨c, h1, _⟩ := (hm k).1 hk; exact h.key h1) (fun j hj => h.st.lt hj)) (by omega) (RowK.Own.cap ho) (held_ok hs hm) (by omega))
  have HA := Lib.hid h
  rw [← htb]
  have HTB : Hid (tb = a.m.tb ∧ who = T.who) := Lib.hid ⟨htb, hwho⟩
  have HCB : Hid (cb = a.m.cb) := Lib.hid hcb
  clear h htb hcb hwho hn hc
  go_enter Tryz.func73, Tryz.ntmps73
  go_upto_region 0 with fail
  have HS0 : Hid (∀ u, Below w.heap.size w u → u.cell? ⟨tb, 1, none⟩ = some (.pointer (some ⟨cb, 0, none⟩)) ∧ u.cell? ⟨tb, 2, none⟩ = some (.int .i64 who) ∧ tb < u.heap.size) := Lib.hid (fun u hu => (HFC.out u hu).2)
  have HS1 : Hid (∀ u, OcA u a T P s ∨ (∃ s', OcA u a T P s') → u.cell? ⟨tb, 1, none⟩ = some (.pointer (some ⟨cb, 0, none⟩)) ∧ u.cell? ⟨tb, 2, none⟩ = some (.int .i64 who) ∧ tb < u.heap.size) := Lib.hid (fun u hu => by
    have h : TxC u a.m T := by
      rcases hu with hu | ⟨s', hu⟩
      · exact hu.mm.t
      · exact hu.mm.t
    obtain ⟨_, c1, c2, _, _, _, _, _, _, _, _, cl⟩ := h.cell
    rw [HTB.out.1, HTB.out.2]
    rw [HCB.out]
    exact ⟨c1, c2, cl⟩)
  go_region_held3 (fun u => u.cell? ⟨tb, 1, none⟩ = some (.pointer (some ⟨cb, 0, none⟩)) ∧ u.cell? ⟨tb, 2, none⟩ = some (.int .i64 who) ∧ tb < u.heap.size)
    (first | exact HS0.out _ (Below.refl _ _).drew | exact HS0.out _ HBC.out | exact HS1.out _ (.inr ⟨_, HA2.out.1⟩))
    (first
      | (go_at_call 16; (refine (HH.out _ (Below.refl _ _).drew).mono ?_); rintro e wc ⟨v, ks, rfl, g1, g2, g3, g4, hbc⟩; have hB0 : Below w.heap.size w _ := (Below.refl _ _).drew; have HBC := Lib.hid (below_then hB0 hbc); have g5 := RowK.Own.mono g4 hB0.size; obtain ⟨ka, kc, rfl⟩ := RowK.Own.shape g5; obtain ⟨nk, hnk⟩ : ∃ n, n = ks.length := ⟨_, rfl⟩; rw [← hnk] at g5 ⊢; have HUC := Lib.hid (HUN.out wc ka ks nk kc HBC.out g5 hnk g2 g1 g3); have HKS := Lib.hid (And.intro g1 (And.intro g3 g2)); clear g1 g2 g3 g4 g5 hnk hbc hB0)
      | (go_at_call 98; refine HUC.out.mono ?_; rintro e w2 ⟨rfl, s', hp⟩; have HA2 := Lib.hid ((HA.out.below HBC.out).store hp); have HG2 := Lib.hid (And.intro hp.g (And.intro hp.cnt hp.c)); clear hp))
  all_goals (
    have f3 := frozen_of_blk HA2.out.1.mm.t.blk 3
    have k3 := cell_of_blk HA2.out.1.mm.t.blk 3
    rw [← HTB.out.1] at f3 k3
    simp [Tm.cells] at k3
    go_wp2_with fail
    go_end0
    have hF := HA2.out.1.mm.t.setPh 6
    have hO := HA2.out.1.own hF.1 hF.2
    rw [← HTB.out.1] at hO
    exact ⟨rfl, ks, s', HKS.out.1, by rw [← HTB.out.2]; exact HKS.out.2.1, HKS.out.2.2, hO.1, ((OcT.below HBC.out a s).trans HA2.out.2).trans hO.2, HG2.out.1, HG2.out.2.1, HG2.out.2.2⟩)
end
end Go.Proofs.YtkhkdedjffkhdaaGreat
