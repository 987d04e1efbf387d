/- CellActs: an act done by both stores. Conditions: the contract's own premises. -/
import Derived.Test.YtaanohgkdpohhaaCa2
import Derived.Test.YtaanohgkdpohhaaStays2
import Derived.Deep.RegionHeld3
namespace Go.Proofs.Ytaanohgkdpohhaa
open Go.RowKit Go.Maps

theorem CM.rv {W w : World} {s : Sto} {sb rb room : Nat} {v : Value} {M : List (Ky × Cl)} (h : CM W w s sb rb room v M) : ∃ (a : Option Addr) (cap : Nat), v = .slice a M.length cap ∧ RV w rb a cap room M := by
  obtain ⟨a, c, e⟩ := h.ro.o.shape
  subst e
  exact ⟨a, c, rfl, h.ro.rv.1⟩
/-- both stores after some acts -/
structure CB (W w : World) (s : Sto) (sb rb room : Nat) (v : Value) (L : List (Ky × Cl)) (i : Nat) : Prop where
  cm : CM W w s sb rb room v L
  sr : SR s.g s.cnt L
  hc : s.c ≤ 10 * i
  hl : L.length ≤ i
theorem CB.below {W w w' : World} {s : Sto} {sb rb room i : Nat} {v : Value} {L : List (Ky × Cl)} (h : CB W w s sb rb room v L i) (hb : Below w.heap.size w w') : CB W w' s sb rb room v L i := ⟨h.cm.below hb, h.sr, h.hc, h.hl⟩
theorem CB.more {W w : World} {s : Sto} {sb rb room i : Nat} {v : Value} {L : List (Ky × Cl)} (h : CB W w s sb rb room v L i) : CB W w s sb rb room v L (i + 1) := ⟨h.cm, h.sr, by have := h.hc; omega, by have := h.hl; omega⟩
/-- the act's box in memory -/
def AcBox (w : World) (ab : Nat) (a : A9) : Prop := w.heap[ab]? = some (.cells #[.int .i64 a.kind, .int .i64 a.who, .int .i64 a.k.kind, .int .i64 a.k.a, .int .i64 a.k.b, .string a.k.s, .slice a.ka a.ks.length a.kc, .int .u64 a.stamp, .int .u64 a.vw, .string a.vs, .bool a.vh] 63 (0, 0))
theorem AcBox.keep {w w' : World} {ab : Nat} {a : A9} (h : AcBox w ab a) (hk : Keep w w') : AcBox w' ab a := hk _ _ _ _ (by decide) h
theorem AcBox.cells {w' : World} {ab : Nat} {a : A9} (h : AcBox w' ab a) : w'.cell? ⟨ab, 0, none⟩ = some (.int .i64 a.kind) ∧ w'.cell? ⟨ab, 1, none⟩ = some (.int .i64 a.who) ∧ w'.cell? ⟨ab, 2, none⟩ = some (.int .i64 a.k.kind) ∧ w'.cell? ⟨ab, 3, none⟩ = some (.int .i64 a.k.a) ∧ w'.cell? ⟨ab, 4, none⟩ = some (.int .i64 a.k.b) ∧ w'.cell? ⟨ab, 5, none⟩ = some (.string a.k.s) ∧ w'.cell? ⟨ab, 6, none⟩ = some (.slice a.ka a.ks.length a.kc) ∧ w'.cell? ⟨ab, 7, none⟩ = some (.int .u64 a.stamp) ∧ w'.cell? ⟨ab, 8, none⟩ = some (.int .u64 a.vw) ∧ w'.cell? ⟨ab, 9, none⟩ = some (.string a.vs) ∧ w'.cell? ⟨ab, 10, none⟩ = some (.bool a.vh) := by
  unfold AcBox at h
  exact ⟨by rw [cell_of_blk h]; rfl, by rw [cell_of_blk h]; rfl, by rw [cell_of_blk h]; rfl, by rw [cell_of_blk h]; rfl, by rw [cell_of_blk h]; rfl, by rw [cell_of_blk h]; rfl, by rw [cell_of_blk h]; rfl, by rw [cell_of_blk h]; rfl, by rw [cell_of_blk h]; rfl, by rw [cell_of_blk h]; rfl, by rw [cell_of_blk h]; rfl⟩
theorem AcBox.lt {w : World} {ab : Nat} {a : A9} (h : AcBox w ab a) : ab < w.heap.size := (Array.getElem?_eq_some_iff.1 h).1
theorem readV_tuple (o : Option Cl) : ∃ (n : Int) (t : ByteArray) (b : Bool) (z : Int), readV o = .tuple #[.agg #[.int .u64 n, .string t, .bool b], .int .i64 z] := by
  cases o with
  | none => exact ⟨_, _, _, _, rfl⟩
  | some x =>
    cases hl : x.lk
    · exact ⟨x.st, x.text, !x.ab, 0, by simp [readV, hl]⟩
    · exact ⟨0, ⟨#[]⟩, false, 60, by simp [readV, hl]⟩
def DPost (W w : World) (sb rb room i : Nat) (e : Ending) (w' : World) : Prop := e = .returned (.bool true) ∧ Keep w w' ∧ ∃ s' v' L', CB W w' s' sb rb room v' L' (i + 1)
theorem len_lockL (room : Nat) (L : List (Ky × Cl)) (k : Ky) (who : Int) : (lockL room L k who).2.2.length ≤ L.length + 1 := by
  unfold lockL
  split
  · split <;> simp
  · split
    · simp
    · simp [len_upd]
theorem len_instL (L : List (Ky × Cl)) (k : Ky) (who : Int) (t : Nat) (vs : ByteArray) (vh : Bool) : (instL L k who t vs vh).2.length ≤ L.length := by
  unfold instL
  split
  · exact Nat.le_refl _
  · split
    · split
      · exact Nat.le_refl _
      · simp [len_upd]
    · exact Nat.le_refl _
theorem len_unlL (L : List (Ky × Cl)) (who : Int) (ks : List Ky) : (unlL L who ks).2.length ≤ L.length := by
  unfold unlL
  split
  · exact len_unL ks L
  · exact Nat.le_refl _

set_option maxRecDepth 100000 in
set_option maxHeartbeats 8000000 in
theorem does_any (s : Sto) (sb rb room i : Nat) (v : Value) (L : List (Ky × Cl)) (a : A9) (W w : World) (h : CB W w s sb rb room v L i) (hi : i ≤ 100) (ha : a.Ok W) (hsm : a.Small) :
    Calls Try.prog 30 #[.pointer (some ⟨sb, 0, none⟩), .pointer (some ⟨rb, 0, none⟩), .agg #[.int .i64 a.kind, .int .i64 a.who, .int .i64 a.k.kind, .int .i64 a.k.a, .int .i64 a.k.b, .string a.k.s, .slice a.ka a.ks.length a.kc, .int .u64 a.stamp, .int .u64 a.vw, .string a.vs, .bool a.vh]] w (DPost W w sb rb room i) := by
  obtain ⟨ab, hab⟩ : ∃ ab, ab = w.heap.size := ⟨_, rfl⟩
  obtain ⟨B, hB⟩ : ∃ B, B = Obj.cells #[.int .i64 a.kind, .int .i64 a.who, .int .i64 a.k.kind, .int .i64 a.k.a, .int .i64 a.k.b, .string a.k.s, .slice a.ka a.ks.length a.kc, .int .u64 a.stamp, .int .u64 a.vw, .string a.vs, .bool a.vh] 63 := ⟨_, rfl⟩
  obtain ⟨u, hu⟩ : ∃ u, u = w.alloc B := ⟨_, rfl⟩
  have hbu : Below w.heap.size w u := by rw [hu]; exact below_box _ _
  have HBX : Hid (AcBox u ab a) := Lib.hid (by unfold AcBox; rw [hu, hab, hB]; exact heap_new w _)
  have HCB : Hid (CB W u s sb rb room v L i) := Lib.hid (h.below hbu)
  have HK0 : Hid (Keep w u) := Lib.hid (Keep.of_below hbu)
  have HU := Lib.hid hu.symm
  have HBB := Lib.hid hB.symm
  have HAB := Lib.hid hab.symm
  have HI := Lib.hid hi
  have HA := Lib.hid ha
  have HSM := Lib.hid hsm
  have hk := ha.k
  have HK1000 : Hid (a.ks.length ≤ 1000) := Lib.hid (by have := hsm.len; omega)
  have HSB := Lib.hid h.cm.hsb
  obtain ⟨t, ht⟩ : ∃ t : Nat, a.stamp = t := ⟨a.stamp.toNat, by have := ha.stamp.1; omega⟩
  have HTL : Hid (t < 18446744073709551616) := Lib.hid (by have := ha.stamp.2; omega)
  have HTT := Lib.hid ht
  clear hbu hu hB hab h hi ha hsm ht
  by_cases k0 : a.kind = 0
  · have n0 : (a.kind == 0) = true := by simpa using k0
    clear k0
    obtain ⟨p0, p1, p2, p3, p4, p5, p6, p7, p8, p9, p10⟩ := HBX.out.cells
    have hla := HBX.out.lt
    go_enter Try.func30, Try.ntmps30
    go_upto_region 1 with fail
    rw [HBB.out, HU.out, HAB.out]
    go_wp2_with fail
    refine (read_g s sb a.k _ HCB.out.cm.st.st HSB.out hk).mono ?_
    rintro e w1 ⟨rfl, hb1⟩
    obtain ⟨n, tx, b, z, hrv⟩ := readV_tuple (lookL L a.k)
    rw [HCB.out.sr.g, hrv]
    have HB1 := Lib.hid hb1
    have HRV := Lib.hid hrv
    obtain ⟨p0, p1, p2, p3, p4, p5, p6, p7, p8, p9, p10⟩ := (HBX.out.keep (Keep.of_below hb1)).cells
    have hla := (HBX.out.keep (Keep.of_below hb1)).lt
    clear hb1 hrv
    go_wp2_with fail
    have hb2 := HB1.out.alloc HB1.out.size (.cells #[.int .u64 n, .string tx, .bool b] 36)
    obtain ⟨ra, cap, _, hrv2⟩ := (HCB.out.cm.below hb2).rv
    refine (r9read_any rb cap room ra L a.k _ hrv2).mono ?_
    rintro e w3 ⟨rfl, hb3⟩
    rw [HRV.out]
    have r0 := (hb3.block w1.heap.size (by simp)).trans (heap_new w1 _)
    have d0 := cell_of_blk r0 0
    have d1 := cell_of_blk r0 1
    have d2 := cell_of_blk r0 2
    have hlx := (Array.getElem?_eq_some_iff.1 r0).1
    simp at d0 d1 d2
    have HB3 : Hid (Below u.heap.size u w3) := Lib.hid (below_then hb2 hb3)
    clear r0 hb3 hb2 hrv2
    go_wp2_with fail
    go_ret
    exact ⟨rfl, HK0.out.trans (Keep.of_below (HB3.out.alloc HB3.out.size _)), s, v, L, (HCB.out.below (HB3.out.alloc HB3.out.size _)).more⟩
  have n0 : (a.kind == 0) = false := by simpa using k0
  clear k0
  by_cases k1 : a.kind = 1
  · have n1 : (a.kind == 1) = true := by simpa using k1
    clear k1
    obtain ⟨p0, p1, p2, p3, p4, p5, p6, p7, p8, p9, p10⟩ := HBX.out.cells
    have hla := HBX.out.lt
    go_enter Try.func30, Try.ntmps30
    go_upto_region 1 with fail
    rw [HBB.out, HU.out, HAB.out]
    go_wp2_with fail
    refine (plock HCB.out.cm HCB.out.sr a.k a.who hk HA.out.who).mono ?_
    rintro e w1 ⟨rfl, hk1, s1, hm1, hr1, hc1⟩
    obtain ⟨n, hn⟩ : ∃ n, n = (lockL room L a.k a.who).1 := ⟨_, rfl⟩
    obtain ⟨z, hz⟩ : ∃ z, z = (lockL room L a.k a.who).2.1 := ⟨_, rfl⟩
    rw [← hn, ← hz]
    have HN := Lib.hid hn
    have HZ := Lib.hid hz
    have HK1 := Lib.hid hk1
    have HM1 := Lib.hid hm1
    have HR1 := Lib.hid hr1
    have HC1 := Lib.hid hc1
    obtain ⟨p0, p1, p2, p3, p4, p5, p6, p7, p8, p9, p10⟩ := (HBX.out.keep hk1).cells
    have hla := (HBX.out.keep hk1).lt
    clear hn hz hk1 hm1 hr1 hc1
    go_wp2_with fail
    refine (qlock HM1.out a.k a.who (by have := HCB.out.hl; have := HI.out; omega)).mono ?_
    rintro e w2 ⟨rfl, hk2, v2, hm2⟩
    rw [← HN.out, ← HZ.out]
    have HK2 := Lib.hid hk2
    have HM2 := Lib.hid hm2
    clear hk2 hm2
    go_wp2_with fail
    go_ret
    exact ⟨rfl, HK0.out.trans (HK1.out.trans HK2.out), s1, v2, _, HM2.out, HR1.out, by have := HC1.out; have := HCB.out.hc; omega, by have := len_lockL room L a.k a.who; have := HCB.out.hl; omega⟩
  have n1 : (a.kind == 1) = false := by simpa using k1
  clear k1
  by_cases k2 : a.kind = 2
  · have n2 : (a.kind == 2) = true := by simpa using k2
    clear k2
    obtain ⟨z, hz⟩ : ∃ z, z = (unlL L a.who a.ks).1 := ⟨_, rfl⟩
    have HZ := Lib.hid hz.symm
    clear hz
    obtain ⟨p0, p1, p2, p3, p4, p5, p6, p7, p8, p9, p10⟩ := HBX.out.cells
    have hla := HBX.out.lt
    go_enter Try.func30, Try.ntmps30
    go_upto_region 1 with fail
    rw [HBB.out, HU.out, HAB.out]
    go_upto_region 11 with fail
    have hbd : Below u.heap.size u u.drew := below_drewN (Below.refl _ _) 1
    have HKD : Hid (Keep u u.drew) := Lib.hid (Keep.of_below hbd)
    have HPC := Lib.hid (punlock (HCB.out.cm.below (Below.refl _ _).drew) HCB.out.sr a.who a.ka a.kc a.ks HA.out.ks HK1000.out HA.out.kl (by have := HCB.out.hc; have := HI.out; omega))
    rw [HZ.out] at HPC
    have HS0 := Lib.hid (HBX.out.keep HKD.out).cells
    clear hbd
    go_region_held3 (fun w' => w'.cell? ⟨ab, 0, none⟩ = some (.int .i64 a.kind) ∧ w'.cell? ⟨ab, 1, none⟩ = some (.int .i64 a.who) ∧ w'.cell? ⟨ab, 2, none⟩ = some (.int .i64 a.k.kind) ∧ w'.cell? ⟨ab, 3, none⟩ = some (.int .i64 a.k.a) ∧ w'.cell? ⟨ab, 4, none⟩ = some (.int .i64 a.k.b) ∧ w'.cell? ⟨ab, 5, none⟩ = some (.string a.k.s) ∧ w'.cell? ⟨ab, 6, none⟩ = some (.slice a.ka a.ks.length a.kc) ∧ w'.cell? ⟨ab, 7, none⟩ = some (.int .u64 a.stamp) ∧ w'.cell? ⟨ab, 8, none⟩ = some (.int .u64 a.vw) ∧ w'.cell? ⟨ab, 9, none⟩ = some (.string a.vs) ∧ w'.cell? ⟨ab, 10, none⟩ = some (.bool a.vh))
      (first | exact HS0.out | exact HS1.out | exact HS2.out)
      (first | (go_at_call 27; (with_reducible refine HPC.out.mono ?_); rintro e w1 ⟨rfl, hk1, s1, hm1, hr1, hc1⟩; have HK1 := Lib.hid hk1; have HM1 := Lib.hid hm1; have HR1 := Lib.hid hr1; have HC1 := Lib.hid hc1; have HS1 := Lib.hid ((HBX.out.keep HKD.out).keep HK1.out).cells; clear hk1 hm1 hr1 hc1) | (go_at_call 93; have hq := qunlock HM1.out a.who a.ka a.kc a.ks HA.out.ks HK1000.out; (with_reducible refine hq.mono ?_); clear hq; rintro e w2 ⟨rfl, hk2, v2, hm2⟩; rw [HZ.out]; have HK2 := Lib.hid hk2; have HM2 := Lib.hid hm2; have HS2 := Lib.hid (((HBX.out.keep HKD.out).keep HK1.out).keep HK2.out).cells; clear hk2 hm2) | fail)
    all_goals (
      go_wp2_with fail
      go_ret
      exact ⟨rfl, HK0.out.trans (HKD.out.trans (HK1.out.trans HK2.out)), s1, v2, _, HM2.out, HR1.out, by have := HC1.out; have := HCB.out.hc; have := HSM.out.len; omega, by have := len_unlL L a.who a.ks; have := HCB.out.hl; omega⟩)
  have n2 : (a.kind == 2) = false := by simpa using k2
  clear k2
  by_cases k3 : a.kind = 3
  · have n3 : (a.kind == 3) = true := by simpa using k3
    clear k3
    obtain ⟨z, hz⟩ : ∃ z, z = (instL L a.k a.who t a.vs a.vh).1 := ⟨_, rfl⟩
    have HZ := Lib.hid hz.symm
    clear hz
    obtain ⟨p0, p1, p2, p3, p4, p5, p6, p7, p8, p9, p10⟩ := HBX.out.cells
    have hla := HBX.out.lt
    go_enter Try.func30, Try.ntmps30
    go_upto_region 1 with fail
    rw [HBB.out, HU.out, HAB.out]
    go_upto_region 13 with fail
    have hbd : Below u.heap.size u u.drew := below_drewN (Below.refl _ _) 1
    have HKD : Hid (Keep u u.drew) := Lib.hid (Keep.of_below hbd)
    have HPC := Lib.hid (pinst (HCB.out.cm.below (Below.refl _ _).drew) HCB.out.sr a.k a.who t a.vw a.vs a.vh HA.out.k HTL.out HA.out.vs)
    rw [HZ.out] at HPC
    rw [← HTT.out] at HPC
    have HS0 := Lib.hid (HBX.out.keep HKD.out).cells
    clear hbd
    go_region_held3 (fun w' => w'.cell? ⟨ab, 0, none⟩ = some (.int .i64 a.kind) ∧ w'.cell? ⟨ab, 1, none⟩ = some (.int .i64 a.who) ∧ w'.cell? ⟨ab, 2, none⟩ = some (.int .i64 a.k.kind) ∧ w'.cell? ⟨ab, 3, none⟩ = some (.int .i64 a.k.a) ∧ w'.cell? ⟨ab, 4, none⟩ = some (.int .i64 a.k.b) ∧ w'.cell? ⟨ab, 5, none⟩ = some (.string a.k.s) ∧ w'.cell? ⟨ab, 6, none⟩ = some (.slice a.ka a.ks.length a.kc) ∧ w'.cell? ⟨ab, 7, none⟩ = some (.int .u64 a.stamp) ∧ w'.cell? ⟨ab, 8, none⟩ = some (.int .u64 a.vw) ∧ w'.cell? ⟨ab, 9, none⟩ = some (.string a.vs) ∧ w'.cell? ⟨ab, 10, none⟩ = some (.bool a.vh))
      (first | exact HS0.out | exact HS1.out | exact HS2.out)
      (first | (go_at_call 19; (with_reducible refine HPC.out.mono ?_); rintro e w1 ⟨rfl, hk1, s1, hm1, hr1, hc1⟩; have HK1 := Lib.hid hk1; have HM1 := Lib.hid hm1; have HR1 := Lib.hid hr1; have HC1 := Lib.hid hc1; have HS1 := Lib.hid ((HBX.out.keep HKD.out).keep HK1.out).cells; clear hk1 hm1 hr1 hc1) | (go_at_call 94; have hq := qinst HM1.out a.k a.who t a.vw a.vs a.vh; rw [← HTT.out] at hq; (with_reducible refine hq.mono ?_); clear hq; rintro e w2 ⟨rfl, hk2, v2, hm2⟩; rw [HZ.out]; have HK2 := Lib.hid hk2; have HM2 := Lib.hid hm2; have HS2 := Lib.hid (((HBX.out.keep HKD.out).keep HK1.out).keep HK2.out).cells; clear hk2 hm2) | fail)
    all_goals (
      go_wp2_with fail
      go_ret
      exact ⟨rfl, HK0.out.trans (HKD.out.trans (HK1.out.trans HK2.out)), s1, v2, _, HM2.out, HR1.out, by have := HC1.out; have := HCB.out.hc; have := HSM.out.len; omega, by have := len_instL L a.k a.who t a.vs a.vh; have := HCB.out.hl; omega⟩)
  have n3 : (a.kind == 3) = false := by simpa using k3
  clear k3
  by_cases k4 : a.kind = 4
  · have n4 : (a.kind == 4) = true := by simpa using k4
    clear k4
    obtain ⟨p0, p1, p2, p3, p4, p5, p6, p7, p8, p9, p10⟩ := HBX.out.cells
    have hla := HBX.out.lt
    go_enter Try.func30, Try.ntmps30
    go_upto_region 1 with fail
    rw [HBB.out, HU.out, HAB.out]
    obtain ⟨vb, hvb⟩ : ∃ vb, vb = stillV (lookL L a.k) a.who a.vw a.vh := ⟨_, rfl⟩
    have HVB := Lib.hid hvb
    clear hvb
    go_upto_region 15 with fail
    have KS : Hid (∀ w', Below u.heap.size u w' → Below u.heap.size u w' ∧ w'.cell? ⟨ab, 0, none⟩ = some (.int .i64 a.kind) ∧ w'.cell? ⟨ab, 1, none⟩ = some (.int .i64 a.who) ∧ w'.cell? ⟨ab, 2, none⟩ = some (.int .i64 a.k.kind) ∧ w'.cell? ⟨ab, 3, none⟩ = some (.int .i64 a.k.a) ∧ w'.cell? ⟨ab, 4, none⟩ = some (.int .i64 a.k.b) ∧ w'.cell? ⟨ab, 5, none⟩ = some (.string a.k.s) ∧ w'.cell? ⟨ab, 6, none⟩ = some (.slice a.ka a.ks.length a.kc) ∧ w'.cell? ⟨ab, 7, none⟩ = some (.int .u64 a.stamp) ∧ w'.cell? ⟨ab, 8, none⟩ = some (.int .u64 a.vw) ∧ w'.cell? ⟨ab, 9, none⟩ = some (.string a.vs) ∧ w'.cell? ⟨ab, 10, none⟩ = some (.bool a.vh)) := Lib.hid (fun w' hb => ⟨hb, (HBX.out.keep (Keep.of_below hb)).cells⟩)
    have PST : Hid (∀ w', Below u.heap.size u w' → Calls Try.prog 75 #[.pointer (some ⟨sb, 0, none⟩), .agg #[.int .i64 a.k.kind, .int .i64 a.k.a, .int .i64 a.k.b, .string a.k.s], .int .i64 a.who, .agg #[.int .u64 a.vw, .string a.vs, .bool a.vh]] w' fun e w'' => e = .returned (.bool vb) ∧ Below w'.heap.size w' w'') := Lib.hid (fun w' hb => by
      have h := still_g s sb a.k a.who a.vw a.vs a.vh w' (HCB.out.cm.below hb).st.st HSB.out hk
      rw [HCB.out.sr.g, ← HVB.out] at h
      exact h)
    have QST : Hid (∀ w', Below u.heap.size u w' → Calls Try.prog 95 #[.pointer (some ⟨rb, 0, none⟩), .agg #[.int .i64 a.k.kind, .int .i64 a.k.a, .int .i64 a.k.b, .string a.k.s], .int .i64 a.who, .agg #[.int .u64 a.vw, .string a.vs, .bool a.vh]] w' fun e w'' => e = .returned (.bool vb) ∧ Below w'.heap.size w' w'') := Lib.hid (fun w' hb => by
      obtain ⟨ra, cap, _, hrv2⟩ := (HCB.out.cm.below hb).rv
      have h := r9still_any rb cap room ra L a.k a.who a.vw a.vs a.vh w' hrv2
      rw [← HVB.out] at h
      exact h)
    go_region_held3 (fun w' => Below u.heap.size u w' ∧ w'.cell? ⟨ab, 0, none⟩ = some (.int .i64 a.kind) ∧ w'.cell? ⟨ab, 1, none⟩ = some (.int .i64 a.who) ∧ w'.cell? ⟨ab, 2, none⟩ = some (.int .i64 a.k.kind) ∧ w'.cell? ⟨ab, 3, none⟩ = some (.int .i64 a.k.a) ∧ w'.cell? ⟨ab, 4, none⟩ = some (.int .i64 a.k.b) ∧ w'.cell? ⟨ab, 5, none⟩ = some (.string a.k.s) ∧ w'.cell? ⟨ab, 6, none⟩ = some (.slice a.ka a.ks.length a.kc) ∧ w'.cell? ⟨ab, 7, none⟩ = some (.int .u64 a.stamp) ∧ w'.cell? ⟨ab, 8, none⟩ = some (.int .u64 a.vw) ∧ w'.cell? ⟨ab, 9, none⟩ = some (.string a.vs) ∧ w'.cell? ⟨ab, 10, none⟩ = some (.bool a.vh))
      (first | exact KS.out _ (Below.refl _ _).drew | (go_split_ands; refine KS.out _ (below_then ?_ hbc); assumption))
      (first | (go_at_call 75; go_split_ands; (with_reducible refine (PST.out _ ?hbw).mono ?_); (case hbw => assumption); rintro e wc ⟨rfl, hbc⟩) | (go_at_call 95; go_split_ands; (with_reducible refine (QST.out _ ?hbx).mono ?_); (case hbx => assumption); rintro e wc ⟨rfl, hbc⟩))
    all_goals (
      go_split_ands
      go_wp2_with fail
      go_ret
      exact ⟨rfl, HK0.out.trans (Keep.of_below (by assumption)), s, v, L, (HCB.out.below (by assumption)).more⟩)
  have n4 : (a.kind == 4) = false := by simpa using k4
  clear k4
  by_cases k5 : a.kind = 5
  · have n5 : (a.kind == 5) = true := by simpa using k5
    clear k5
    obtain ⟨n, hn⟩ : ∃ n, n = a.ks.length := ⟨_, rfl⟩
    have HN : Hid (n = a.ks.length ∧ n ≤ 10) := Lib.hid (by have := HSM.out.len; omega)
    rw [← hn]
    have HBX2 : Hid (∀ w', AcBox w' ab a → w'.cell? ⟨ab, 0, none⟩ = some (.int .i64 a.kind) ∧ w'.cell? ⟨ab, 1, none⟩ = some (.int .i64 a.who) ∧ w'.cell? ⟨ab, 2, none⟩ = some (.int .i64 a.k.kind) ∧ w'.cell? ⟨ab, 3, none⟩ = some (.int .i64 a.k.a) ∧ w'.cell? ⟨ab, 4, none⟩ = some (.int .i64 a.k.b) ∧ w'.cell? ⟨ab, 5, none⟩ = some (.string a.k.s) ∧ w'.cell? ⟨ab, 6, none⟩ = some (.slice a.ka n a.kc) ∧ w'.cell? ⟨ab, 7, none⟩ = some (.int .u64 a.stamp) ∧ w'.cell? ⟨ab, 8, none⟩ = some (.int .u64 a.vw) ∧ w'.cell? ⟨ab, 9, none⟩ = some (.string a.vs) ∧ w'.cell? ⟨ab, 10, none⟩ = some (.bool a.vh)) := Lib.hid (fun w' hx => by rw [HN.out.1]; exact hx.cells)
    clear hn
    obtain ⟨p0, p1, p2, p3, p4, p5, p6, p7, p8, p9, p10⟩ := HBX2.out u HBX.out
    have hla := HBX.out.lt
    go_enter Try.func30, Try.ntmps30
    go_upto_region 1 with fail
    rw [HN.out.1, HBB.out, HU.out, HAB.out]
    go_wp2_with fail
    clear p0 p1 p2 p3 p4 p5 p6 p7 p8 p9 p10 hla
    go_loopw [15, 16] (fun nv jv wr => ∃ (j : Nat) (m : Int) (v' : Value) (M : List (Ky × Cl)), nv = .int .i64 m ∧ jv = .int .i64 (j : Int) ∧ j ≤ n ∧ Hid ((m, M) = frL (0, L) (a.ks.take j)) ∧ 0 ≤ m ∧ m ≤ j ∧ Hid (CM W wr s sb rb room v' M) ∧ Hid (Keep u wr)) (fun _ jv _ => n - (intOf jv).toNat)
    case atStart => exact ⟨0, 0, v, L, rfl, rfl, Nat.zero_le _, Lib.hid rfl, Int.le_refl _, Int.le_refl _, Lib.hid HCB.out.cm, Lib.hid (fun _ _ _ _ _ e => e)⟩
    case round =>
      obtain ⟨j, m, v1, M, rfl, rfl, hj, HF, hm0, hmj, HM, HKK⟩ := hrel
      obtain ⟨p0, p1, p2, p3, p4, p5, p6, p7, p8, p9, p10⟩ := HBX2.out wr (HBX.out.keep HKK.out)
      have hla := (HBX.out.keep HKK.out).lt
      have hn6 := HN.out.2
      by_cases hlj : j < n
      · obtain ⟨y, hy⟩ : ∃ y, a.ks[j]? = some y := ⟨_, List.getElem?_eq_getElem (by have := HN.out.1; omega)⟩
        have HY := Lib.hid hy
        obtain ⟨kb, ko, hka, hat, _⟩ := HA.out.ks (fun e => by rw [e] at hy; simp at hy)
        have hat := hat.of_block (HM.out.st.bel.block kb hat.lt)
        rw [hka] at p6
        have HKA := Lib.hid hka
        obtain ⟨x0, x1, x2, x3⟩ := hat.cells j y hy
        have zl := hat.lt
        have HQ := Lib.hid (qfree HM.out y)
        have hr := frL_le (a.ks.take (j + 1)) (0, L)
        have HSN : Hid (frL (0, L) (a.ks.take (j + 1)) = (m + (freeL M y).1, (freeL M y).2)) := Lib.hid (by
          have e : a.ks.take (j + 1) = a.ks.take j ++ [y] := by rw [List.take_add_one, HY.out]; rfl
          rw [e, frL_snoc, ← HF.out])
        obtain ⟨d, hd⟩ : ∃ d, d = (freeL M y).1 := ⟨_, rfl⟩
        have hd1 : 0 ≤ d ∧ d ≤ 1 := by
          rw [hd]
          unfold freeL
          split
          · simp
          · split <;> simp
        obtain ⟨hd2, hd3⟩ := hd1
        have HD := Lib.hid hd.symm
        clear hat hy hka hr hd
        go_wp2_with (go_at_call 96; (with_reducible refine HQ.out.mono ?_); rintro e w1 ⟨rfl, hk1, v2, hm1⟩; rw [HD.out]; have HK1 := Lib.hid hk1; have HM1 := Lib.hid hm1; clear hk1 hm1)
        exact ⟨⟨j + 1, m + d, v2, (freeL M y).2, by simp, by simp, hlj, Lib.hid (by rw [HSN.out, HD.out]), by omega, by omega, HM1.out |> Lib.hid, Lib.hid (HKK.out.trans HK1.out)⟩, by simp [intOf]; omega⟩
      · have hjn : j = n := by omega
        have tj : decide ((j : Int) < (n : Int)) = false := decide_eq_false (by omega)
        have HFE : Hid (frL (0, L) a.ks = (m, M)) := Lib.hid (by rw [HF.out, List.take_of_length_le (by have := HN.out.1; omega)])
        have HPF : Hid (Calls Try.prog 24 #[.pointer (some ⟨sb, 0, none⟩), .slice a.ka n a.kc] wr (PP W wr sb rb room v1 M M (s.c + n) (.int .i64 m))) := Lib.hid (by
          have h := pfree HM.out HCB.out.sr a.ka a.kc a.ks HA.out.ks HK1000.out (by have := HCB.out.hc; have := HI.out; omega)
          rw [← HN.out.1, HFE.out] at h
          exact h)
        have hl := len_frL a.ks (0, L)
        rw [HFE.out] at hl
        have HL := Lib.hid hl
        clear hjn hl
        go_wp2_with (go_at_call 24; (with_reducible refine HPF.out.mono ?_); rintro e w1 ⟨rfl, hk1, s1, hm1, hr1, hc1⟩; have HK1 := Lib.hid hk1; have HM1 := Lib.hid hm1; have HR1 := Lib.hid hr1; have HC1 := Lib.hid hc1; clear hk1 hm1 hr1 hc1)
        go_ret
        exact ⟨rfl, HK0.out.trans (HKK.out.trans HK1.out), s1, v1, M, HM1.out, HR1.out, by have := HC1.out; have := HCB.out.hc; have := HN.out; omega, by have := HCB.out.hl; have h2 : M.length ≤ L.length := HL.out; omega⟩
  have n5 : (a.kind == 5) = false := by simpa using k5
  clear k5
  obtain ⟨p0, p1, p2, p3, p4, p5, p6, p7, p8, p9, p10⟩ := HBX.out.cells
  have hla := HBX.out.lt
  go_enter Try.func30, Try.ntmps30
  go_upto_region 1 with fail
  rw [HBB.out, HU.out, HAB.out]
  go_wp2_with fail
  go_ret
  exact ⟨rfl, HK0.out, s, v, L, HCB.out.more⟩
end Go.Proofs.Ytaanohgkdpohhaa

