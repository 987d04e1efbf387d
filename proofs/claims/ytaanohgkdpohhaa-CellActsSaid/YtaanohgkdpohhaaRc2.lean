/- The reference's Lock. Conditions: the contract's own premises. -/
import Derived.Test.YtaanohgkdpohhaaRc1
namespace Go.Proofs.Ytaanohgkdpohhaa
open Go.RowKit Go.Maps

def noCl : Cl := ⟨0, false, true, ByteArray.empty, 0⟩
def lockT (x : Cl) (who : Int) : Cl := { x with lk := true, who := who }
def lockL (room : Nat) (L : List (Ky × Cl)) (k : Ky) (who : Int) : Nat × Int × List (Ky × Cl) :=
  match lookL L k with
  | none => if room ≤ L.length then (0, 50, L) else (0, 0, L ++ [(k, lockT noCl who)])
  | some x => if x.lk then (0, 60, L) else (x.st, 0, updL k (lockT x who) L)
/-- what a call that writes leaves of the reference's store -/
structure RPost (w : World) (rb D room : Nat) (v : Value) (L : List (Ky × Cl)) (w' : World) : Prop where
  ex : ∃ v', RO w' rb D room v' L ∧ ∀ j, v'.ownBlock = some j → v.ownBlock = some j ∨ w.heap.size ≤ j
  chg : Chg w w' (RF rb v)
def RLk (w : World) (rb D room : Nat) (v : Value) (L : List (Ky × Cl)) (k : Ky) (who : Int) (e : Ending) (w' : World) : Prop :=
  e = .returned (.tuple #[.int .u64 (lockL room L k who).1, .int .i64 (lockL room L k who).2.1]) ∧ RPost w rb D room v (lockL room L k who).2.2 w'
theorem RPost.same {w w' : World} {rb D room : Nat} {v : Value} {L : List (Ky × Cl)} (h : RO w rb D room v L) (hb : Below w.heap.size w w') : RPost w rb D room v L w' :=
  ⟨⟨v, h.below hb, fun _ hj => .inl hj⟩, Chg.of_below hb _⟩
theorem upd_end {k : Ky} {x y : Cl} {L : List (Ky × Cl)} (h : lookL L k = none) : updL k y (L ++ [(k, x)]) = L ++ [(k, y)] := by
  rw [← set_upd (x := x) (L := L ++ [(k, x)]) (i := L.length) (by rw [List.getElem?_append_right (Nat.le_refl _)]; simp) (fst_end h), List.set_append_right _ _ (Nat.le_refl _)]
  simp
theorem upd_upd {k : Ky} {x y : Cl} : ∀ L : List (Ky × Cl), updL k y (updL k x L) = updL k y L
  | [] => rfl
  | (k', z) :: t => by
    cases h : k.eqB k' <;> simp [updL, h, upd_upd t]
set_option maxRecDepth 100000 in
set_option maxHeartbeats 8000000 in
theorem rlock_any (rb D room : Nat) (v : Value) (L : List (Ky × Cl)) (k : Ky) (who : Int) (w : World) (h : RO w rb D room v L) (hD : D ≤ w.heap.size) (hlen : L.length < 1048576) :
    Calls Try.prog 92 #[.pointer (some ⟨rb, 0, none⟩), .agg #[.int .i64 k.kind, .int .i64 k.a, .int .i64 k.b, .string k.s], .int .i64 who] w (RLk w rb D room v L k who) := by
  obtain ⟨kb, hkb⟩ : ∃ kb, kb = w.heap.size := ⟨_, rfl⟩
  obtain ⟨W, hW⟩ : ∃ W, W = w.alloc (.cells #[.int .i64 k.kind, .int .i64 k.a, .int .i64 k.b, .string k.s] 32) := ⟨_, rfl⟩
  have HBW : Hid (Below w.heap.size w W) := Lib.hid (by rw [hW]; exact below_box _ _)
  have hk0 : W.heap[kb]? = some (.cells #[.int .i64 k.kind, .int .i64 k.a, .int .i64 k.b, .string k.s] 32 (0, 0)) := by rw [hW, hkb]; exact heap_new _ _
  have HKX : Hid (∀ u, Below W.heap.size W u → u.heap[kb]? = some (.cells #[.int .i64 k.kind, .int .i64 k.a, .int .i64 k.b, .string k.s] 32 (0, 0))) := Lib.hid (fun u hu => (hu.block _ (Array.getElem?_eq_some_iff.1 hk0).1).trans hk0)
  obtain ⟨a, cap, rfl⟩ := h.o.shape
  obtain ⟨m, hm⟩ : ∃ m, m = L.length := ⟨_, rfl⟩
  rw [← hm] at h ⊢
  have HM : Hid (m = L.length ∧ m < 1048576) := Lib.hid (by omega)
  have HRW := Lib.hid (h.below HBW.out)
  have HR0 := Lib.hid h
  have HDD := Lib.hid hD
  have HW := Lib.hid hW.symm
  have HKB := Lib.hid hkb.symm
  clear h hD hlen hW hkb hk0 hm
  go_enter Try.func92, Try.ntmps92
  go_upto_region 1 with fail
  rw [HW.out, HKB.out]
  have p0 := cell_of_blk (HKX.out W (Below.refl _ _)) 0
  have p1 := cell_of_blk (HKX.out W (Below.refl _ _)) 1
  have p2 := cell_of_blk (HKX.out W (Below.refl _ _)) 2
  have p3 := cell_of_blk (HKX.out W (Below.refl _ _)) 3
  have zk := (Array.getElem?_eq_some_iff.1 (HKX.out W (Below.refl _ _))).1
  simp at p0 p1 p2 p3
  cases hl : lookL L k with
  | none =>
    have HLN := Lib.hid hl
    have HF := Lib.hid (r9find_none rb cap room a L k W HRW.out.rv.1 hl)
    clear hl
    go_wp2_with fail
    refine HF.out.mono ?_
    rintro e w1 ⟨rfl, b1⟩
    have HR1 := Lib.hid (HRW.out.below b1)
    have HB1 : Hid (Below W.heap.size W w1) := Lib.hid b1
    have c0 := cell_of_blk HR1.out.blk 0
    have c1 := cell_of_blk HR1.out.blk 1
    have zr := HR1.out.lt
    simp at c0 c1
    clear b1 p0 p1 p2 p3 zk
    by_cases hrm : room ≤ m
    · have t1 : decide (room ≤ m) = true := decide_eq_true hrm
      have HLK : Hid (lockL room L k who = (0, 50, L)) := Lib.hid (by unfold lockL; rw [HLN.out]; simp only; rw [if_pos (by have := HM.out; omega)])
      clear hrm
      go_wp2_with fail
      go_quiet (fail)
      go_wp2_with fail
      go_ret2
      unfold RLk
      rw [HLK.out]
      exact ⟨rfl, RPost.same HR0.out (below_drewN (HBW.out.trans (HB1.out.mono HBW.out.size)) _)⟩
    · have t1 : decide (room ≤ m) = false := decide_eq_false hrm
      have HLK : Hid (lockL room L k who = (0, 0, L ++ [(k, lockT noCl who)])) := Lib.hid (by unfold lockL; rw [HLN.out]; simp only; rw [if_neg (by have := HM.out; omega)])
      clear hrm
      go_wp2_with fail
      go_quiet (fail)
      go_upto_region 5 with fail
      obtain ⟨u1, hu1⟩ : ∃ u, u = w1.drewN nq := ⟨_, rfl⟩
      rw [← hu1]
      have HBU : Hid (Below W.heap.size W u1) := Lib.hid (by rw [hu1]; exact below_drewN HB1.out _)
      have HRU : Hid (RO u1 rb D room (.slice a m cap) L) := Lib.hid (by rw [hu1]; exact HR1.out.below (below_drewN (Below.refl _ _) _))
      clear c0 c1 zr hu1
      have hkx := HKX.out u1 HBU.out
      have p0 := cell_of_blk hkx 0
      have p1 := cell_of_blk hkx 1
      have p2 := cell_of_blk hkx 2
      have p3 := cell_of_blk hkx 3
      have zk := (Array.getElem?_eq_some_iff.1 hkx).1
      have q1 := cell_of_blk HRU.out.blk 1
      have zr := HRU.out.lt
      simp at p0 p1 p2 p3 q1
      have HRA : Hid (RO (u1.drew.alloc (.cells #[.int .i64 k.kind, .int .i64 k.a, .int .i64 k.b, .string k.s, .int .u64 0, .bool false, .string ByteArray.empty, .bool false, .int .i64 0] 71)) rb D room (.slice a m cap) L) := Lib.hid (HRU.out.below ((below_drewN (Below.refl _ _) 1).alloc (Nat.le_refl _) _))
      have HXV : Hid (kC.V (u1.drew.alloc (.cells #[.int .i64 k.kind, .int .i64 k.a, .int .i64 k.b, .string k.s, .int .u64 0, .bool false, .string ByteArray.empty, .bool false, .int .i64 0] 71)) (some ⟨u1.heap.size, 0, none⟩) [(k, noCl)]) := Lib.hid (fun _ => ⟨_, 0, rfl, RowK.new_at (k := kC) (heap_new u1.drew _) (by simp [RowK.cells, kC, encC, noCl])⟩)
      have HDA : Hid (D ≤ (u1.drew.alloc (.cells #[.int .i64 k.kind, .int .i64 k.a, .int .i64 k.b, .string k.s, .int .u64 0, .bool false, .string ByteArray.empty, .bool false, .int .i64 0] 71)).heap.size) := Lib.hid (by have h1 := HBU.out.size; have h2 := HBW.out.size; have h3 := HDD.out; simp; omega)
      have HCA : Hid (Chg w (u1.drew.alloc (.cells #[.int .i64 k.kind, .int .i64 k.a, .int .i64 k.b, .string k.s, .int .u64 0, .bool false, .string ByteArray.empty, .bool false, .int .i64 0] 71)) (RF rb (.slice a m cap))) := Lib.hid (Chg.of_below ((below_drewN (HBW.out.trans (HBU.out.mono HBW.out.size)) 1).alloc (by have h1 := HBU.out.size; have h2 := HBW.out.size; show w.heap.size ≤ u1.heap.size; omega) _) _)
      clear hkx
      obtain ⟨n1, hn1⟩ : ∃ n1, n1 = m + 1 := ⟨_, rfl⟩
      have HN1 := Lib.hid hn1
      clear hn1
      go_region_law (first | (refine RowK.step_app (k := kC) (B := D) (v := .slice a m cap) (l := L) rfl (.tmp 28) (.tmp 31) rfl rfl HRA.out.o (some ⟨u1.heap.size, 0, none⟩) 1 [(k, noCl)] 1 rfl rfl HXV.out (fun e => by cases e) (by have := HM.out; simp; omega) HDA.out ?_; intro v8 w8 hA; obtain ⟨a8, c8, hv8⟩ := hA.1.shape; rw [show (L ++ [(k, noCl)]).length = n1 by rw [List.length_append, ← HM.out.1, HN1.out]; rfl] at hv8; subst hv8; have hP := HRA.out.app hA (by have := HM.out; omega); have y0 := cell_of_blk hP.1 1; have f0 := frozen_of_blk hP.1 1; have z0 : rb < w8.heap.size := (Array.getElem?_eq_some_iff.1 hP.1).1; simp at y0; have HP := Lib.hid hP.2; have HE8 := Lib.hid hA.2.2; clear hA hP) | fail)
      all_goals (
        obtain ⟨g, cp, hve, _, _, _⟩ := HP.out.1.o.at' (by simp)
        injection hve with hv1 hv2 hv3
        subst hv1
        clear hv2 hv3
        obtain ⟨u, hu⟩ : ∃ u, u = w8.setCell ⟨rb, 1, none⟩ (.slice (some ⟨g, 0, none⟩) n1 c8) := ⟨_, rfl⟩
        rw [← hu] at HP ⊢
        have HRO := Lib.hid HP.out.1
        have HC := Lib.hid (HCA.out.trans HP.out.2 (fun _ _ h => h))
        have HOB : Hid (∀ j, (Value.slice (some ⟨g, 0, none⟩) n1 c8).ownBlock = some j → (Value.slice a m cap).ownBlock = some j ∨ w.heap.size ≤ j) := Lib.hid (fun j hj => by
          rcases HE8.out with e | e
          · rw [e] at hj; exact .inl hj
          · rw [e] at hj
            injection hj with hj
            have h1 := HCA.out.size
            right
            rw [← hj]
            exact h1)
        have HI : Hid ((L ++ [(k, noCl)])[m]? = some (k, noCl)) := Lib.hid (by rw [HM.out.1, List.getElem?_append_right (Nat.le_refl _)]; simp)
        have hw6 : IntKind.i64.wrap ((n1 : Int) - 1) = (m : Int) := by rw [IntKind.wrap_i64]; have h1 := HN1.out; have h2 := HM.out; omega
        clear hu y0 f0 z0 p0 p1 p2 p3 zk q1 zr
        have hat := HRO.out.at_ HI.out
        have q1 := cell_of_blk HRO.out.blk 1
        have zr := HRO.out.lt
        have c7 := hat.cells m (k, noCl) HI.out 7 _ rfl
        simp [kC] at q1 c7
        have zg := hat.lt
        have f7 := HRO.out.fz (m * 9 + 7)
        have hin : m < n1 := by have h1 := (List.getElem?_eq_some_iff.1 HI.out).1; have h2 := HRO.out.rv.2; omega
        have hin2 : (m : Int) < (n1 : Int) := by omega
        have hlen1 : n1 ≤ 1048576 := by have h2 := HRO.out.rv.2; have := HRO.out.len; omega
        clear hat
        rw [show noCl.lk = false from rfl] at c7
        obtain ⟨x1, hx1⟩ : ∃ y : Cl, y = { noCl with lk := true } := ⟨_, rfl⟩
        obtain ⟨U1, hU1⟩ : ∃ U, U = u.setCell ⟨g, m * 9 + 7, none⟩ (.bool true) := ⟨_, rfl⟩
        have hp1 := HRO.out.put1 (y := x1) HI.out 7 (by omega) (.bool true) (by rw [hx1]; rfl)
        rw [← hU1] at hp1
        have HRO1 := Lib.hid hp1.1
        have HC1 := Lib.hid hp1.2
        have HI1 : Hid (((L ++ [(k, noCl)]).set m (k, x1))[m]? = some (k, x1)) := Lib.hid (List.getElem?_set_self (List.getElem?_eq_some_iff.1 HI.out).1)
        have HX1 := Lib.hid hx1
        have HU1 := Lib.hid hU1.symm
        clear hp1 hU1 hx1
        go_upto_region 10 with fail
        rw [HU1.out]
        clear q1 c7 zg zr f7
        have hat := HRO1.out.at_ HI1.out
        have q1 := cell_of_blk HRO1.out.blk 1
        have zr := HRO1.out.lt
        have c8 := hat.cells m (k, x1) HI1.out 8 _ rfl
        simp [kC] at q1 c8
        have zg := hat.lt
        have f8 := HRO1.out.fz (m * 9 + 8)
        obtain ⟨x2, hx2⟩ : ∃ y : Cl, y = { x1 with who := who } := ⟨_, rfl⟩
        obtain ⟨U2, hU2⟩ : ∃ U, U = U1.setCell ⟨g, m * 9 + 8, none⟩ (.int .i64 who) := ⟨_, rfl⟩
        have hp2 := HRO1.out.put1 (y := x2) HI1.out 8 (by omega) (.int .i64 who) (by rw [hx2]; rfl)
        rw [← hU2, List.set_set] at hp2
        have HRO2 := Lib.hid hp2.1
        have HC2 := Lib.hid hp2.2
        have HI2 : Hid (((L ++ [(k, noCl)]).set m (k, x2))[m]? = some (k, x2)) := Lib.hid (List.getElem?_set_self (List.getElem?_eq_some_iff.1 HI.out).1)
        have HX2 : Hid (x2 = lockT noCl who) := Lib.hid (by rw [hx2, HX1.out]; rfl)
        have HU2 := Lib.hid hU2.symm
        clear hp2 hU2 hx2 hat
        go_upto_region 11 with fail
        rw [HU2.out]
        clear q1 c8 zg zr f8
        have hat := HRO2.out.at_ HI2.out
        have q1 := cell_of_blk HRO2.out.blk 1
        have zr := HRO2.out.lt
        have c4 := hat.cells m (k, x2) HI2.out 4 _ rfl
        simp [kC] at q1 c4
        have zg := hat.lt
        clear hat
        go_wp2_with fail
        go_ret2
        have hC : Chg w U2 (RF rb (.slice a m cap)) := (HC.out.trans HC1.out (fun j hj hs => hs.elim .inl (fun q => (HOB.out j q).elim .inr (fun q2 => absurd hj (by omega))))).trans HC2.out (fun j hj hs => hs.elim .inl (fun q => (HOB.out j q).elim .inr (fun q2 => absurd hj (by omega))))
        unfold RLk
        rw [HLK.out]
        refine ⟨by rw [HX2.out]; rfl, ⟨⟨_, ?_, HOB.out⟩, hC⟩⟩
        have h := HRO2.out
        rw [HX2.out, show (L ++ [(k, noCl)]).set m (k, lockT noCl who) = L ++ [(k, lockT noCl who)] by rw [HM.out.1, List.set_append_right _ _ (Nat.le_refl _)]; simp] at h
        exact h

        )
  | some x =>
    have HLS := Lib.hid hl
    have HF := Lib.hid (r9find_at rb cap room a L k x W HRW.out.rv.1 hl)
    clear hl
    go_wp2_with fail
    refine HF.out.mono ?_
    rintro e w1 ⟨i, rfl, hi, hf, b1⟩
    have HRO := Lib.hid (HRW.out.below b1)
    have HB1 : Hid (Below w.heap.size w w1) := Lib.hid (HBW.out.trans (b1.mono HBW.out.size))
    have HC : Hid (Chg w w1 (RF rb (.slice a m cap))) := Lib.hid (Chg.of_below HB1.out _)
    have HI := Lib.hid hi
    have HFS := Lib.hid hf
    obtain ⟨g, cp, hve, _, _, _⟩ := HRO.out.o.at' (fun e => by rw [e] at hi; simp at hi)
    injection hve with hv1 hv2 hv3
    subst hv1
    clear hv2 hv3
    have HOB : Hid (∀ j, (Value.slice (some ⟨g, 0, none⟩) m cap).ownBlock = some j → (Value.slice (some ⟨g, 0, none⟩) m cap).ownBlock = some j ∨ w.heap.size ≤ j) := Lib.hid (fun j hj => .inl hj)
    obtain ⟨n1, hn1⟩ : ∃ n1, n1 = m := ⟨_, rfl⟩
    rw [← hn1] at HRO HC HOB
    have HN1 := Lib.hid hn1
    have t8 : decide ((i : Int) < 0) = false := decide_eq_false (by omega)
    clear hi hf b1 p0 p1 p2 p3 zk
    have hat := HRO.out.at_ HI.out
    have q1 := cell_of_blk HRO.out.blk 1
    have zr := HRO.out.lt
    have c7 := hat.cells i (k, x) HI.out 7 _ rfl
    simp [kC] at q1 c7
    have zg := hat.lt
    have f7 := HRO.out.fz (i * 9 + 7)
    have hin : i < n1 := by have h1 := (List.getElem?_eq_some_iff.1 HI.out).1; have h2 := HRO.out.rv.2; omega
    have hin2 : (i : Int) < (n1 : Int) := by omega
    have hlen1 : n1 ≤ 1048576 := by have h2 := HRO.out.rv.2; have := HRO.out.len; omega
    clear hat
    cases hlk : x.lk
    case true =>
      rw [hlk] at c7
      have HLKT := Lib.hid hlk
      clear hlk
      go_wp2_with fail
      go_ret2
      unfold RLk lockL
      rw [HLS.out]
      simp only
      rw [if_pos HLKT.out]
      exact ⟨rfl, RPost.same HR0.out HB1.out⟩

    case false =>
    rw [hlk] at c7
    have HLKF := Lib.hid hlk
    clear hlk
    obtain ⟨x1, hx1⟩ : ∃ y : Cl, y = { x with lk := true } := ⟨_, rfl⟩
    obtain ⟨U1, hU1⟩ : ∃ U, U = w1.setCell ⟨g, i * 9 + 7, none⟩ (.bool true) := ⟨_, rfl⟩
    have hp1 := HRO.out.put1 (y := x1) HI.out 7 (by omega) (.bool true) (by rw [hx1]; rfl)
    rw [← hU1] at hp1
    have HRO1 := Lib.hid hp1.1
    have HC1 := Lib.hid hp1.2
    have HI1 : Hid ((L.set i (k, x1))[i]? = some (k, x1)) := Lib.hid (List.getElem?_set_self (List.getElem?_eq_some_iff.1 HI.out).1)
    have HX1 := Lib.hid hx1
    have HU1 := Lib.hid hU1.symm
    clear hp1 hU1 hx1
    go_upto_region 10 with fail
    rw [HU1.out]
    clear q1 c7 zg zr f7
    have hat := HRO1.out.at_ HI1.out
    have q1 := cell_of_blk HRO1.out.blk 1
    have zr := HRO1.out.lt
    have c8 := hat.cells i (k, x1) HI1.out 8 _ rfl
    simp [kC] at q1 c8
    have zg := hat.lt
    have f8 := HRO1.out.fz (i * 9 + 8)
    obtain ⟨x2, hx2⟩ : ∃ y : Cl, y = { x1 with who := who } := ⟨_, rfl⟩
    obtain ⟨U2, hU2⟩ : ∃ U, U = U1.setCell ⟨g, i * 9 + 8, none⟩ (.int .i64 who) := ⟨_, rfl⟩
    have hp2 := HRO1.out.put1 (y := x2) HI1.out 8 (by omega) (.int .i64 who) (by rw [hx2]; rfl)
    rw [← hU2, List.set_set] at hp2
    have HRO2 := Lib.hid hp2.1
    have HC2 := Lib.hid hp2.2
    have HI2 : Hid ((L.set i (k, x2))[i]? = some (k, x2)) := Lib.hid (List.getElem?_set_self (List.getElem?_eq_some_iff.1 HI.out).1)
    have HX2 : Hid (x2 = lockT x who) := Lib.hid (by rw [hx2, HX1.out]; rfl)
    have HU2 := Lib.hid hU2.symm
    clear hp2 hU2 hx2 hat
    go_upto_region 11 with fail
    rw [HU2.out]
    clear q1 c8 zg zr f8
    have hat := HRO2.out.at_ HI2.out
    have q1 := cell_of_blk HRO2.out.blk 1
    have zr := HRO2.out.lt
    have c4 := hat.cells i (k, x2) HI2.out 4 _ rfl
    simp [kC] at q1 c4
    have zg := hat.lt
    clear hat
    go_wp2_with fail
    go_ret2
    have hC : Chg w U2 (RF rb (.slice (some ⟨g, 0, none⟩) n1 cap)) := (HC.out.trans HC1.out (fun j hj hs => hs.elim .inl (fun q => (HOB.out j q).elim .inr (fun q2 => absurd hj (by omega))))).trans HC2.out (fun j hj hs => hs.elim .inl (fun q => (HOB.out j q).elim .inr (fun q2 => absurd hj (by omega))))
    unfold RLk lockL
    rw [HLS.out]
    simp only
    rw [if_neg (by rw [HLKF.out]; decide)]
    refine ⟨by rw [HX2.out]; rfl, ⟨⟨.slice (some ⟨g, 0, none⟩) n1 cap, ?_, by rw [HN1.out] at HOB; rw [HN1.out]; exact HOB.out⟩, by rw [HN1.out] at hC; exact hC⟩⟩
    have h := HRO2.out
    rw [HX2.out, set_upd HI.out HFS.out] at h
    exact h

end Go.Proofs.Ytaanohgkdpohhaa
