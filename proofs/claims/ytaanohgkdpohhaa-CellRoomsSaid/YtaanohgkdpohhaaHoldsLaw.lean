/- CellHolds: the walk. Conditions: the theorem's own premises. -/
import Derived.Test.YtaanohgkdpohhaaCell12
import Derived.Test.YtaanohgkdpohhaaAwake9
import Derived.Test.YtaanohgkdpohhaaKyMem
namespace Go.Proofs.Ytaanohgkdpohhaa
open Go.RowKit Go.Maps

/-- of which nothing is so; of which one alone is so -/
theorem which_none {g : Ky → Option Cl} {p : Cl → Bool} {n : Nat} {w w' : World} {e : Ending} (h : WhichG g p n w e w') (hno : ∀ k c, g k = some c → p c = false) : ∃ a cap, e = .returned (.slice a 0 cap) ∧ Below w.heap.size w w' := by
  obtain ⟨v, ks, rfl, _, _, h4, h5, h6⟩ := h
  have e : ks = [] := List.eq_nil_iff_forall_not_mem.2 (fun k hk => by
    obtain ⟨c, h1, h2⟩ := (h4 k).1 hk
    rw [hno k c h1] at h2; cases h2)
  subst e
  obtain ⟨a, cap, rfl⟩ := h5.shape
  exact ⟨a, cap, rfl, h6⟩
theorem which_one {g : Ky → Option Cl} {p : Cl → Bool} {n : Nat} {w w' : World} {e : Ending} (h : WhichG g p n w e w') (k : Ky) (hone : ∀ k', (∃ c, g k' = some c ∧ p c = true) ↔ k' = k) :
    ∃ b cap, e = .returned (.slice (some ⟨b, 0, none⟩) 1 cap) ∧ Below w.heap.size w w' ∧ w.heap.size ≤ b ∧ w'.cell? ⟨b, 0, none⟩ = some (.int .i64 k.kind) ∧ w'.cell? ⟨b, 1, none⟩ = some (.int .i64 k.a) ∧ w'.cell? ⟨b, 2, none⟩ = some (.int .i64 k.b) ∧ w'.cell? ⟨b, 3, none⟩ = some (.string k.s) ∧ b < w'.heap.size := by
  obtain ⟨v, ks, rfl, h2, _, h4, h5, h6⟩ := h
  have e : ks = [k] := h2.uniq (List.pairwise_singleton _ _) (fun k' => by rw [h4, hone, List.mem_singleton])
  subst e
  obtain ⟨b, cap, rfl, hB, _, hat⟩ := h5.at' (by simp)
  have hc := fun j u hu => hat.cells 0 k rfl j u hu
  exact ⟨b, cap, rfl, h6, hB, by have := hc 0 _ rfl; simpa using this, by have := hc 1 _ rfl; simpa using this, by have := hc 2 _ rfl; simpa using this, by have := hc 3 _ rfl; simpa using this, hat.lt⟩
theorem held_none {g : Ky → Option Cl} {who : Int} (hno : ∀ k c, g k = some c → heldC who c = false) (s : Sto) (b : Nat) (w : World) (h : StC w s) (hb : s.sb = b) (hn : s.cnt ≤ 1000000) (hg : s.g = g := by rfl) :
    Calls Try.prog 28 #[.pointer (some ⟨b, 0, none⟩), .int .i64 who] w fun e w' => ∃ a cap, e = .returned (.slice a 0 cap) ∧ Below w.heap.size w w' :=
  (held_g s b who w h hb hn).mono fun _ _ hp => which_none hp (by rw [hg]; exact hno)
theorem held_one {g : Ky → Option Cl} {who : Int} (k : Ky) (hone : ∀ k', (∃ c, g k' = some c ∧ heldC who c = true) ↔ k' = k) (s : Sto) (b : Nat) (w : World) (h : StC w s) (hb : s.sb = b) (hn : s.cnt ≤ 1000000) (hg : s.g = g := by rfl) :
    Calls Try.prog 28 #[.pointer (some ⟨b, 0, none⟩), .int .i64 who] w fun e w' => ∃ a cap, e = .returned (.slice a 1 cap) ∧ Below w.heap.size w w' :=
  (held_g s b who w h hb hn).mono fun _ _ hp => by
    obtain ⟨b, cap, rfl, h2, _⟩ := which_one hp k (by rw [hg]; exact hone)
    exact ⟨_, _, rfl, h2⟩
theorem below_key {W w' : World} {b : Nat} {k : Ky} (h : W.cell? ⟨b, 0, none⟩ = some (.int .i64 k.kind) ∧ W.cell? ⟨b, 1, none⟩ = some (.int .i64 k.a) ∧ W.cell? ⟨b, 2, none⟩ = some (.int .i64 k.b) ∧ W.cell? ⟨b, 3, none⟩ = some (.string k.s) ∧ b < W.heap.size) (hb : Below W.heap.size W w') :
    w'.cell? ⟨b, 0, none⟩ = some (.int .i64 k.kind) ∧ w'.cell? ⟨b, 1, none⟩ = some (.int .i64 k.a) ∧ w'.cell? ⟨b, 2, none⟩ = some (.int .i64 k.b) ∧ w'.cell? ⟨b, 3, none⟩ = some (.string k.s) ∧ b < w'.heap.size :=
  ⟨below_cell hb 0 h.2.2.2.2 h.1, below_cell hb 1 h.2.2.2.2 h.2.1, below_cell hb 2 h.2.2.2.2 h.2.2.1, below_cell hb 3 h.2.2.2.2 h.2.2.2.1, Nat.lt_of_lt_of_le h.2.2.2.2 hb.size⟩
theorem unlockOk_one {g : Ky → Option Cl} {who : Int} {k : Ky} : unlockOk g who [k] [k].length ↔ holdsV (g k) who = true := by
  unfold unlockOk
  constructor
  · intro h
    exact (h 0 k (by simp) rfl).1
  · intro h i k' hi hk
    have : i = 0 := by simpa using hi
    subst this
    simp at hk
    subst hk
    exact ⟨h, by simp⟩

set_option maxRecDepth 100000 in
set_option maxHeartbeats 2000000 in
theorem holds_long (k : Ky) (a b : Int) (w : World) (hk : k.Ok) (hl : 300 < k.s.size) :
    Calls Try.prog 4 #[.agg #[.int .i64 k.kind, .int .i64 k.a, .int .i64 k.b, .string k.s], .int .i64 a, .int .i64 b] w fun e w' => e = .returned (.bool true) ∧ Below w.heap.size w w' := by
  have hks := hk.s
  unfold maxLen at hks
  have HB0 := Lib.hid (below_box w (.cells #[.int .i64 k.kind, .int .i64 k.a, .int .i64 k.b, .string k.s] 32))
  have HX := Lib.hid (cell_of_blk (heap_new w (.cells #[.int .i64 k.kind, .int .i64 k.a, .int .i64 k.b, .string k.s] 32)) 3)
  go_enter Try.func4, Try.ntmps4
  go_wp2_with fail
  refine (awake9_any _).mono ?_
  rintro e w1 ⟨rfl, hb1⟩
  have c3 := below_cell hb1 3 (by simp) HX.out
  simp at c3
  have HB1 := Lib.hid hb1
  clear hb1
  go_wp2_with fail
  refine (awake9_any _).mono ?_
  rintro e w2 ⟨rfl, hb2⟩
  have HB2 := Lib.hid hb2
  clear hb2
  go_wp2_with fail
  go_ret
  exact ⟨rfl, below_then (below_then HB0.out HB1.out) HB2.out⟩
/-- MAIN -/
theorem holdsV_some {x : Cl} {a : Int} (h1 : x.lk = true) (h2 : x.who = a) : holdsV (some x) a = true := by unfold holdsV; simp [h1, h2]
set_option maxRecDepth 100000 in
set_option maxHeartbeats 2000000 in
theorem holds_same (k : Ky) (a b : Int) (w : World) (hk : k.Ok) (ha : I64 a) (hl : k.s.size ≤ 300) (hab : (a == b) = true) :
    Calls Try.prog 4 #[.agg #[.int .i64 k.kind, .int .i64 k.a, .int .i64 k.b, .string k.s], .int .i64 a, .int .i64 b] w fun e w' => e = .returned (.bool true) ∧ Below w.heap.size w w' := by
  have HKO := Lib.hid hk
  have HB0 := Lib.hid (below_box w (.cells #[.int .i64 k.kind, .int .i64 k.a, .int .i64 k.b, .string k.s] 32))
  have HX := Lib.hid (heap_new w (.cells #[.int .i64 k.kind, .int .i64 k.a, .int .i64 k.b, .string k.s] 32))
  have hks := hk.s
  unfold maxLen at hks
  clear hk
  go_enter Try.func4, Try.ntmps4
  go_wp2_with fail
  refine (awake9_any _).mono ?_
  rintro e w1 ⟨rfl, hb1⟩
  have c3 := below_cell hb1 3 (by simp) (cell_of_blk HX.out 3)
  simp at c3
  have HB1 := Lib.hid (below_then HB0.out hb1)
  have X1 := Lib.hid ((hb1.block _ (by simp)).trans HX.out)
  clear hb1
  go_wp2_with fail
  refine (new_g 3 _ (by omega)).mono ?_
  rintro e w3 ⟨s1, rfl, hS1, g1, n1, c1, r1⟩
  have x3 : Bx w3 s1 w.heap.size (.cells #[.int .i64 k.kind, .int .i64 k.a, .int .i64 k.b, .string k.s] 32) := ⟨(hS1.bel.block _ (Array.getElem?_eq_some_iff.1 X1.out).1).trans X1.out, fun e => by have := hS1.own _ e; have := (Array.getElem?_eq_some_iff.1 X1.out).1; omega⟩
  obtain ⟨sb, hsb⟩ : ∃ b, s1.sb = b := ⟨_, rfl⟩
  rw [hsb]
  have G1 := Lib.hid g1
  have N1 := Lib.hid n1
  have R1 := Lib.hid r1
  have C1 := Lib.hid c1
  have B1 := Lib.hid hsb
  clear g1 n1 c1 r1 hsb c3
  obtain ⟨q0, q1, q2, q3, q4⟩ := x3.key
  have S1 := Lib.hid hS1
  have Y3 := Lib.hid x3
  clear hS1 x3
  go_wp2_with fail
  refine (lock_new_g s1 sb k a _ S1.out.st B1.out HKO.out ha (by rw [G1.out]) (by rw [N1.out, R1.out]; omega)).mono ?_
  rintro e w4 ⟨rfl, s2, p2⟩
  have S2 := Lib.hid (S1.out.gpost p2)
  have Y4 := Lib.hid (Y3.out.gpost p2)
  have G2 : Hid (s2.g = setG (fun _ => none) k (some ⟨0, true, true, ⟨#[]⟩, a⟩)) := Lib.hid (by rw [p2.g, G1.out])
  have K2 : Hid (s2.g k = some ⟨0, true, true, ⟨#[]⟩, a⟩) := Lib.hid (by rw [p2.g, setG_same])
  have N2 : Hid (s2.cnt = 1) := Lib.hid (by rw [p2.cnt, N1.out])
  have C2 : Hid (s2.c = 0) := Lib.hid (by rw [p2.c, C1.out])
  have R2 : Hid (s2.ar.room = 3) := Lib.hid (by rw [p2.room, R1.out])
  have B2 : Hid (s2.sb = sb) := Lib.hid (p2.sb.trans B1.out)
  clear p2 q0 q1 q2 q3 q4
  obtain ⟨q0, q1, q2, q3, q4⟩ := Y4.out.key
  go_wp2_with fail
  refine (lock_busy_g s2 sb k _ b _ S2.out.st B2.out HKO.out K2.out rfl).mono ?_
  rintro e w5 ⟨rfl, hb5⟩
  have S3 := Lib.hid (S2.out.below hb5)
  have Y5 := Lib.hid (Y4.out.below hb5)
  clear hb5 q0 q1 q2 q3 q4
  obtain ⟨q0, q1, q2, q3, q4⟩ := Y5.out.key
  go_wp2_with fail
  refine (read_g s2 sb k _ S3.out.st B2.out HKO.out).mono ?_
  rintro e w6 ⟨rfl, hb6⟩
  rw [K2.out]
  simp only [readV, if_true]
  have S4 := Lib.hid ((S3.out.below hb6).alloc (.cells #[.int .u64 0, .string ⟨#[]⟩, .bool false] 36))
  have Y6 := Lib.hid ((Y5.out.below hb6).alloc (.cells #[.int .u64 0, .string ⟨#[]⟩, .bool false] 36))
  have Y6' := Lib.hid (Y5.out.below hb6)
  clear hb6 q0 q1 q2 q3 q4
  obtain ⟨q0, q1, q2, q3, q4⟩ := Y6'.out.key
  have V4 := Lib.hid (ksv_new S4.out.st HKO.out)
  rw [size_alloc] at V4
  have S5 := Lib.hid (S4.out.alloc (.cells #[.int .i64 k.kind, .int .i64 k.a, .int .i64 k.b, .string k.s] 32))
  have Y7 := Lib.hid (Y6.out.alloc (.cells #[.int .i64 k.kind, .int .i64 k.a, .int .i64 k.b, .string k.s] 32))
  have E0 : Hid (unG s2.g [k] = (setG s2.g k none, 1)) := Lib.hid (by
    show unStep (s2.g, 0) k = _
    unfold unStep
    dsimp only
    rw [K2.out]
    rfl)
  have HAB : Hid (b = a) := Lib.hid (by have := hab; simp at this; exact this.symm)
  go_wp2_with fail
  refine (unlock_ok s2 sb 1 b (some ⟨w6.heap.size + 1, 0, none⟩) [k] _ S5.out.st B2.out V4.out (by simp) (by simp) (unlockOk_one.2 (by rw [K2.out]; exact holdsV_some rfl HAB.out.symm)) (by rw [C2.out]; simp)).mono ?_
  rintro e w7 ⟨rfl, s3, p3⟩
  have S6 := Lib.hid (S5.out.gpost p3)
  have N3 : Hid (s3.cnt = 0) := Lib.hid (by have := p3.cnt; rw [N2.out, E0.out] at this; simpa using this)
  have B3 : Hid (s3.sb = sb) := Lib.hid (p3.sb.trans B2.out)
  have d0 := cell_of_blk S6.out.st.blk 0
  rw [B3.out] at d0
  simp at d0
  clear p3 q0 q1 q2 q3 q4
  go_wp2_with (go_at_call 21; refine (len_s s3 _ S6.out.st).mono ?_; rintro e w8 ⟨rfl, rfl⟩; rw [N3.out])
  go_ret
  exact ⟨rfl, HB1.out.trans (S6.out.bel.mono HB1.out.size)⟩

set_option maxRecDepth 100000 in
set_option maxHeartbeats 4000000 in
theorem holds_other (k : Ky) (a b : Int) (w : World) (hk : k.Ok) (ha : I64 a) (hbI : I64 b) (hl : k.s.size ≤ 300) (hab : (a == b) = false) :
    Calls Try.prog 4 #[.agg #[.int .i64 k.kind, .int .i64 k.a, .int .i64 k.b, .string k.s], .int .i64 a, .int .i64 b] w fun e w' => e = .returned (.bool true) ∧ Below w.heap.size w w' := by
  have HKO := Lib.hid hk
  have HB0 := Lib.hid (below_box w (.cells #[.int .i64 k.kind, .int .i64 k.a, .int .i64 k.b, .string k.s] 32))
  have HX := Lib.hid (heap_new w (.cells #[.int .i64 k.kind, .int .i64 k.a, .int .i64 k.b, .string k.s] 32))
  have hks := hk.s
  unfold maxLen at hks
  clear hk
  go_enter Try.func4, Try.ntmps4
  go_wp2_with fail
  refine (awake9_any _).mono ?_
  rintro e w1 ⟨rfl, hb1⟩
  have c3 := below_cell hb1 3 (by simp) (cell_of_blk HX.out 3)
  simp at c3
  have HB1 := Lib.hid (below_then HB0.out hb1)
  have X1 := Lib.hid ((hb1.block _ (by simp)).trans HX.out)
  clear hb1
  go_wp2_with fail
  refine (new_g 3 _ (by omega)).mono ?_
  rintro e w3 ⟨s1, rfl, hS1, g1, n1, c1, r1⟩
  have x3 : Bx w3 s1 w.heap.size (.cells #[.int .i64 k.kind, .int .i64 k.a, .int .i64 k.b, .string k.s] 32) := ⟨(hS1.bel.block _ (Array.getElem?_eq_some_iff.1 X1.out).1).trans X1.out, fun e => by have := hS1.own _ e; have := (Array.getElem?_eq_some_iff.1 X1.out).1; omega⟩
  obtain ⟨sb, hsb⟩ : ∃ b, s1.sb = b := ⟨_, rfl⟩
  rw [hsb]
  have G1 := Lib.hid g1
  have N1 := Lib.hid n1
  have R1 := Lib.hid r1
  have C1 := Lib.hid c1
  have B1 := Lib.hid hsb
  clear g1 n1 c1 r1 hsb c3
  obtain ⟨q0, q1, q2, q3, q4⟩ := x3.key
  have S1 := Lib.hid hS1
  have Y3 := Lib.hid x3
  clear hS1 x3
  go_wp2_with fail
  refine (lock_new_g s1 sb k a _ S1.out.st B1.out HKO.out ha (by rw [G1.out]) (by rw [N1.out, R1.out]; omega)).mono ?_
  rintro e w4 ⟨rfl, s2, p2⟩
  have S2 := Lib.hid (S1.out.gpost p2)
  have Y4 := Lib.hid (Y3.out.gpost p2)
  have G2 : Hid (s2.g = setG (fun _ => none) k (some ⟨0, true, true, ⟨#[]⟩, a⟩)) := Lib.hid (by rw [p2.g, G1.out])
  have K2 : Hid (s2.g k = some ⟨0, true, true, ⟨#[]⟩, a⟩) := Lib.hid (by rw [p2.g, setG_same])
  have N2 : Hid (s2.cnt = 1) := Lib.hid (by rw [p2.cnt, N1.out])
  have C2 : Hid (s2.c = 0) := Lib.hid (by rw [p2.c, C1.out])
  have R2 : Hid (s2.ar.room = 3) := Lib.hid (by rw [p2.room, R1.out])
  have B2 : Hid (s2.sb = sb) := Lib.hid (p2.sb.trans B1.out)
  clear p2 q0 q1 q2 q3 q4
  obtain ⟨q0, q1, q2, q3, q4⟩ := Y4.out.key
  go_wp2_with fail
  refine (lock_busy_g s2 sb k _ b _ S2.out.st B2.out HKO.out K2.out rfl).mono ?_
  rintro e w5 ⟨rfl, hb5⟩
  have S3 := Lib.hid (S2.out.below hb5)
  have Y5 := Lib.hid (Y4.out.below hb5)
  clear hb5 q0 q1 q2 q3 q4
  obtain ⟨q0, q1, q2, q3, q4⟩ := Y5.out.key
  go_wp2_with fail
  refine (read_g s2 sb k _ S3.out.st B2.out HKO.out).mono ?_
  rintro e w6 ⟨rfl, hb6⟩
  rw [K2.out]
  simp only [readV, if_true]
  have S4 := Lib.hid ((S3.out.below hb6).alloc (.cells #[.int .u64 0, .string ⟨#[]⟩, .bool false] 36))
  have Y6 := Lib.hid ((Y5.out.below hb6).alloc (.cells #[.int .u64 0, .string ⟨#[]⟩, .bool false] 36))
  have Y6' := Lib.hid (Y5.out.below hb6)
  clear hb6 q0 q1 q2 q3 q4
  obtain ⟨q0, q1, q2, q3, q4⟩ := Y6'.out.key
  have V4 := Lib.hid (ksv_new S4.out.st HKO.out)
  rw [size_alloc] at V4
  have S5 := Lib.hid (S4.out.alloc (.cells #[.int .i64 k.kind, .int .i64 k.a, .int .i64 k.b, .string k.s] 32))
  have Y7 := Lib.hid (Y6.out.alloc (.cells #[.int .i64 k.kind, .int .i64 k.a, .int .i64 k.b, .string k.s] 32))
  have HNE : Hid (¬ a = b) := Lib.hid (by simpa using hab)
  go_wp2_with fail
  refine (unlock_stale s2 sb 1 b (some ⟨w6.heap.size + 1, 0, none⟩) [k] _ S5.out.st B2.out V4.out (by simp) (by simp) (fun hu => by have := unlockOk_one.1 hu; rw [K2.out] at this; unfold holdsV at this; simp at this; exact HNE.out this)).mono ?_
  rintro e w7 ⟨rfl, hb7⟩
  have S6 := Lib.hid (S5.out.below hb7)
  have Y8 := Lib.hid (Y7.out.below hb7)
  clear hb7 q0 q1 q2 q3 q4
  go_wp2_with fail
  refine (held_g s2 sb a _ S6.out.st B2.out (by rw [N2.out]; omega)).mono ?_
  intro e w8 hw8
  obtain ⟨lb, lc, rfl, hb8, hlb, hlk⟩ := which_one hw8 k (fun k' => by
    rw [G2.out]
    by_cases e : k' = k
    · subst e; rw [setG_same]; simp [heldC]
    · rw [setG_other _ _ e]; simp [e])
  have S7 := Lib.hid (S6.out.below hb8)
  have Y9 := Lib.hid (Y8.out.below hb8)
  have L9 := Lib.hid hlk
  have LO : Hid (¬ s2.fp lb) := Lib.hid (fun e => by have := S6.out.st.lt e; omega)
  clear hw8 hb8 hlk hlb
  obtain ⟨q0, q1, q2, q3, q4⟩ := Y9.out.key
  have V8 := Lib.hid (ksv_new S7.out.st HKO.out)
  have S8 := Lib.hid (S7.out.alloc (.cells #[.int .i64 k.kind, .int .i64 k.a, .int .i64 k.b, .string k.s] 32))
  have Y10 := Lib.hid (Y9.out.alloc (.cells #[.int .i64 k.kind, .int .i64 k.a, .int .i64 k.b, .string k.s] 32))
  have L10 := Lib.hid (below_key L9.out (below_box w8 (.cells #[.int .i64 k.kind, .int .i64 k.a, .int .i64 k.b, .string k.s] 32)))
  have E0 : Hid (unG s2.g [k] = (setG s2.g k none, 1)) := Lib.hid (by
    show unStep (s2.g, 0) k = _
    unfold unStep
    dsimp only
    rw [K2.out]
    rfl)
  go_wp2_with fail
  refine (unlock_ok s2 sb 1 a (some ⟨w8.heap.size, 0, none⟩) [k] _ S8.out.st B2.out V8.out (by simp) (by simp) (unlockOk_one.2 (by rw [K2.out]; exact holdsV_some rfl rfl)) (by rw [C2.out]; simp)).mono ?_
  rintro e w9 ⟨rfl, s3, p3⟩
  have S9 := Lib.hid (S8.out.gpost p3)
  have Y11 := Lib.hid (Y10.out.gpost p3)
  have N3 : Hid (s3.cnt = 0) := Lib.hid (by have := p3.cnt; rw [N2.out, E0.out] at this; simpa using this)
  have G3 : Hid (s3.g k = none) := Lib.hid (by rw [p3.g, E0.out]; exact setG_same _ _ _)
  have G3' : Hid (s3.g = setG s2.g k none) := Lib.hid (by rw [p3.g, E0.out])
  have R3 : Hid (s3.ar.room = 3) := Lib.hid (p3.room.trans R2.out)
  have B3 : Hid (s3.sb = sb) := Lib.hid (p3.sb.trans B2.out)
  have LB := Lib.hid (p3.out L10.out.2.2.2.2 LO.out)
  clear p3 q0 q1 q2 q3 q4
  obtain ⟨q0, q1, q2, q3, q4⟩ := Y11.out.key
  go_wp2_with fail
  refine (lock_new_g s3 sb k b _ S9.out.st B3.out HKO.out hbI G3.out (by rw [N3.out, R3.out]; omega)).mono ?_
  rintro e W ⟨rfl, s4, p4⟩
  have SW := Lib.hid (S9.out.gpost p4)
  have YW := Lib.hid (Y11.out.gpost p4)
  have G4 : Hid (s4.g = setG (setG s2.g k none) k (some ⟨0, true, true, ⟨#[]⟩, b⟩)) := Lib.hid (by rw [p4.g, G3'.out])
  have N4 : Hid (s4.cnt = 1) := Lib.hid (by rw [p4.cnt, N3.out])
  have B4 : Hid (s4.sb = sb) := Lib.hid (p4.sb.trans B3.out)
  have LBW := Lib.hid (p4.chg.block lb (by have := LB.out.1; exact (Array.getElem?_eq_some_iff.1 (this.trans (Array.getElem?_eq_getElem L10.out.2.2.2.2))).1) LB.out.2)
  clear p4 q0 q1 q2 q3 q4
  have LW : Hid (W.cell? ⟨lb, 0, none⟩ = some (.int .i64 k.kind) ∧ W.cell? ⟨lb, 1, none⟩ = some (.int .i64 k.a) ∧ W.cell? ⟨lb, 2, none⟩ = some (.int .i64 k.b) ∧ W.cell? ⟨lb, 3, none⟩ = some (.string k.s) ∧ lb < W.heap.size) := Lib.hid (by
    have hbb := LBW.out.trans LB.out.1
    have hcc : ∀ i, W.cell? ⟨lb, i, none⟩ = (w8.alloc (.cells #[.int .i64 k.kind, .int .i64 k.a, .int .i64 k.b, .string k.s] 32)).cell? ⟨lb, i, none⟩ := fun i => World.cell?_of_block (a := ⟨lb, i, none⟩) hbb
    obtain ⟨c0, c1, c2, c3, c4⟩ := L10.out
    exact ⟨(hcc 0).trans c0, (hcc 1).trans c1, (hcc 2).trans c2, (hcc 3).trans c3, (Array.getElem?_eq_some_iff.1 (hbb.trans (Array.getElem?_eq_getElem c4))).1⟩)
  have hE := eqKy k k
  rw [Ky.eqB_true rfl] at hE
  have hks2 : ∀ w', Below W.heap.size W w' → Below W.heap.size W w' ∧ (w'.cell? ⟨lb, 0, none⟩ = some (.int .i64 k.kind) ∧ w'.cell? ⟨lb, 1, none⟩ = some (.int .i64 k.a) ∧ w'.cell? ⟨lb, 2, none⟩ = some (.int .i64 k.b) ∧ w'.cell? ⟨lb, 3, none⟩ = some (.string k.s) ∧ lb < w'.heap.size) ∧ w'.cell? ⟨w.heap.size, 0, none⟩ = some (.int .i64 k.kind) ∧ w'.cell? ⟨w.heap.size, 1, none⟩ = some (.int .i64 k.a) ∧ w'.cell? ⟨w.heap.size, 2, none⟩ = some (.int .i64 k.b) ∧ w'.cell? ⟨w.heap.size, 3, none⟩ = some (.string k.s) ∧ w.heap.size < w'.heap.size :=
    fun w' hb => ⟨hb, below_key LW.out hb, below_key YW.out.key hb⟩
  have KS := Lib.hid hks2
  clear hks2
  have HN : Hid (∀ k' c, s4.g k' = some c → heldC a c = false) := Lib.hid (fun k' c hc => by
    rw [G4.out] at hc
    by_cases e : k' = k
    · subst e; rw [setG_same] at hc; cases hc; simp [heldC]; exact fun e => HNE.out e.symm
    · rw [setG_other _ _ e, setG_other _ _ e, G2.out, setG_other _ _ e] at hc; cases hc)
  have HO : Hid (∀ k', (∃ c, s4.g k' = some c ∧ heldC b c = true) ↔ k' = k) := Lib.hid (fun k' => by
    rw [G4.out]
    by_cases e : k' = k
    · subst e; rw [setG_same]; simp [heldC]
    · rw [setG_other _ _ e, setG_other _ _ e, G2.out, setG_other _ _ e]; simp [e])
  go_wp2_with fail
  go_region_held3 (fun w' => Below W.heap.size W w' ∧ (w'.cell? ⟨lb, 0, none⟩ = some (.int .i64 k.kind) ∧ w'.cell? ⟨lb, 1, none⟩ = some (.int .i64 k.a) ∧ w'.cell? ⟨lb, 2, none⟩ = some (.int .i64 k.b) ∧ w'.cell? ⟨lb, 3, none⟩ = some (.string k.s) ∧ lb < w'.heap.size) ∧ w'.cell? ⟨w.heap.size, 0, none⟩ = some (.int .i64 k.kind) ∧ w'.cell? ⟨w.heap.size, 1, none⟩ = some (.int .i64 k.a) ∧ w'.cell? ⟨w.heap.size, 2, none⟩ = some (.int .i64 k.b) ∧ w'.cell? ⟨w.heap.size, 3, none⟩ = some (.string k.s) ∧ w.heap.size < w'.heap.size)
    (first | exact KS.out _ (Below.refl _ _).drew | (go_split_ands; refine KS.out _ (below_then ?_ hbc); assumption))
    (first | (go_at_call 28; go_split_ands; (with_reducible refine (held_none (HN.out) s4 sb _ (StC.stay SW.out.st ?hbw9) B4.out (by rw [N4.out]; omega)).mono ?_); (case hbw9 => assumption); rintro e wc ⟨la, lc2, rfl, hbc⟩) | (go_at_call 28; go_split_ands; (with_reducible refine (held_one k (HO.out) s4 sb _ (StC.stay SW.out.st ?hbw8) B4.out (by rw [N4.out]; omega)).mono ?_); (case hbw8 => assumption); rintro e wc ⟨la, lc2, rfl, hbc⟩))
  all_goals
    go_split_ands
    go_wp2_with fail
    go_ret
    exact ⟨rfl, HB1.out.trans ((SW.out.bel.mono HB1.out.size).trans (Below.mono (by assumption) (Nat.le_trans HB1.out.size SW.out.bel.size)))⟩
theorem holds_law (k : Ky) (a b : Int) (w : World) (hk : k.Ok) (ha : I64 a) (hb : I64 b) :
    Calls Try.prog 4 #[.agg #[.int .i64 k.kind, .int .i64 k.a, .int .i64 k.b, .string k.s], .int .i64 a, .int .i64 b] w fun e w' => e = .returned (.bool true) ∧ Below w.heap.size w w' := by
  by_cases hl : k.s.size ≤ 300
  · cases hab : (a == b)
    · exact holds_other k a b w hk ha hb hl hab
    · exact holds_same k a b w hk ha hl hab
  · exact holds_long k a b w hk (by omega)
end Go.Proofs.Ytaanohgkdpohhaa
