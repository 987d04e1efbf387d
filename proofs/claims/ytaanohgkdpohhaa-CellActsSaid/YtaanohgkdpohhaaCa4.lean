/- CellActs: whatever is done to cells. Conditions: each lemma's own premises. -/
import Derived.Test.YtaanohgkdpohhaaCa3
import Derived.Test.YtaanohgkdpohhaaAwake9
namespace Go.Proofs.Ytaanohgkdpohhaa
open Go.RowKit Go.Maps

theorem wpAnyH_nar9 {P : Program} {md : Region.Mode} {ops : Array Oper} {Q : Exit → Act → World → Prop} {S S' : World → Prop} (hs : ∀ w, S' w → S w) :
    ∀ (fuel : Nat) (listed : Array Bool) (a : Act) (w : World), wpAnyH P md ops Q S' fuel listed a w → wpAnyH P md ops Q S fuel listed a w
  | 0, _, _, _, h => h
  | fuel + 1, _, _, _, h => ⟨h.1, fun i hi => wpOp_mono (fun a' w' h' => ⟨hs _ h'.1, wpAnyH_nar9 hs fuel _ a' w' h'.2⟩) (h.2 i hi)⟩
theorem live_t (s : Sto) (w : World) (h : StC w s) (x g : Int) (hx : I64 x) (hv : s.ar.live x g = true) : Calls Try.prog 25 #[.pointer (some ⟨s.ab, 0, none⟩), .agg #[.int .i64 x, .int .i64 g]] w fun e w' => e = .returned (.bool true) ∧ Below w.heap.size w w' := by
  rw [← hv]
  exact live_any s.ab s.bg s.bt s.v s.ar s.c w x g hx h.ar
section
variable {W w : World} {s : Sto} {sb rb room i : Nat} {v : Value} {L : List (Ky × Cl)}
theorem CB.oks (h : CB W w s sb rb room v L i) : ∀ q ∈ L, q.1.Ok := fun q hq => by
  have h1 := mem_look h.sr.nd (show (q.1, q.2) ∈ L from hq)
  rw [← h.sr.g] at h1
  obtain ⟨y, hy, _⟩ := Sto.g_some h1
  exact (h.cm.st.st.slot _ _ hy).1
/-- what a list of keys in order leaves -/
def KQ (w : World) (l : List Ky) (e : Ending) (w' : World) : Prop := ∃ (a : Option Addr) (c : Nat), e = .returned (.slice a l.length c) ∧ kK.V w' a l ∧ Below w.heap.size w w'
theorem kq_own {w w' : World} {l : List Ky} {v : Value} (ho : kK.Own w' w.heap.size v l) (hb : Below w.heap.size w w') : KQ w l (.returned v) w' := by
  obtain ⟨a, c, rfl⟩ := ho.shape
  exact ⟨a, c, rfl, ho.toV, hb⟩
theorem pheld (h : CB W w s sb rb room v L i) (hi : i ≤ 1000) (who : Int) : Calls Try.prog 28 #[.pointer (some ⟨sb, 0, none⟩), .int .i64 who] w (KQ w (keysL (heldC who) L)) := by
  refine (held_g s sb who w h.cm.st.st h.cm.hsb (by have := h.sr.cnt; have := h.hl; omega)).mono ?_
  rintro e w' ⟨v, ks, rfl, h1, _, h2, h3, h4⟩
  rw [← h.sr.keys h1 h2]
  exact kq_own h3 h4
theorem pkeys (h : CB W w s sb rb room v L i) (hi : i ≤ 1000) : Calls Try.prog 26 #[.pointer (some ⟨sb, 0, none⟩)] w (KQ w (keysL hasC L)) := by
  refine (keys_g s sb w h.cm.st.st h.cm.hsb (by have := h.sr.cnt; have := h.hl; omega)).mono ?_
  rintro e w' ⟨v, ks, rfl, h1, _, h2, h3, h4⟩
  rw [← h.sr.keys h1 h2]
  exact kq_own h3 h4
theorem qheld (h : CB W w s sb rb room v L i) (who : Int) : Calls Try.prog 32 #[.pointer (some ⟨rb, 0, none⟩), .int .i64 0, .int .i64 who] w (KQ w (keysL (heldC who) L)) := by
  obtain ⟨a, cap, _, hv⟩ := h.cm.rv
  refine (rkeys0_any rb cap room a L who w hv (fun q hq => (h.oks q hq).s)).mono ?_
  rintro e w' ⟨v, rfl, h3, h4⟩
  exact kq_own h3 h4
theorem qkeys (h : CB W w s sb rb room v L i) : Calls Try.prog 32 #[.pointer (some ⟨rb, 0, none⟩), .int .i64 1, .int .i64 0] w (KQ w (keysL hasC L)) := by
  obtain ⟨a, cap, _, hv⟩ := h.cm.rv
  refine (rkeys1_any rb cap room a L 0 w hv (fun q hq => (h.oks q hq).s)).mono ?_
  rintro e w' ⟨v, rfl, h3, h4⟩
  exact kq_own h3 h4
theorem kv_below {w w' : World} {a : Option Addr} {l : List Ky} (h : kK.V w a l) (hb : Below w.heap.size w w') : kK.V w' a l := h.below hb
theorem keysL_le (h : CB W w s sb rb room v L i) (hi : i ≤ 1000) (p : Cl → Bool) : (keysL p L).length ≤ 2000000 := by
  have h1 := keysL_len p L
  have h2 := h.hl
  omega
/-- what a round leaves known of the world -/
theorem CB.cells (h : CB W w s sb rb room v L i) : w.cell? ⟨sb, 0, none⟩ = some (.pointer (some ⟨s.ab, 0, none⟩)) ∧ w.cell? ⟨rb, 1, none⟩ = some v := by
  refine ⟨?_, ?_⟩
  · have := cell_of_blk h.cm.st.st.blk 0
    rw [h.cm.hsb] at this
    exact this
  · rw [cell_of_blk h.cm.ro.blk]; rfl
end
def AcRel (W : World) (sb rb rm n : Nat) (iv : Value) (wr : World) : Prop := ∃ (i : Nat) (s : Sto) (v : Value) (L : List (Ky × Cl)), iv = .int .i64 (i : Int) ∧ i ≤ n ∧ Hid (CB W wr s sb rb rm v L i)
set_option maxRecDepth 100000 in
set_option maxHeartbeats 16000000 in
theorem cacts_walk (rm : Nat) (a1 : Option Addr) (n cap : Nat) (w : World) (hrm : rm ≤ 1048576) (hn : n ≤ 80) (hat : ∀ i, i < n → ActAt9 w a1 i) :
    Calls Try.prog 5 #[.int .i64 (rm : Int), .slice a1 n cap] w fun e w' => e = .returned (.bool true) ∧ Below w.heap.size w w' := by
  have HRM := Lib.hid hrm
  have HAT := Lib.hid hat
  have t0 : decide ((80 : Int) < (n : Int)) = false := decide_eq_false (by omega)
  have t1 : decide (80 < n) = false := decide_eq_false (by omega)
  have t2 : decide ((rm : Int) < 0) = false := decide_eq_false (by omega)
  have t3 : decide ((1048576 : Int) < (rm : Int)) = false := decide_eq_false (by omega)
  have t4 : decide (1048576 < rm) = false := decide_eq_false (by omega)
  clear hrm hat
  go_enter Try.func5, Try.ntmps5
  go_wp2_with fail
  refine (awake9_any _).mono ?_
  rintro e W ⟨rfl, hb0⟩
  have HAW : Hid (∀ i, i < n → ActAt9 W a1 i) := Lib.hid (fun i hi => (HAT.out i hi).below hb0)
  have HB00 := Lib.hid hb0
  clear hb0 HAT
  go_wp2_with fail
  refine (new_g rm _ HRM.out).mono ?_
  rintro e w1 ⟨s1, rfl, hS1, g1, n1, c1, r1⟩
  obtain ⟨sb, hsb⟩ : ∃ b, s1.sb = b := ⟨_, rfl⟩
  rw [hsb]
  have HS1 := Lib.hid hS1
  have HC1 := Lib.hid (And.intro g1 (And.intro n1 (And.intro c1 (And.intro r1 hsb))))
  clear hS1 g1 n1 c1 r1 hsb
  go_upto_region 9 with fail
  clear t0 t1 t2 t3 t4
  obtain ⟨rb, hrb⟩ : ∃ b, b = w1.heap.size := ⟨_, rfl⟩
  obtain ⟨u1, hu1⟩ : ∃ u, u = w1.alloc (.cells #[.int .i64 (rm : Int), .slice none 0 0] 61) := ⟨_, rfl⟩
  rw [← hu1, ← hrb]
  have HCB1 : Hid (CB W u1 s1 sb rb rm (.slice none 0 0) [] 0) := Lib.hid (by
    obtain ⟨g1, n1, c1, r1, e1⟩ := HC1.out
    refine ⟨⟨by rw [hu1]; exact HS1.out.alloc _, e1, r1, ⟨by rw [hu1, hrb]; exact heap_new _ _, RowK.Own.nil kC _ _, by simp⟩, by rw [hrb]; exact HS1.out.bel.size⟩, ⟨by rw [g1]; funext k; rfl, by rw [n1]; rfl, by simp⟩, by omega, by simp⟩)
  clear hu1 hrb HC1 HS1
  go_wp2_with fail
  go_loopw [8] (fun iv wr => AcRel W sb rb rm n iv wr) (fun iv _ => n - (intOf iv).toNat)
  case atStart => exact ⟨0, s1, _, [], rfl, Nat.zero_le _, HCB1⟩
  case round =>
    obtain ⟨i, s, v, L, rfl, hi, HCB⟩ := hrel
    by_cases hlt : i < n
    · have HI : Hid (i < 80) := Lib.hid (by omega)
      obtain ⟨x, actb, aoff, rfl, hal', hao, q0, q1, q2, q3, q4, q5, q6, q7, q8, q9, q10⟩ := HAW.out i hlt
      have hal : actb < wr.heap.size := Nat.lt_of_lt_of_le hal' HCB.out.cm.st.bel.size
      have e : ∀ j, W.cell? ⟨actb, j, none⟩ = wr.cell? ⟨actb, j, none⟩ := fun j => (HCB.out.cm.st.bel.cell (p := ⟨actb, j, none⟩) hal').symm
      rw [e] at q0 q1 q2 q3 q4 q5 q6 q7 q8 q9 q10
      have HXW := Lib.hid hao
      have hn80 : n ≤ 80 := hn
      clear e hal'
      clear hao
      go_upto_region 13 with fail
      clear q0 q1 q2 q3 q4 q5 q6 q7 q8 q9 q10 hal
      obtain ⟨ab, hab⟩ : ∃ b, b = wr.heap.size := ⟨_, rfl⟩
      obtain ⟨u0, hu0⟩ : ∃ u, u = wr.alloc (.cells #[.int .i64 x.kind, .int .i64 x.who, .int .i64 x.k.kind, .int .i64 x.k.a, .int .i64 x.k.b, .string x.k.s, .slice x.ka x.ks.length x.kc, .int .u64 x.stamp, .int .u64 x.vw, .string x.vs, .bool x.vh] 63) := ⟨_, rfl⟩
      rw [← hu0, ← hab]
      have HX0 : Hid (AcBox u0 ab x) := Lib.hid (by unfold AcBox; rw [hu0, hab]; exact heap_new wr _)
      have HB0 : Hid (CB W u0 s sb rb rm v L i) := Lib.hid (HCB.out.below (by rw [hu0]; exact below_box _ _))
      clear hu0 hab
      obtain ⟨p0, p1, p2, p3, p4, p5, p6, p7, p8, p9, p10⟩ := HX0.out.cells
      have hla := HX0.out.lt
      go_wp2_with fail
      refine (small9_any x u0 (HXW.out.below HB0.out.cm.st.bel)).mono ?_
      rintro e wa ⟨sm, rfl, hsm, hba⟩
      have HBa := Lib.hid (HB0.out.below hba)
      have HXa := Lib.hid (HX0.out.keep (Keep.of_below hba))
      have HSM := Lib.hid hsm
      clear hba hsm p0 p1 p2 p3 p4 p5 p6 p7 p8 p9 p10 hla
      cases sm
      case false =>
        go_wp2_with fail
        go_ret
        exact ⟨rfl, below_then HB00.out HBa.out.cm.st.bel⟩
      case true =>
      go_upto_region 15 with fail
      have HXD : Hid (AcBox wa.drew ab x) := Lib.hid (HXa.out.keep (Keep.of_below (Below.refl _ _).drew))
      have HDO := Lib.hid (does_any s sb rb rm i v L x W wa.drew (HBa.out.below (Below.refl _ _).drew) (by have := HI.out; omega) HXW.out (HSM.out trivial))
      refine wp_region_held_drew (S := (fun w' : World => w'.cell? ⟨ab, 0, none⟩ = some (.int .i64 x.kind) ∧ w'.cell? ⟨ab, 1, none⟩ = some (.int .i64 x.who) ∧ w'.cell? ⟨ab, 2, none⟩ = some (.int .i64 x.k.kind) ∧ w'.cell? ⟨ab, 3, none⟩ = some (.int .i64 x.k.a) ∧ w'.cell? ⟨ab, 4, none⟩ = some (.int .i64 x.k.b) ∧ w'.cell? ⟨ab, 5, none⟩ = some (.string x.k.s) ∧ w'.cell? ⟨ab, 6, none⟩ = some (.slice x.ka x.ks.length x.kc) ∧ w'.cell? ⟨ab, 7, none⟩ = some (.int .u64 x.stamp) ∧ w'.cell? ⟨ab, 8, none⟩ = some (.int .u64 x.vw) ∧ w'.cell? ⟨ab, 9, none⟩ = some (.string x.vs) ∧ w'.cell? ⟨ab, 10, none⟩ = some (.bool x.vh))) (by kernel_rfl) (HXD.out.cells) (fun hHeld => ?_)
      refine wpAnyH_take (i := 0) (oi := ⟨some 62, _, _, _, _, _⟩) (v := ?vvra1) rfl (by kernel_rfl) (by kernel_rfl) (by kernel_rfl) (fun _ _ _ h => h) (Or.inl ⟨by rfl, ?yyra1⟩) hHeld ?rrra1
      case yyra1 => (intro wq hSw; (try dsimp only at hSw); go_simp; first | done | with_reducible rfl)
      simp only [Act.put, List.setIfInBounds_toArray, List.set_cons_zero, List.set_cons_succ]
      refine wpAnyH_take (i := 1) (oi := ⟨some 63, _, _, _, _, _⟩) (v := ?vvra2) rfl (by kernel_rfl) (by kernel_rfl) (by kernel_rfl) (fun _ _ _ h => h) (Or.inl ⟨by rfl, ?yyra2⟩) hHeld ?rrra2
      case yyra2 => (intro wq hSw; (try dsimp only at hSw); go_simp; first | done | with_reducible rfl)
      simp only [Act.put, List.setIfInBounds_toArray, List.set_cons_zero, List.set_cons_succ]
      refine wpAnyH_take (i := 2) (oi := ⟨some 64, _, _, _, _, _⟩) (v := ?vvra3) rfl (by kernel_rfl) (by kernel_rfl) (by kernel_rfl) (fun _ _ _ h => h) (Or.inl ⟨by rfl, ?yyra3⟩) hHeld ?rrra3
      case yyra3 => (intro wq hSw; (try dsimp only at hSw); go_simp; first | done | with_reducible rfl)
      simp only [Act.put, List.setIfInBounds_toArray, List.set_cons_zero, List.set_cons_succ]
      refine wpAnyH_ready (rs := [3]) (by kernel_rfl) (by simp) ?_
      refine AllReadyH.cons (o := ⟨some 65, _, _, _, _, _⟩) rfl (fun K hK => ?_) AllReadyH.nil
      go_simp
      refine HDO.out.mono ?_
      rintro e w5 ⟨rfl, hk5, s2, v2, L2, hb5⟩
      obtain ⟨va2, vc2, hve, _⟩ := hb5.cm.rv
      subst hve
      obtain ⟨n2, hn2⟩ : ∃ n, n = L2.length := ⟨_, rfl⟩
      rw [← hn2] at hb5
      obtain ⟨sa2, hsa2⟩ : ∃ a, a = s2.ab := ⟨_, rfl⟩
      have HN2 := Lib.hid hn2
      have HSA := Lib.hid hsa2
      have HB5 := Lib.hid hb5
      have HX5 := Lib.hid (HXD.out.keep hk5)
      have HSC : Hid (w5.cell? ⟨sb, 0, none⟩ = some (.pointer (some ⟨sa2, 0, none⟩)) ∧ w5.cell? ⟨rb, 1, none⟩ = some (.slice va2 n2 vc2)) := Lib.hid (by have h := hb5.cells; rw [← hsa2] at h; exact h)
      have hle2 : n2 ≤ rm := by have h1 := hb5.cm.st.st.cnt_le.1; have h2 := hb5.cm.hroom; have h3 := hb5.sr.cnt; omega
      have tl : decide ((rm : Int) < (n2 : Int)) = false := decide_eq_false (by omega)
      have tl2 : decide (rm < n2) = false := decide_eq_false (by omega)
      clear hk5 hb5 hn2 hsa2 hle2
      dsimp only
      refine hK.out _ _ ?ssra4 (fun hHeld => ?_)
      case ssra4 => (exact HX5.out.cells)
      clear hK K
      try simp only [Act.put, List.setIfInBounds_toArray, List.set_cons_zero, List.set_cons_succ]
      refine wpAnyH_nar9 (S' := (fun w' : World => w'.cell? ⟨ab, 0, none⟩ = some (.int .i64 x.kind) ∧ w'.cell? ⟨ab, 1, none⟩ = some (.int .i64 x.who) ∧ w'.cell? ⟨ab, 2, none⟩ = some (.int .i64 x.k.kind) ∧ w'.cell? ⟨ab, 3, none⟩ = some (.int .i64 x.k.a) ∧ w'.cell? ⟨ab, 4, none⟩ = some (.int .i64 x.k.b) ∧ w'.cell? ⟨ab, 5, none⟩ = some (.string x.k.s) ∧ w'.cell? ⟨ab, 6, none⟩ = some (.slice x.ka x.ks.length x.kc) ∧ w'.cell? ⟨ab, 7, none⟩ = some (.int .u64 x.stamp) ∧ w'.cell? ⟨ab, 8, none⟩ = some (.int .u64 x.vw) ∧ w'.cell? ⟨ab, 9, none⟩ = some (.string x.vs) ∧ w'.cell? ⟨ab, 10, none⟩ = some (.bool x.vh) ∧ w'.cell? ⟨sb, 0, none⟩ = some (.pointer (some ⟨sa2, 0, none⟩)) ∧ w'.cell? ⟨rb, 1, none⟩ = some (.slice va2 n2 vc2))) (fun _ h => ⟨h.1, h.2.1, h.2.2.1, h.2.2.2.1, h.2.2.2.2.1, h.2.2.2.2.2.1, h.2.2.2.2.2.2.1, h.2.2.2.2.2.2.2.1, h.2.2.2.2.2.2.2.2.1, h.2.2.2.2.2.2.2.2.2.1, h.2.2.2.2.2.2.2.2.2.2.1⟩) _ _ _ _ ?_
      replace hHeld : (fun w' : World => w'.cell? ⟨ab, 0, none⟩ = some (.int .i64 x.kind) ∧ w'.cell? ⟨ab, 1, none⟩ = some (.int .i64 x.who) ∧ w'.cell? ⟨ab, 2, none⟩ = some (.int .i64 x.k.kind) ∧ w'.cell? ⟨ab, 3, none⟩ = some (.int .i64 x.k.a) ∧ w'.cell? ⟨ab, 4, none⟩ = some (.int .i64 x.k.b) ∧ w'.cell? ⟨ab, 5, none⟩ = some (.string x.k.s) ∧ w'.cell? ⟨ab, 6, none⟩ = some (.slice x.ka x.ks.length x.kc) ∧ w'.cell? ⟨ab, 7, none⟩ = some (.int .u64 x.stamp) ∧ w'.cell? ⟨ab, 8, none⟩ = some (.int .u64 x.vw) ∧ w'.cell? ⟨ab, 9, none⟩ = some (.string x.vs) ∧ w'.cell? ⟨ab, 10, none⟩ = some (.bool x.vh) ∧ w'.cell? ⟨sb, 0, none⟩ = some (.pointer (some ⟨sa2, 0, none⟩)) ∧ w'.cell? ⟨rb, 1, none⟩ = some (.slice va2 n2 vc2)) w5 := ⟨HX5.out.cells.1, HX5.out.cells.2.1, HX5.out.cells.2.2.1, HX5.out.cells.2.2.2.1, HX5.out.cells.2.2.2.2.1, HX5.out.cells.2.2.2.2.2.1, HX5.out.cells.2.2.2.2.2.2.1, HX5.out.cells.2.2.2.2.2.2.2.1, HX5.out.cells.2.2.2.2.2.2.2.2.1, HX5.out.cells.2.2.2.2.2.2.2.2.2.1, HX5.out.cells.2.2.2.2.2.2.2.2.2.2, HSC.out⟩
      dsimp only at hHeld
      refine wpAnyH_take (i := 4) (oi := ⟨some 66, _, _, _, _, _⟩) (v := ?vvra5) rfl (by kernel_rfl) (by kernel_rfl) (by kernel_rfl) (fun _ _ _ h => h) (Or.inl ⟨by rfl, ?yyra5⟩) hHeld ?rrra5
      case yyra5 => (intro wq hSw; (try dsimp only at hSw); go_simp; first | done | with_reducible rfl)
      simp only [Act.put, List.setIfInBounds_toArray, List.set_cons_zero, List.set_cons_succ]
      refine wpAnyH_take (i := 5) (oi := ⟨some 67, _, _, _, _, _⟩) (v := ?vvra6) rfl (by kernel_rfl) (by kernel_rfl) (by kernel_rfl) (fun _ _ _ h => h) (Or.inl ⟨by rfl, ?yyra6⟩) hHeld ?rrra6
      case yyra6 => (intro wq hSw; (try dsimp only at hSw); go_simp; first | done | with_reducible rfl)
      simp only [Act.put, List.setIfInBounds_toArray, List.set_cons_zero, List.set_cons_succ]
      refine wpAnyH_take (i := 6) (oi := ⟨some 68, _, _, _, _, _⟩) (v := ?vvra7) rfl (by kernel_rfl) (by kernel_rfl) (by kernel_rfl) (fun _ _ _ h => h) (Or.inl ⟨by rfl, ?yyra7⟩) hHeld ?rrra7
      case yyra7 => (intro wq hSw; (try dsimp only at hSw); go_simp; first | done | with_reducible rfl)
      simp only [Act.put, List.setIfInBounds_toArray, List.set_cons_zero, List.set_cons_succ]
      refine wpAnyH_take (i := 7) (oi := ⟨some 69, _, _, _, _, _⟩) (v := ?vvra8) rfl (by kernel_rfl) (by kernel_rfl) (by kernel_rfl) (fun _ _ _ h => h) (Or.inl ⟨by rfl, ?yyra8⟩) hHeld ?rrra8
      case yyra8 => (intro wq hSw; (try dsimp only at hSw); go_simp; first | done | with_reducible rfl)
      simp only [Act.put, List.setIfInBounds_toArray, List.set_cons_zero, List.set_cons_succ]
      refine wpAnyH_take (i := 8) (oi := ⟨some 70, _, _, _, _, _⟩) (v := ?vvra9) rfl (by kernel_rfl) (by kernel_rfl) (by kernel_rfl) (fun _ _ _ h => h) (Or.inl ⟨by rfl, ?yyra9⟩) hHeld ?rrra9
      case yyra9 => (intro wq hSw; (try dsimp only at hSw); go_simp; first | done | with_reducible rfl)
      simp only [Act.put, List.setIfInBounds_toArray, List.set_cons_zero, List.set_cons_succ]
      refine wpAnyH_take (i := 9) (oi := ⟨some 71, _, _, _, _, _⟩) (v := ?vvra10) rfl (by kernel_rfl) (by kernel_rfl) (by kernel_rfl) (fun _ _ _ h => h) (Or.inl ⟨by rfl, ?yyra10⟩) hHeld ?rrra10
      case yyra10 => (intro wq hSw; (try dsimp only at hSw); go_simp; first | done | with_reducible rfl)
      simp only [Act.put, List.setIfInBounds_toArray, List.set_cons_zero, List.set_cons_succ]
      refine wpAnyH_take (i := 11) (oi := ⟨some 73, _, _, _, _, _⟩) (v := ?vvra11) rfl (by kernel_rfl) (by kernel_rfl) (by kernel_rfl) (fun _ _ _ h => h) (Or.inl ⟨by rfl, ?yyra11⟩) hHeld ?rrra11
      case yyra11 => (intro wq hSw; (try dsimp only at hSw); go_simp; first | done | with_reducible rfl)
      simp only [Act.put, List.setIfInBounds_toArray, List.set_cons_zero, List.set_cons_succ]
      refine wpAnyH_take (i := 12) (oi := ⟨some 74, _, _, _, _, _⟩) (v := ?vvra12) rfl (by kernel_rfl) (by kernel_rfl) (by kernel_rfl) (fun _ _ _ h => h) (Or.inl ⟨by rfl, ?yyra12⟩) hHeld ?rrra12
      case yyra12 => (intro wq hSw; (try dsimp only at hSw); go_simp; first | done | with_reducible rfl)
      simp only [Act.put, List.setIfInBounds_toArray, List.set_cons_zero, List.set_cons_succ]
      refine wpAnyH_take (i := 13) (oi := ⟨some 75, _, _, _, _, _⟩) (v := ?vvra13) rfl (by kernel_rfl) (by kernel_rfl) (by kernel_rfl) (fun _ _ _ h => h) (Or.inl ⟨by rfl, ?yyra13⟩) hHeld ?rrra13
      case yyra13 => (intro wq hSw; (try dsimp only at hSw); go_simp; first | done | with_reducible rfl)
      simp only [Act.put, List.setIfInBounds_toArray, List.set_cons_zero, List.set_cons_succ]
      refine wpAnyH_take (i := 14) (oi := ⟨some 76, _, _, _, _, _⟩) (v := ?vvra14) rfl (by kernel_rfl) (by kernel_rfl) (by kernel_rfl) (fun _ _ _ h => h) (Or.inl ⟨by rfl, ?yyra14⟩) hHeld ?rrra14
      case yyra14 => (intro wq hSw; (try dsimp only at hSw); go_simp; first | done | with_reducible rfl)
      simp only [Act.put, List.setIfInBounds_toArray, List.set_cons_zero, List.set_cons_succ]
      refine wpAnyH_take (i := 15) (oi := ⟨some 77, _, _, _, _, _⟩) (v := ?vvra15) rfl (by kernel_rfl) (by kernel_rfl) (by kernel_rfl) (fun _ _ _ h => h) (Or.inl ⟨by rfl, ?yyra15⟩) hHeld ?rrra15
      case yyra15 => (intro wq hSw; (try dsimp only at hSw); go_simp; first | done | with_reducible rfl)
      simp only [Act.put, List.setIfInBounds_toArray, List.set_cons_zero, List.set_cons_succ]
      refine wpAnyH_ready (rs := [10]) (by kernel_rfl) (by simp) ?_
      refine AllReadyH.cons (o := ⟨some 72, _, _, _, _, _⟩) rfl (fun K hK => ?_) AllReadyH.nil
      go_simp
      rw [HSA.out]
      refine (len_s s2 w5 HB5.out.cm.st.st).mono ?_
      rintro e w6 ⟨rfl, rfl⟩
      rw [HB5.out.sr.cnt, ← HN2.out]
      dsimp only
      refine hK.out _ _ ?ssra16 (fun hHeld => ?_)
      case ssra16 => (exact ⟨HX5.out.cells.1, HX5.out.cells.2.1, HX5.out.cells.2.2.1, HX5.out.cells.2.2.2.1, HX5.out.cells.2.2.2.2.1, HX5.out.cells.2.2.2.2.2.1, HX5.out.cells.2.2.2.2.2.2.1, HX5.out.cells.2.2.2.2.2.2.2.1, HX5.out.cells.2.2.2.2.2.2.2.2.1, HX5.out.cells.2.2.2.2.2.2.2.2.2.1, HX5.out.cells.2.2.2.2.2.2.2.2.2.2, HSC.out⟩)
      clear hK K
      try simp only [Act.put, List.setIfInBounds_toArray, List.set_cons_zero, List.set_cons_succ]
      refine wpAnyH_take (i := 16) (oi := ⟨some 78, _, _, _, _, _⟩) (v := ?vvra17) rfl (by kernel_rfl) (by kernel_rfl) (by kernel_rfl) (fun _ _ _ h => h) (Or.inl ⟨by rfl, ?yyra17⟩) hHeld ?rrra17
      case yyra17 => (intro wq hSw; (try dsimp only at hSw); go_simp; first | done | with_reducible rfl)
      simp only [Act.put, List.setIfInBounds_toArray, List.set_cons_zero, List.set_cons_succ]
      refine wpAnyH_take (i := 17) (oi := ⟨some 79, _, _, _, _, _⟩) (v := ?vvra18) rfl (by kernel_rfl) (by kernel_rfl) (by kernel_rfl) (fun _ _ _ h => h) (Or.inl ⟨by rfl, ?yyra18⟩) hHeld ?rrra18
      case yyra18 => (intro wq hSw; (try dsimp only at hSw); go_simp; first | done | with_reducible rfl)
      simp only [Act.put, List.setIfInBounds_toArray, List.set_cons_zero, List.set_cons_succ]
      refine wpAnyH_take (i := 18) (oi := ⟨some 80, _, _, _, _, _⟩) (v := ?vvra19) rfl (by kernel_rfl) (by kernel_rfl) (by kernel_rfl) (fun _ _ _ h => h) (Or.inl ⟨by rfl, ?yyra19⟩) hHeld ?rrra19
      case yyra19 => (intro wq hSw; (try dsimp only at hSw); go_simp; first | done | with_reducible rfl)
      simp only [Act.put, List.setIfInBounds_toArray, List.set_cons_zero, List.set_cons_succ]
      refine wpAnyH_take (i := 19) (oi := ⟨some 81, _, _, _, _, _⟩) (v := ?vvra20) rfl (by kernel_rfl) (by kernel_rfl) (by kernel_rfl) (fun _ _ _ h => h) (Or.inl ⟨by rfl, ?yyra20⟩) hHeld ?rrra20
      case yyra20 => (intro wq hSw; (try dsimp only at hSw); go_simp; first | done | with_reducible rfl)
      simp only [Act.put, List.setIfInBounds_toArray, List.set_cons_zero, List.set_cons_succ]
      refine wpAnyH_take (i := 20) (oi := ⟨some 82, _, _, _, _, _⟩) (v := ?vvra21) rfl (by kernel_rfl) (by kernel_rfl) (by kernel_rfl) (fun _ _ _ h => h) (Or.inl ⟨by rfl, ?yyra21⟩) hHeld ?rrra21
      case yyra21 => (intro wq hSw; (try dsimp only at hSw); go_simp; first | done | with_reducible rfl)
      simp only [Act.put, List.setIfInBounds_toArray, List.set_cons_zero, List.set_cons_succ]
      refine wpAnyH_take (i := 21) (oi := ⟨some 83, _, _, _, _, _⟩) (v := ?vvra22) rfl (by kernel_rfl) (by kernel_rfl) (by kernel_rfl) (fun _ _ _ h => h) (Or.inl ⟨by rfl, ?yyra22⟩) hHeld ?rrra22
      case yyra22 => (intro wq hSw; (try dsimp only at hSw); go_simp; first | done | with_reducible rfl)
      simp only [Act.put, List.setIfInBounds_toArray, List.set_cons_zero, List.set_cons_succ]
      refine wpAnyH_take (i := 22) (oi := ⟨some 84, _, _, _, _, _⟩) (v := ?vvra23) rfl (by kernel_rfl) (by kernel_rfl) (by kernel_rfl) (fun _ _ _ h => h) (Or.inl ⟨by rfl, ?yyra23⟩) hHeld ?rrra23
      case yyra23 => (intro wq hSw; (try dsimp only at hSw); go_simp; first | done | with_reducible rfl)
      simp only [Act.put, List.setIfInBounds_toArray, List.set_cons_zero, List.set_cons_succ]
      refine wpAnyH_take (i := 24) (oi := ⟨some 86, _, _, _, _, _⟩) (v := ?vvra24) rfl (by kernel_rfl) (by kernel_rfl) (by kernel_rfl) (fun _ _ _ h => h) (Or.inl ⟨by rfl, ?yyra24⟩) hHeld ?rrra24
      case yyra24 => (intro wq hSw; (try dsimp only at hSw); go_simp; first | done | with_reducible rfl)
      simp only [Act.put, List.setIfInBounds_toArray, List.set_cons_zero, List.set_cons_succ]
      refine wpAnyH_ready (rs := [23]) (by kernel_rfl) (by simp) ?_
      refine AllReadyH.cons (o := ⟨some 85, _, _, _, _, _⟩) rfl (fun K hK => ?_) AllReadyH.nil
      go_simp
      rw [HSA.out]
      refine (len_s s2 w5 HB5.out.cm.st.st).mono ?_
      rintro e w6 ⟨rfl, rfl⟩
      rw [HB5.out.sr.cnt, ← HN2.out]
      dsimp only
      refine hK.out _ _ ?ssra25 (fun hHeld => ?_)
      case ssra25 => (exact ⟨HX5.out.cells.1, HX5.out.cells.2.1, HX5.out.cells.2.2.1, HX5.out.cells.2.2.2.1, HX5.out.cells.2.2.2.2.1, HX5.out.cells.2.2.2.2.2.1, HX5.out.cells.2.2.2.2.2.2.1, HX5.out.cells.2.2.2.2.2.2.2.1, HX5.out.cells.2.2.2.2.2.2.2.2.1, HX5.out.cells.2.2.2.2.2.2.2.2.2.1, HX5.out.cells.2.2.2.2.2.2.2.2.2.2, HSC.out⟩)
      clear hK K
      try simp only [Act.put, List.setIfInBounds_toArray, List.set_cons_zero, List.set_cons_succ]
      refine wpAnyH_take (i := 25) (oi := ⟨some 87, _, _, _, _, _⟩) (v := ?vvra26) rfl (by kernel_rfl) (by kernel_rfl) (by kernel_rfl) (fun _ _ _ h => h) (Or.inl ⟨by rfl, ?yyra26⟩) hHeld ?rrra26
      case yyra26 => (intro wq hSw; (try dsimp only at hSw); go_simp; first | done | with_reducible rfl)
      simp only [Act.put, List.setIfInBounds_toArray, List.set_cons_zero, List.set_cons_succ]
      refine wpAnyH_take (i := 26) (oi := ⟨some 88, _, _, _, _, _⟩) (v := ?vvra27) rfl (by kernel_rfl) (by kernel_rfl) (by kernel_rfl) (fun _ _ _ h => h) (Or.inl ⟨by rfl, ?yyra27⟩) hHeld ?rrra27
      case yyra27 => (intro wq hSw; (try dsimp only at hSw); go_simp; first | done | with_reducible rfl)
      simp only [Act.put, List.setIfInBounds_toArray, List.set_cons_zero, List.set_cons_succ]
      refine wpAnyH_done (by kernel_rfl) ?_ _
      clear hHeld
      go_upto_region 17 with fail
      clear tl tl2 HXD HDO
      have HXD : Hid (AcBox w5.drew ab x) := Lib.hid (HX5.out.keep (Keep.of_below (Below.refl _ _).drew))
      have HBD : Hid (CB W w5.drew s2 sb rb rm (.slice va2 n2 vc2) L2 (i + 1)) := Lib.hid (HB5.out.below (Below.refl _ _).drew)
      obtain ⟨nh, hnh⟩ : ∃ n, n = (keysL (heldC x.who) L2).length := ⟨_, rfl⟩
      obtain ⟨nk, hnk⟩ : ∃ n, n = (keysL hasC L2).length := ⟨_, rfl⟩
      have HNH := Lib.hid (And.intro hnh (keysL_le HBD.out (by have := HI.out; omega) (heldC x.who)))
      have HNK := Lib.hid (And.intro hnk (keysL_le HBD.out (by have := HI.out; omega) hasC))
      clear hnh hnk
      refine wp_region_held_drew (S := (fun w' : World => w'.cell? ⟨ab, 1, none⟩ = some (.int .i64 x.who))) (by kernel_rfl) (HXD.out.cells.2.1) (fun hHeld => ?_)
      refine wpAnyH_take (i := 0) (oi := ⟨some 89, _, _, _, _, _⟩) (v := ?vvrb1) rfl (by kernel_rfl) (by kernel_rfl) (by kernel_rfl) (fun _ _ _ h => h) (Or.inl ⟨by rfl, ?yyrb1⟩) hHeld ?rrrb1
      case yyrb1 => (intro wq hSw; (try dsimp only at hSw); go_simp; first | done | with_reducible rfl)
      simp only [Act.put, List.setIfInBounds_toArray, List.set_cons_zero, List.set_cons_succ]
      refine wpAnyH_take (i := 1) (oi := ⟨some 90, _, _, _, _, _⟩) (v := ?vvrb2) rfl (by kernel_rfl) (by kernel_rfl) (by kernel_rfl) (fun _ _ _ h => h) (Or.inl ⟨by rfl, ?yyrb2⟩) hHeld ?rrrb2
      case yyrb2 => (intro wq hSw; (try dsimp only at hSw); go_simp; first | done | with_reducible rfl)
      simp only [Act.put, List.setIfInBounds_toArray, List.set_cons_zero, List.set_cons_succ]
      refine wpAnyH_take (i := 2) (oi := ⟨some 91, _, _, _, _, _⟩) (v := ?vvrb3) rfl (by kernel_rfl) (by kernel_rfl) (by kernel_rfl) (fun _ _ _ h => h) (Or.inl ⟨by rfl, ?yyrb3⟩) hHeld ?rrrb3
      case yyrb3 => (intro wq hSw; (try dsimp only at hSw); go_simp; first | done | with_reducible rfl)
      simp only [Act.put, List.setIfInBounds_toArray, List.set_cons_zero, List.set_cons_succ]
      refine wpAnyH_take (i := 4) (oi := ⟨some 93, _, _, _, _, _⟩) (v := ?vvrb4) rfl (by kernel_rfl) (by kernel_rfl) (by kernel_rfl) (fun _ _ _ h => h) (Or.inl ⟨by rfl, ?yyrb4⟩) hHeld ?rrrb4
      case yyrb4 => (intro wq hSw; (try dsimp only at hSw); go_simp; first | done | with_reducible rfl)
      simp only [Act.put, List.setIfInBounds_toArray, List.set_cons_zero, List.set_cons_succ]
      refine wpAnyH_take (i := 5) (oi := ⟨some 94, _, _, _, _, _⟩) (v := ?vvrb5) rfl (by kernel_rfl) (by kernel_rfl) (by kernel_rfl) (fun _ _ _ h => h) (Or.inl ⟨by rfl, ?yyrb5⟩) hHeld ?rrrb5
      case yyrb5 => (intro wq hSw; (try dsimp only at hSw); go_simp; first | done | with_reducible rfl)
      simp only [Act.put, List.setIfInBounds_toArray, List.set_cons_zero, List.set_cons_succ]
      refine wpAnyH_take (i := 6) (oi := ⟨some 95, _, _, _, _, _⟩) (v := ?vvrb6) rfl (by kernel_rfl) (by kernel_rfl) (by kernel_rfl) (fun _ _ _ h => h) (Or.inl ⟨by rfl, ?yyrb6⟩) hHeld ?rrrb6
      case yyrb6 => (intro wq hSw; (try dsimp only at hSw); go_simp; first | done | with_reducible rfl)
      simp only [Act.put, List.setIfInBounds_toArray, List.set_cons_zero, List.set_cons_succ]
      refine wpAnyH_ready (rs := [3]) (by kernel_rfl) (by simp) ?_
      refine AllReadyH.cons (o := ⟨some 92, _, _, _, _, _⟩) rfl (fun K hK => ?_) AllReadyH.nil
      go_simp
      refine (pheld HBD.out (by have := HI.out; omega) x.who).mono ?_
      rintro e w92 ⟨a92, c92, rfl, v92, b92⟩
      rw [← HNH.out.1]
      have HV92 := Lib.hid v92
      have HB92 := Lib.hid (HBD.out.below b92)
      have HX92 := Lib.hid (HXD.out.keep (Keep.of_below b92))
      clear b92 v92
      dsimp only
      refine hK.out _ _ ?ssrb7 (fun hHeld => ?_)
      case ssrb7 => (exact HX92.out.cells.2.1)
      clear hK K
      try simp only [Act.put, List.setIfInBounds_toArray, List.set_cons_zero, List.set_cons_succ]
      refine wpAnyH_ready (rs := [7]) (by kernel_rfl) (by simp) ?_
      refine AllReadyH.cons (o := ⟨some 96, _, _, _, _, _⟩) rfl (fun K hK => ?_) AllReadyH.nil
      go_simp
      refine (qheld HB92.out x.who).mono ?_
      rintro e w96 ⟨a96, c96, rfl, v96, b96⟩
      rw [← HNH.out.1]
      have HV96 := Lib.hid v96
      have HV92' := Lib.hid (kv_below HV92.out b96)
      have HB96 := Lib.hid (HB92.out.below b96)
      have HX96 := Lib.hid (HX92.out.keep (Keep.of_below b96))
      clear b96 v96
      dsimp only
      refine hK.out _ _ ?ssrb8 (fun hHeld => ?_)
      case ssrb8 => (exact HX96.out.cells.2.1)
      clear hK K
      try simp only [Act.put, List.setIfInBounds_toArray, List.set_cons_zero, List.set_cons_succ]
      refine wpAnyH_ready (rs := [8]) (by kernel_rfl) (by simp) ?_
      refine AllReadyH.cons (o := ⟨some 97, _, _, _, _, _⟩) rfl (fun K hK => ?_) AllReadyH.nil
      go_simp
      have hsm := rsameK_any a92 a96 c92 c96 _ w96 HV92'.out HV96.out HNH.out.2
      rw [← HNH.out.1] at hsm
      refine hsm.mono ?_
      clear hsm
      rintro e w97 ⟨rfl, nz97, hz97⟩
      have b97 : Below w96.heap.size w96 w97 := by rw [hz97]; exact below_drewN (Below.refl _ _) _
      clear hz97
      have HB97 := Lib.hid (HB96.out.below b97)
      have HX97 := Lib.hid (HX96.out.keep (Keep.of_below b97))
      clear b97
      dsimp only
      refine hK.out _ _ ?ssrb9 (fun hHeld => ?_)
      case ssrb9 => (exact HX97.out.cells.2.1)
      clear hK K
      try simp only [Act.put, List.setIfInBounds_toArray, List.set_cons_zero, List.set_cons_succ]
      refine wpAnyH_take (i := 9) (oi := ⟨some 98, _, _, _, _, _⟩) (v := ?vvrb10) rfl (by kernel_rfl) (by kernel_rfl) (by kernel_rfl) (fun _ _ _ h => h) (Or.inl ⟨by rfl, ?yyrb10⟩) hHeld ?rrrb10
      case yyrb10 => (intro wq hSw; (try dsimp only at hSw); go_simp; first | done | with_reducible rfl)
      simp only [Act.put, List.setIfInBounds_toArray, List.set_cons_zero, List.set_cons_succ]
      refine wpAnyH_take (i := 10) (oi := ⟨some 99, _, _, _, _, _⟩) (v := ?vvrb11) rfl (by kernel_rfl) (by kernel_rfl) (by kernel_rfl) (fun _ _ _ h => h) (Or.inl ⟨by rfl, ?yyrb11⟩) hHeld ?rrrb11
      case yyrb11 => (intro wq hSw; (try dsimp only at hSw); go_simp; first | done | with_reducible rfl)
      simp only [Act.put, List.setIfInBounds_toArray, List.set_cons_zero, List.set_cons_succ]
      refine wpAnyH_take (i := 11) (oi := ⟨some 100, _, _, _, _, _⟩) (v := ?vvrb12) rfl (by kernel_rfl) (by kernel_rfl) (by kernel_rfl) (fun _ _ _ h => h) (Or.inl ⟨by rfl, ?yyrb12⟩) hHeld ?rrrb12
      case yyrb12 => (intro wq hSw; (try dsimp only at hSw); go_simp; first | done | with_reducible rfl)
      simp only [Act.put, List.setIfInBounds_toArray, List.set_cons_zero, List.set_cons_succ]
      refine wpAnyH_take (i := 13) (oi := ⟨some 102, _, _, _, _, _⟩) (v := ?vvrb13) rfl (by kernel_rfl) (by kernel_rfl) (by kernel_rfl) (fun _ _ _ h => h) (Or.inl ⟨by rfl, ?yyrb13⟩) hHeld ?rrrb13
      case yyrb13 => (intro wq hSw; (try dsimp only at hSw); go_simp; first | done | with_reducible rfl)
      simp only [Act.put, List.setIfInBounds_toArray, List.set_cons_zero, List.set_cons_succ]
      refine wpAnyH_ready (rs := [12]) (by kernel_rfl) (by simp) ?_
      refine AllReadyH.cons (o := ⟨some 101, _, _, _, _, _⟩) rfl (fun K hK => ?_) AllReadyH.nil
      go_simp
      refine (pkeys HB97.out (by have := HI.out; omega)).mono ?_
      rintro e w101 ⟨a101, c101, rfl, v101, b101⟩
      rw [← HNK.out.1]
      have HV101 := Lib.hid v101
      have HB101 := Lib.hid (HB97.out.below b101)
      have HX101 := Lib.hid (HX97.out.keep (Keep.of_below b101))
      clear b101 v101
      dsimp only
      refine hK.out _ _ ?ssrb14 (fun hHeld => ?_)
      case ssrb14 => (exact HX101.out.cells.2.1)
      clear hK K
      try simp only [Act.put, List.setIfInBounds_toArray, List.set_cons_zero, List.set_cons_succ]
      refine wpAnyH_ready (rs := [14]) (by kernel_rfl) (by simp) ?_
      refine AllReadyH.cons (o := ⟨some 103, _, _, _, _, _⟩) rfl (fun K hK => ?_) AllReadyH.nil
      go_simp
      refine (qkeys HB101.out).mono ?_
      rintro e w103 ⟨a103, c103, rfl, v103, b103⟩
      rw [← HNK.out.1]
      have HV103 := Lib.hid v103
      have HV101' := Lib.hid (kv_below HV101.out b103)
      have HB103 := Lib.hid (HB101.out.below b103)
      have HX103 := Lib.hid (HX101.out.keep (Keep.of_below b103))
      clear b103 v103
      dsimp only
      refine hK.out _ _ ?ssrb15 (fun hHeld => ?_)
      case ssrb15 => (exact HX103.out.cells.2.1)
      clear hK K
      try simp only [Act.put, List.setIfInBounds_toArray, List.set_cons_zero, List.set_cons_succ]
      refine wpAnyH_ready (rs := [15]) (by kernel_rfl) (by simp) ?_
      refine AllReadyH.cons (o := ⟨some 104, _, _, _, _, _⟩) rfl (fun K hK => ?_) AllReadyH.nil
      go_simp
      have hsm := rsameK_any a101 a103 c101 c103 _ w103 HV101'.out HV103.out HNK.out.2
      rw [← HNK.out.1] at hsm
      refine hsm.mono ?_
      clear hsm
      rintro e w104 ⟨rfl, nz104, hz104⟩
      have b104 : Below w103.heap.size w103 w104 := by rw [hz104]; exact below_drewN (Below.refl _ _) _
      clear hz104
      have HB104 := Lib.hid (HB103.out.below b104)
      have HX104 := Lib.hid (HX103.out.keep (Keep.of_below b104))
      clear b104
      dsimp only
      refine hK.out _ _ ?ssrb16 (fun hHeld => ?_)
      case ssrb16 => (exact HX104.out.cells.2.1)
      clear hK K
      try simp only [Act.put, List.setIfInBounds_toArray, List.set_cons_zero, List.set_cons_succ]
      refine wpAnyH_take (i := 16) (oi := ⟨some 105, _, _, _, _, _⟩) (v := ?vvrb17) rfl (by kernel_rfl) (by kernel_rfl) (by kernel_rfl) (fun _ _ _ h => h) (Or.inl ⟨by rfl, ?yyrb17⟩) hHeld ?rrrb17
      case yyrb17 => (intro wq hSw; (try dsimp only at hSw); go_simp; first | done | with_reducible rfl)
      simp only [Act.put, List.setIfInBounds_toArray, List.set_cons_zero, List.set_cons_succ]
      refine wpAnyH_take (i := 17) (oi := ⟨some 106, _, _, _, _, _⟩) (v := ?vvrb18) rfl (by kernel_rfl) (by kernel_rfl) (by kernel_rfl) (fun _ _ _ h => h) (Or.inl ⟨by rfl, ?yyrb18⟩) hHeld ?rrrb18
      case yyrb18 => (intro wq hSw; (try dsimp only at hSw); go_simp; first | done | with_reducible rfl)
      simp only [Act.put, List.setIfInBounds_toArray, List.set_cons_zero, List.set_cons_succ]
      refine wpAnyH_done (by kernel_rfl) ?_ _
      clear hHeld
      go_upto_region 19 with fail
      have HXK := Lib.hid HXW.out.k
      cases hlk : lookL L2 x.k
      case none =>
        have HLK := Lib.hid hlk
        clear hlk HXD HBD
        have HX104' := HX104
        have hcl := HX104.out.cells
        obtain ⟨p0, p1, p2, p3, p4, p5, p6, p7, p8, p9, p10⟩ := hcl
        have hla := HX104.out.lt
        have HG : Hid (s2.g x.k = none) := Lib.hid (by rw [HB104.out.sr.g]; exact HLK.out)
        obtain ⟨ln, hln⟩ : ∃ z : Int, z = 0 := ⟨_, rfl⟩
        obtain ⟨lt, hlt3⟩ : ∃ z : ByteArray, z = ⟨#[]⟩ := ⟨_, rfl⟩
        obtain ⟨lb, hlb⟩ : ∃ z : Bool, z = false := ⟨_, rfl⟩
        have HLV9 : Hid (lookV (s2.g x.k) = .tuple #[.agg #[.int .u64 ln, .string lt, .bool lb], .bool false]) := Lib.hid (by rw [HG.out, hln, hlt3, hlb]; rfl)
        have HLN := Lib.hid hln
        have HLT := Lib.hid hlt3
        have HLB := Lib.hid hlb
        clear hln hlt3 hlb
        go_upto_region 20 with (go_at_call 33; (with_reducible refine (look_g s2 sb x.k w104 HB104.out.cm.st.st HB104.out.cm.hsb HXK.out).mono ?_); rintro e w20 ⟨rfl, b20⟩; rw [HLV9.out]; have HB20 := Lib.hid (HB104.out.below b20); have HX20 := Lib.hid (HX104.out.keep (Keep.of_below b20)); clear b20)
        clear p0 p1 p2 p3 p4 p5 p6 p7 p8 p9 p10 hla
        obtain ⟨lkb, hlkb⟩ : ∃ b, b = w20.heap.size := ⟨_, rfl⟩
        obtain ⟨u20, hu20⟩ : ∃ u, u = w20.alloc (.cells #[.int .u64 ln, .string lt, .bool lb] 36) := ⟨_, rfl⟩
        rw [← hu20, ← hlkb]
        have b20 : Below w20.heap.size w20 u20 := by rw [hu20]; exact below_box _ _
        have HE20 : Hid (u20.heap[lkb]? = some (.cells #[.int .u64 ln, .string lt, .bool lb] 36 (0, 0))) := Lib.hid (by rw [hu20, hlkb]; exact heap_new _ _)
        have HBu := Lib.hid (HB20.out.below b20)
        have HXu := Lib.hid (HX20.out.keep (Keep.of_below b20))
        clear b20 hu20 hlkb
        obtain ⟨p0, p1, p2, p3, p4, p5, p6, p7, p8, p9, p10⟩ := HXu.out.cells
        have hla := HXu.out.lt
        obtain ⟨ra, rc, hve, hrv⟩ := HBu.out.cm.rv
        injection hve with hv1 hv2 hv3
        subst hv1 hv3
        clear hv2
        go_upto_region 21 with (go_at_call 34; (with_reducible refine (r9find_none rb vc2 rm va2 L2 x.k u20 hrv HLK.out).mono ?_); rintro e w21 ⟨rfl, b21⟩; have HB21 := Lib.hid (HBu.out.below b21); have HX21 := Lib.hid (HXu.out.keep (Keep.of_below b21)); have HE21 := Lib.hid ((b21.block _ (Array.getElem?_eq_some_iff.1 HE20.out).1).trans HE20.out); clear b21)
        clear p0 p1 p2 p3 p4 p5 p6 p7 p8 p9 p10 hla hrv
        have d0 := cell_of_blk HE21.out 0
        have d1 := cell_of_blk HE21.out 1
        have d2 := cell_of_blk HE21.out 2
        have dl := (Array.getElem?_eq_some_iff.1 HE21.out).1
        simp at d0 d1 d2
        rw [HLN.out] at d0
        rw [HLT.out] at d1
        rw [HLB.out] at d2
        go_quiet (fail)
        clear d0 d1 d2 dl 
        obtain ⟨u22, hu22⟩ : ∃ u : World, u = w21.drewN nq := ⟨_, rfl⟩
        rw [← hu22]
        have b22 : Below w21.heap.size w21 u22 := by rw [hu22]; exact below_drewN (Below.refl _ _) _
        have HB22 := Lib.hid (HB21.out.below b22)
        have HX22 := Lib.hid (HX21.out.keep (Keep.of_below b22))
        clear b22 hu22
        obtain ⟨p0, p1, p2, p3, p4, p5, p6, p7, p8, p9, p10⟩ := HX22.out.cells
        have hla := HX22.out.lt
        obtain ⟨hs, hhs⟩ : ∃ z : Int, z = 0 := ⟨_, rfl⟩
        obtain ⟨hg, hhg⟩ : ∃ z : Int, z = 0 := ⟨_, rfl⟩
        have HHV : Hid (handV (s2.f x.k) = .tuple #[.agg #[.int .i64 hs, .int .i64 hg], .bool false]) := Lib.hid (by rw [Sto.g_none HG.out, hhs, hhg]; rfl)
        have HHS := Lib.hid hhs
        have HHG := Lib.hid hhg
        clear hhs hhg
        go_upto_region 24 with (go_at_call 22; (with_reducible refine (handle_any s2 sb x.k u22 HB22.out.cm.st.st HB22.out.cm.hsb HXK.out).mono ?_); rintro e w23 ⟨rfl, b23⟩; rw [HHV.out]; have HB23 := Lib.hid (HB22.out.below b23); have HX23 := Lib.hid (HX22.out.keep (Keep.of_below b23)); clear b23)
        clear p0 p1 p2 p3 p4 p5 p6 p7 p8 p9 p10 hla
        obtain ⟨hb, hhb⟩ : ∃ b, b = w23.heap.size := ⟨_, rfl⟩
        obtain ⟨u24, hu24⟩ : ∃ u, u = w23.alloc (.cells #[.int .i64 hs, .int .i64 hg] 44) := ⟨_, rfl⟩
        rw [← hu24, ← hhb]
        have b24 : Below w23.heap.size w23 u24 := by rw [hu24]; exact below_box _ _
        have HE24 : Hid (u24.heap[hb]? = some (.cells #[.int .i64 hs, .int .i64 hg] 44 (0, 0))) := Lib.hid (by rw [hu24, hhb]; exact heap_new _ _)
        have HB24 := Lib.hid (HB23.out.below b24)
        have HX24 := Lib.hid (HX23.out.keep (Keep.of_below b24))
        clear b24 hu24 hhb
        have HBD : Hid (CB W u24.drew s2 sb rb rm (.slice va2 n2 vc2) L2 (i + 1)) := Lib.hid (HB24.out.below (Below.refl _ _).drew)
        have HKF : Hid (∀ w', Below u24.heap.size u24 w' → w'.cell? ⟨ab, 2, none⟩ = some (.int .i64 x.k.kind) ∧ w'.cell? ⟨ab, 3, none⟩ = some (.int .i64 x.k.a) ∧ w'.cell? ⟨ab, 4, none⟩ = some (.int .i64 x.k.b) ∧ w'.cell? ⟨ab, 5, none⟩ = some (.string x.k.s) ∧ w'.cell? ⟨sb, 0, none⟩ = some (.pointer (some ⟨s2.ab, 0, none⟩)) ∧ w'.cell? ⟨hb, 0, none⟩ = some (.int .i64 0) ∧ w'.cell? ⟨hb, 1, none⟩ = some (.int .i64 0)) := Lib.hid (fun w' hb => by
          have hx := (HX24.out.keep (Keep.of_below hb)).cells
          have he := (hb.block _ (Array.getElem?_eq_some_iff.1 HE24.out).1).trans HE24.out
          have hc := (HB24.out.below hb).cells.1
          exact ⟨hx.2.2.1, hx.2.2.2.1, hx.2.2.2.2.1, hx.2.2.2.2.2.1, hc, by rw [cell_of_blk he, HHS.out]; rfl, by rw [cell_of_blk he, HHG.out]; rfl⟩)
        refine wp_region_held_drew (S := (fun w' : World => w'.cell? ⟨ab, 2, none⟩ = some (.int .i64 x.k.kind) ∧ w'.cell? ⟨ab, 3, none⟩ = some (.int .i64 x.k.a) ∧ w'.cell? ⟨ab, 4, none⟩ = some (.int .i64 x.k.b) ∧ w'.cell? ⟨ab, 5, none⟩ = some (.string x.k.s) ∧ w'.cell? ⟨sb, 0, none⟩ = some (.pointer (some ⟨s2.ab, 0, none⟩)) ∧ w'.cell? ⟨hb, 0, none⟩ = some (.int .i64 0) ∧ w'.cell? ⟨hb, 1, none⟩ = some (.int .i64 0))) (by kernel_rfl) (HKF.out _ (Below.refl _ _).drew) (fun hHeld => ?_)
        refine wpAnyH_take (i := 0) (oi := ⟨some 170, _, _, _, _, _⟩) (v := ?vvrcn1) rfl (by kernel_rfl) (by kernel_rfl) (by kernel_rfl) (fun _ _ _ h => h) (Or.inl ⟨by rfl, ?yyrcn1⟩) hHeld ?rrrcn1
        case yyrcn1 => (intro wq hSw; (try dsimp only at hSw); go_simp; first | done | with_reducible rfl)
        simp only [Act.put, List.setIfInBounds_toArray, List.set_cons_zero, List.set_cons_succ]
        refine wpAnyH_take (i := 1) (oi := ⟨some 171, _, _, _, _, _⟩) (v := ?vvrcn2) rfl (by kernel_rfl) (by kernel_rfl) (by kernel_rfl) (fun _ _ _ h => h) (Or.inl ⟨by rfl, ?yyrcn2⟩) hHeld ?rrrcn2
        case yyrcn2 => (intro wq hSw; (try dsimp only at hSw); go_simp; first | done | with_reducible rfl)
        simp only [Act.put, List.setIfInBounds_toArray, List.set_cons_zero, List.set_cons_succ]
        refine wpAnyH_take (i := 2) (oi := ⟨some 172, _, _, _, _, _⟩) (v := ?vvrcn3) rfl (by kernel_rfl) (by kernel_rfl) (by kernel_rfl) (fun _ _ _ h => h) (Or.inl ⟨by rfl, ?yyrcn3⟩) hHeld ?rrrcn3
        case yyrcn3 => (intro wq hSw; (try dsimp only at hSw); go_simp; first | done | with_reducible rfl)
        simp only [Act.put, List.setIfInBounds_toArray, List.set_cons_zero, List.set_cons_succ]
        refine wpAnyH_take (i := 3) (oi := ⟨some 173, _, _, _, _, _⟩) (v := ?vvrcn4) rfl (by kernel_rfl) (by kernel_rfl) (by kernel_rfl) (fun _ _ _ h => h) (Or.inl ⟨by rfl, ?yyrcn4⟩) hHeld ?rrrcn4
        case yyrcn4 => (intro wq hSw; (try dsimp only at hSw); go_simp; first | done | with_reducible rfl)
        simp only [Act.put, List.setIfInBounds_toArray, List.set_cons_zero, List.set_cons_succ]
        refine wpAnyH_ready (rs := [4]) (by kernel_rfl) (by simp) ?_
        refine AllReadyH.cons (o := ⟨some 174, _, _, _, _, _⟩) rfl (fun K hK => ?_) AllReadyH.nil
        go_simp
        obtain ⟨ra, rc, _, hrv⟩ := HBD.out.cm.rv
        refine (r9find_none rb rc rm ra L2 x.k _ hrv HLK.out).mono ?_
        rintro e w31 ⟨rfl, b31⟩
        have HB31 := Lib.hid (HBD.out.below b31)
        have HK31 := Lib.hid (HKF.out w31 (below_then (Below.refl _ _).drew b31))
        clear b31 hrv
        dsimp only
        refine hK.out _ _ ?ssrcn5 (fun hHeld => ?_)
        case ssrcn5 => (exact HK31.out)
        clear hK K
        try simp only [Act.put, List.setIfInBounds_toArray, List.set_cons_zero, List.set_cons_succ]
        refine wpAnyH_take (i := 5) (oi := ⟨some 175, _, _, _, _, _⟩) (v := ?vvrcn6) rfl (by kernel_rfl) (by kernel_rfl) (by kernel_rfl) (fun _ _ _ h => h) (Or.inl ⟨by rfl, ?yyrcn6⟩) hHeld ?rrrcn6
        case yyrcn6 => (intro wq hSw; (try dsimp only at hSw); go_simp; first | done | with_reducible rfl)
        simp only [Act.put, List.setIfInBounds_toArray, List.set_cons_zero, List.set_cons_succ]
        refine wpAnyH_take (i := 6) (oi := ⟨some 176, _, _, _, _, _⟩) (v := ?vvrcn7) rfl (by kernel_rfl) (by kernel_rfl) (by kernel_rfl) (fun _ _ _ h => h) (Or.inl ⟨by rfl, ?yyrcn7⟩) hHeld ?rrrcn7
        case yyrcn7 => (intro wq hSw; (try dsimp only at hSw); go_simp; first | done | with_reducible rfl)
        simp only [Act.put, List.setIfInBounds_toArray, List.set_cons_zero, List.set_cons_succ]
        refine wpAnyH_take (i := 7) (oi := ⟨some 177, _, _, _, _, _⟩) (v := ?vvrcn8) rfl (by kernel_rfl) (by kernel_rfl) (by kernel_rfl) (fun _ _ _ h => h) (Or.inl ⟨by rfl, ?yyrcn8⟩) hHeld ?rrrcn8
        case yyrcn8 => (intro wq hSw; (try dsimp only at hSw); go_simp; first | done | with_reducible rfl)
        simp only [Act.put, List.setIfInBounds_toArray, List.set_cons_zero, List.set_cons_succ]
        refine wpAnyH_take (i := 8) (oi := ⟨some 178, _, _, _, _, _⟩) (v := ?vvrcn9) rfl (by kernel_rfl) (by kernel_rfl) (by kernel_rfl) (fun _ _ _ h => h) (Or.inl ⟨by rfl, ?yyrcn9⟩) hHeld ?rrrcn9
        case yyrcn9 => (intro wq hSw; (try dsimp only at hSw); go_simp; first | done | with_reducible rfl)
        simp only [Act.put, List.setIfInBounds_toArray, List.set_cons_zero, List.set_cons_succ]
        refine wpAnyH_take (i := 9) (oi := ⟨some 179, _, _, _, _, _⟩) (v := ?vvrcn10) rfl (by kernel_rfl) (by kernel_rfl) (by kernel_rfl) (fun _ _ _ h => h) (Or.inl ⟨by rfl, ?yyrcn10⟩) hHeld ?rrrcn10
        case yyrcn10 => (intro wq hSw; (try dsimp only at hSw); go_simp; first | done | with_reducible rfl)
        simp only [Act.put, List.setIfInBounds_toArray, List.set_cons_zero, List.set_cons_succ]
        refine wpAnyH_take (i := 10) (oi := ⟨some 180, _, _, _, _, _⟩) (v := undef) rfl (by kernel_rfl) (by kernel_rfl) (by kernel_rfl) (fun _ _ _ h => h) (Or.inr ⟨by rfl, rfl⟩) hHeld ?_
        simp only [Act.put, List.setIfInBounds_toArray, List.set_cons_zero, List.set_cons_succ]
        refine wpAnyH_take (i := 11) (oi := ⟨some 181, _, _, _, _, _⟩) (v := undef) rfl (by kernel_rfl) (by kernel_rfl) (by kernel_rfl) (fun _ _ _ h => h) (Or.inr ⟨by rfl, rfl⟩) hHeld ?_
        simp only [Act.put, List.setIfInBounds_toArray, List.set_cons_zero, List.set_cons_succ]
        refine wpAnyH_take (i := 12) (oi := ⟨some 182, _, _, _, _, _⟩) (v := undef) rfl (by kernel_rfl) (by kernel_rfl) (by kernel_rfl) (fun _ _ _ h => h) (Or.inr ⟨by rfl, rfl⟩) hHeld ?_
        simp only [Act.put, List.setIfInBounds_toArray, List.set_cons_zero, List.set_cons_succ]
        refine wpAnyH_take (i := 13) (oi := ⟨some 183, _, _, _, _, _⟩) (v := undef) rfl (by kernel_rfl) (by kernel_rfl) (by kernel_rfl) (fun _ _ _ h => h) (Or.inr ⟨by rfl, rfl⟩) hHeld ?_
        simp only [Act.put, List.setIfInBounds_toArray, List.set_cons_zero, List.set_cons_succ]
        refine wpAnyH_take (i := 14) (oi := ⟨some 184, _, _, _, _, _⟩) (v := undef) rfl (by kernel_rfl) (by kernel_rfl) (by kernel_rfl) (fun _ _ _ h => h) (Or.inr ⟨by rfl, rfl⟩) hHeld ?_
        simp only [Act.put, List.setIfInBounds_toArray, List.set_cons_zero, List.set_cons_succ]
        refine wpAnyH_take (i := 15) (oi := ⟨some 185, _, _, _, _, _⟩) (v := undef) rfl (by kernel_rfl) (by kernel_rfl) (by kernel_rfl) (fun _ _ _ h => h) (Or.inr ⟨by rfl, rfl⟩) hHeld ?_
        simp only [Act.put, List.setIfInBounds_toArray, List.set_cons_zero, List.set_cons_succ]
        refine wpAnyH_take (i := 16) (oi := ⟨some 186, _, _, _, _, _⟩) (v := undef) rfl (by kernel_rfl) (by kernel_rfl) (by kernel_rfl) (fun _ _ _ h => h) (Or.inr ⟨by rfl, rfl⟩) hHeld ?_
        simp only [Act.put, List.setIfInBounds_toArray, List.set_cons_zero, List.set_cons_succ]
        refine wpAnyH_take (i := 17) (oi := ⟨some 187, _, _, _, _, _⟩) (v := ?vvrcn18) rfl (by kernel_rfl) (by kernel_rfl) (by kernel_rfl) (fun _ _ _ h => h) (Or.inl ⟨by rfl, ?yyrcn18⟩) hHeld ?rrrcn18
        case yyrcn18 => (intro wq hSw; (try dsimp only at hSw); go_simp; first | done | with_reducible rfl)
        simp only [Act.put, List.setIfInBounds_toArray, List.set_cons_zero, List.set_cons_succ]
        refine wpAnyH_take (i := 18) (oi := ⟨some 188, _, _, _, _, _⟩) (v := ?vvrcn19) rfl (by kernel_rfl) (by kernel_rfl) (by kernel_rfl) (fun _ _ _ h => h) (Or.inl ⟨by rfl, ?yyrcn19⟩) hHeld ?rrrcn19
        case yyrcn19 => (intro wq hSw; (try dsimp only at hSw); go_simp; first | done | with_reducible rfl)
        simp only [Act.put, List.setIfInBounds_toArray, List.set_cons_zero, List.set_cons_succ]
        refine wpAnyH_take (i := 19) (oi := ⟨some 189, _, _, _, _, _⟩) (v := ?vvrcn20) rfl (by kernel_rfl) (by kernel_rfl) (by kernel_rfl) (fun _ _ _ h => h) (Or.inl ⟨by rfl, ?yyrcn20⟩) hHeld ?rrrcn20
        case yyrcn20 => (intro wq hSw; (try dsimp only at hSw); go_simp; first | done | with_reducible rfl)
        simp only [Act.put, List.setIfInBounds_toArray, List.set_cons_zero, List.set_cons_succ]
        refine wpAnyH_take (i := 20) (oi := ⟨some 190, _, _, _, _, _⟩) (v := ?vvrcn21) rfl (by kernel_rfl) (by kernel_rfl) (by kernel_rfl) (fun _ _ _ h => h) (Or.inl ⟨by rfl, ?yyrcn21⟩) hHeld ?rrrcn21
        case yyrcn21 => (intro wq hSw; (try dsimp only at hSw); go_simp; first | done | with_reducible rfl)
        simp only [Act.put, List.setIfInBounds_toArray, List.set_cons_zero, List.set_cons_succ]
        refine wpAnyH_take (i := 21) (oi := ⟨some 191, _, _, _, _, _⟩) (v := ?vvrcn22) rfl (by kernel_rfl) (by kernel_rfl) (by kernel_rfl) (fun _ _ _ h => h) (Or.inl ⟨by rfl, ?yyrcn22⟩) hHeld ?rrrcn22
        case yyrcn22 => (intro wq hSw; (try dsimp only at hSw); go_simp; first | done | with_reducible rfl)
        simp only [Act.put, List.setIfInBounds_toArray, List.set_cons_zero, List.set_cons_succ]
        refine wpAnyH_take (i := 22) (oi := ⟨some 192, _, _, _, _, _⟩) (v := ?vvrcn23) rfl (by kernel_rfl) (by kernel_rfl) (by kernel_rfl) (fun _ _ _ h => h) (Or.inl ⟨by rfl, ?yyrcn23⟩) hHeld ?rrrcn23
        case yyrcn23 => (intro wq hSw; (try dsimp only at hSw); go_simp; first | done | with_reducible rfl)
        simp only [Act.put, List.setIfInBounds_toArray, List.set_cons_zero, List.set_cons_succ]
        refine wpAnyH_take (i := 23) (oi := ⟨some 193, _, _, _, _, _⟩) (v := ?vvrcn24) rfl (by kernel_rfl) (by kernel_rfl) (by kernel_rfl) (fun _ _ _ h => h) (Or.inl ⟨by rfl, ?yyrcn24⟩) hHeld ?rrrcn24
        case yyrcn24 => (intro wq hSw; (try dsimp only at hSw); go_simp; first | done | with_reducible rfl)
        simp only [Act.put, List.setIfInBounds_toArray, List.set_cons_zero, List.set_cons_succ]
        refine wpAnyH_take (i := 24) (oi := ⟨some 194, _, _, _, _, _⟩) (v := ?vvrcn25) rfl (by kernel_rfl) (by kernel_rfl) (by kernel_rfl) (fun _ _ _ h => h) (Or.inl ⟨by rfl, ?yyrcn25⟩) hHeld ?rrrcn25
        case yyrcn25 => (intro wq hSw; (try dsimp only at hSw); go_simp; first | done | with_reducible rfl)
        simp only [Act.put, List.setIfInBounds_toArray, List.set_cons_zero, List.set_cons_succ]
        refine wpAnyH_take (i := 25) (oi := ⟨some 195, _, _, _, _, _⟩) (v := ?vvrcn26) rfl (by kernel_rfl) (by kernel_rfl) (by kernel_rfl) (fun _ _ _ h => h) (Or.inl ⟨by rfl, ?yyrcn26⟩) hHeld ?rrrcn26
        case yyrcn26 => (intro wq hSw; (try dsimp only at hSw); go_simp; first | done | with_reducible rfl)
        simp only [Act.put, List.setIfInBounds_toArray, List.set_cons_zero, List.set_cons_succ]
        refine wpAnyH_take (i := 26) (oi := ⟨some 196, _, _, _, _, _⟩) (v := ?vvrcn27) rfl (by kernel_rfl) (by kernel_rfl) (by kernel_rfl) (fun _ _ _ h => h) (Or.inl ⟨by rfl, ?yyrcn27⟩) hHeld ?rrrcn27
        case yyrcn27 => (intro wq hSw; (try dsimp only at hSw); go_simp; first | done | with_reducible rfl)
        simp only [Act.put, List.setIfInBounds_toArray, List.set_cons_zero, List.set_cons_succ]
        refine wpAnyH_take (i := 27) (oi := ⟨some 197, _, _, _, _, _⟩) (v := ?vvrcn28) rfl (by kernel_rfl) (by kernel_rfl) (by kernel_rfl) (fun _ _ _ h => h) (Or.inl ⟨by rfl, ?yyrcn28⟩) hHeld ?rrrcn28
        case yyrcn28 => (intro wq hSw; (try dsimp only at hSw); go_simp; first | done | with_reducible rfl)
        simp only [Act.put, List.setIfInBounds_toArray, List.set_cons_zero, List.set_cons_succ]
        refine wpAnyH_done (by kernel_rfl) ?_ _
        clear hHeld
        go_wp2_with fail
        exact ⟨⟨i + 1, s2, _, L2, by simp, hlt, HB31⟩, by simp [intOf]; omega⟩
      case some y =>
        have HLK := Lib.hid hlk
        clear hlk HXD HBD
        have HX104' := HX104
        have hcl := HX104.out.cells
        obtain ⟨p0, p1, p2, p3, p4, p5, p6, p7, p8, p9, p10⟩ := hcl
        have hla := HX104.out.lt
        have HG : Hid (s2.g x.k = some y) := Lib.hid (by rw [HB104.out.sr.g]; exact HLK.out)
        obtain ⟨ln, hln⟩ : ∃ z : Int, z = y.st := ⟨_, rfl⟩
        obtain ⟨lt, hlt3⟩ : ∃ z : ByteArray, z = y.text := ⟨_, rfl⟩
        obtain ⟨lb, hlb⟩ : ∃ z : Bool, z = !y.ab := ⟨_, rfl⟩
        have HLV9 : Hid (lookV (s2.g x.k) = .tuple #[.agg #[.int .u64 ln, .string lt, .bool lb], .bool true]) := Lib.hid (by rw [HG.out, hln, hlt3, hlb]; rfl)
        have HLN := Lib.hid hln
        have HLT := Lib.hid hlt3
        have HLB := Lib.hid hlb
        clear hln hlt3 hlb
        go_upto_region 20 with (go_at_call 33; (with_reducible refine (look_g s2 sb x.k w104 HB104.out.cm.st.st HB104.out.cm.hsb HXK.out).mono ?_); rintro e w20 ⟨rfl, b20⟩; rw [HLV9.out]; have HB20 := Lib.hid (HB104.out.below b20); have HX20 := Lib.hid (HX104.out.keep (Keep.of_below b20)); clear b20)
        clear p0 p1 p2 p3 p4 p5 p6 p7 p8 p9 p10 hla
        obtain ⟨lkb, hlkb⟩ : ∃ b, b = w20.heap.size := ⟨_, rfl⟩
        obtain ⟨u20, hu20⟩ : ∃ u, u = w20.alloc (.cells #[.int .u64 ln, .string lt, .bool lb] 36) := ⟨_, rfl⟩
        rw [← hu20, ← hlkb]
        have b20 : Below w20.heap.size w20 u20 := by rw [hu20]; exact below_box _ _
        have HE20 : Hid (u20.heap[lkb]? = some (.cells #[.int .u64 ln, .string lt, .bool lb] 36 (0, 0))) := Lib.hid (by rw [hu20, hlkb]; exact heap_new _ _)
        have HBu := Lib.hid (HB20.out.below b20)
        have HXu := Lib.hid (HX20.out.keep (Keep.of_below b20))
        clear b20 hu20 hlkb
        obtain ⟨p0, p1, p2, p3, p4, p5, p6, p7, p8, p9, p10⟩ := HXu.out.cells
        have hla := HXu.out.lt
        obtain ⟨ra, rc, hve, hrv⟩ := HBu.out.cm.rv
        injection hve with hv1 hv2 hv3
        subst hv1 hv3
        clear hv2
        go_upto_region 21 with (go_at_call 34; (with_reducible refine (r9find_some rb vc2 rm va2 L2 x.k y u20 hrv HLK.out).mono ?_); rintro e w21 ⟨j, rfl, hj, b21⟩; have HB21 := Lib.hid (HBu.out.below b21); have HX21 := Lib.hid (HXu.out.keep (Keep.of_below b21)); have HE21 := Lib.hid ((b21.block _ (Array.getElem?_eq_some_iff.1 HE20.out).1).trans HE20.out); have HJ := Lib.hid hj; clear b21 hj)
        clear p0 p1 p2 p3 p4 p5 p6 p7 p8 p9 p10 hla hrv
        have d0 := cell_of_blk HE21.out 0
        have d1 := cell_of_blk HE21.out 1
        have d2 := cell_of_blk HE21.out 2
        have dl := (Array.getElem?_eq_some_iff.1 HE21.out).1
        simp at d0 d1 d2
        rw [HLN.out] at d0
        rw [HLT.out] at d1
        rw [HLB.out] at d2
        obtain ⟨ra2, rc2, hve2, hrv2⟩ := HB21.out.cm.rv
        injection hve2 with hv1 hv2 hv3
        subst hv1 hv3
        clear hv2
        obtain ⟨lb2, hlb2, hrat⟩ := hrv2.row (fun e => by have := HJ.out; rw [e] at this; simp at this)
        obtain ⟨_, _, _, _, z4, z5, z6, _, _⟩ := hrat.cells j x.k y HJ.out
        have zl := hrat.lt
        have hjn : j < n2 := by have := (List.getElem?_eq_some_iff.1 HJ.out).1; have := HN2.out; omega
        have hjn2 : (j : Int) < (n2 : Int) := by omega
        have tj : decide ((0 : Int) ≤ (j : Int)) = true := decide_eq_true (by omega)
        have hn6 : n2 ≤ 1000 := by have := HB21.out.hl; have := HN2.out; have := HI.out; omega
        have q1 := HB21.out.cells.2
        have ql := HB21.out.cm.ro.lt
        rw [hlb2] at q1
        have HLB2 := Lib.hid hlb2
        clear hrat hrv2 hlb2
        go_quiet (fail)
        clear d0 d1 d2 dl z4 z5 z6 zl hjn hjn2 tj q1 ql hn6
        obtain ⟨u22, hu22⟩ : ∃ u : World, u = w21.drewN nq := ⟨_, rfl⟩
        rw [← hu22]
        have b22 : Below w21.heap.size w21 u22 := by rw [hu22]; exact below_drewN (Below.refl _ _) _
        have HB22 := Lib.hid (HB21.out.below b22)
        have HX22 := Lib.hid (HX21.out.keep (Keep.of_below b22))
        clear b22 hu22
        obtain ⟨p0, p1, p2, p3, p4, p5, p6, p7, p8, p9, p10⟩ := HX22.out.cells
        have hla := HX22.out.lt
        obtain ⟨sl, hsl, _⟩ := Sto.g_some HG.out
        obtain ⟨hs, hhs⟩ : ∃ z : Int, z = sl.hs := ⟨_, rfl⟩
        obtain ⟨hg, hhg⟩ : ∃ z : Int, z = sl.hg := ⟨_, rfl⟩
        have HHV : Hid (handV (s2.f x.k) = .tuple #[.agg #[.int .i64 hs, .int .i64 hg], .bool true]) := Lib.hid (by rw [hsl, hhs, hhg]; rfl)
        have HLV : Hid (I64 hs ∧ s2.ar.live hs hg = true) := Lib.hid (by have h := HB22.out.cm.st.st.i64 hsl; rw [hhs, hhg]; exact ⟨h.1, h.2.2⟩)
        clear hhs hhg hsl
        go_upto_region 24 with (go_at_call 22; (with_reducible refine (handle_any s2 sb x.k u22 HB22.out.cm.st.st HB22.out.cm.hsb HXK.out).mono ?_); rintro e w23 ⟨rfl, b23⟩; rw [HHV.out]; have HB23 := Lib.hid (HB22.out.below b23); have HX23 := Lib.hid (HX22.out.keep (Keep.of_below b23)); clear b23)
        clear p0 p1 p2 p3 p4 p5 p6 p7 p8 p9 p10 hla
        obtain ⟨hb, hhb⟩ : ∃ b, b = w23.heap.size := ⟨_, rfl⟩
        obtain ⟨u24, hu24⟩ : ∃ u, u = w23.alloc (.cells #[.int .i64 hs, .int .i64 hg] 44) := ⟨_, rfl⟩
        rw [← hu24, ← hhb]
        have b24 : Below w23.heap.size w23 u24 := by rw [hu24]; exact below_box _ _
        have HE24 : Hid (u24.heap[hb]? = some (.cells #[.int .i64 hs, .int .i64 hg] 44 (0, 0))) := Lib.hid (by rw [hu24, hhb]; exact heap_new _ _)
        have HB24 := Lib.hid (HB23.out.below b24)
        have HX24 := Lib.hid (HX23.out.keep (Keep.of_below b24))
        clear b24 hu24 hhb
        have HBD : Hid (CB W u24.drew s2 sb rb rm (.slice va2 n2 vc2) L2 (i + 1)) := Lib.hid (HB24.out.below (Below.refl _ _).drew)
        have HKF : Hid (∀ w', Below u24.heap.size u24 w' → w'.cell? ⟨ab, 2, none⟩ = some (.int .i64 x.k.kind) ∧ w'.cell? ⟨ab, 3, none⟩ = some (.int .i64 x.k.a) ∧ w'.cell? ⟨ab, 4, none⟩ = some (.int .i64 x.k.b) ∧ w'.cell? ⟨ab, 5, none⟩ = some (.string x.k.s) ∧ w'.cell? ⟨sb, 0, none⟩ = some (.pointer (some ⟨s2.ab, 0, none⟩)) ∧ w'.cell? ⟨hb, 0, none⟩ = some (.int .i64 hs) ∧ w'.cell? ⟨hb, 1, none⟩ = some (.int .i64 hg)) := Lib.hid (fun w' hb => by
          have hx := (HX24.out.keep (Keep.of_below hb)).cells
          have he := (hb.block _ (Array.getElem?_eq_some_iff.1 HE24.out).1).trans HE24.out
          have hc := (HB24.out.below hb).cells.1
          exact ⟨hx.2.2.1, hx.2.2.2.1, hx.2.2.2.2.1, hx.2.2.2.2.2.1, hc, by rw [cell_of_blk he]; rfl, by rw [cell_of_blk he]; rfl⟩)
        refine wp_region_held_drew (S := (fun w' : World => w'.cell? ⟨ab, 2, none⟩ = some (.int .i64 x.k.kind) ∧ w'.cell? ⟨ab, 3, none⟩ = some (.int .i64 x.k.a) ∧ w'.cell? ⟨ab, 4, none⟩ = some (.int .i64 x.k.b) ∧ w'.cell? ⟨ab, 5, none⟩ = some (.string x.k.s) ∧ w'.cell? ⟨sb, 0, none⟩ = some (.pointer (some ⟨s2.ab, 0, none⟩)) ∧ w'.cell? ⟨hb, 0, none⟩ = some (.int .i64 hs) ∧ w'.cell? ⟨hb, 1, none⟩ = some (.int .i64 hg))) (by kernel_rfl) (HKF.out _ (Below.refl _ _).drew) (fun hHeld => ?_)
        refine wpAnyH_take (i := 0) (oi := ⟨some 170, _, _, _, _, _⟩) (v := ?vvrcs1) rfl (by kernel_rfl) (by kernel_rfl) (by kernel_rfl) (fun _ _ _ h => h) (Or.inl ⟨by rfl, ?yyrcs1⟩) hHeld ?rrrcs1
        case yyrcs1 => (intro wq hSw; (try dsimp only at hSw); go_simp; first | done | with_reducible rfl)
        simp only [Act.put, List.setIfInBounds_toArray, List.set_cons_zero, List.set_cons_succ]
        refine wpAnyH_take (i := 1) (oi := ⟨some 171, _, _, _, _, _⟩) (v := ?vvrcs2) rfl (by kernel_rfl) (by kernel_rfl) (by kernel_rfl) (fun _ _ _ h => h) (Or.inl ⟨by rfl, ?yyrcs2⟩) hHeld ?rrrcs2
        case yyrcs2 => (intro wq hSw; (try dsimp only at hSw); go_simp; first | done | with_reducible rfl)
        simp only [Act.put, List.setIfInBounds_toArray, List.set_cons_zero, List.set_cons_succ]
        refine wpAnyH_take (i := 2) (oi := ⟨some 172, _, _, _, _, _⟩) (v := ?vvrcs3) rfl (by kernel_rfl) (by kernel_rfl) (by kernel_rfl) (fun _ _ _ h => h) (Or.inl ⟨by rfl, ?yyrcs3⟩) hHeld ?rrrcs3
        case yyrcs3 => (intro wq hSw; (try dsimp only at hSw); go_simp; first | done | with_reducible rfl)
        simp only [Act.put, List.setIfInBounds_toArray, List.set_cons_zero, List.set_cons_succ]
        refine wpAnyH_take (i := 3) (oi := ⟨some 173, _, _, _, _, _⟩) (v := ?vvrcs4) rfl (by kernel_rfl) (by kernel_rfl) (by kernel_rfl) (fun _ _ _ h => h) (Or.inl ⟨by rfl, ?yyrcs4⟩) hHeld ?rrrcs4
        case yyrcs4 => (intro wq hSw; (try dsimp only at hSw); go_simp; first | done | with_reducible rfl)
        simp only [Act.put, List.setIfInBounds_toArray, List.set_cons_zero, List.set_cons_succ]
        refine wpAnyH_ready (rs := [4]) (by kernel_rfl) (by simp) ?_
        refine AllReadyH.cons (o := ⟨some 174, _, _, _, _, _⟩) rfl (fun K hK => ?_) AllReadyH.nil
        go_simp
        obtain ⟨ra, rc, _, hrv⟩ := HBD.out.cm.rv
        refine (r9find_some rb rc rm ra L2 x.k y _ hrv HLK.out).mono ?_
        rintro e w31 ⟨j, rfl, _, b31⟩
        have HB31 := Lib.hid (HBD.out.below b31)
        have HK31 := Lib.hid (HKF.out w31 (below_then (Below.refl _ _).drew b31))
        clear b31 hrv
        have tj : decide ((0 : Int) ≤ (j : Int)) = true := decide_eq_true (by omega)
        dsimp only
        refine hK.out _ _ ?ssrcs5 (fun hHeld => ?_)
        case ssrcs5 => (exact HK31.out)
        clear hK K
        try simp only [Act.put, List.setIfInBounds_toArray, List.set_cons_zero, List.set_cons_succ]
        refine wpAnyH_take (i := 5) (oi := ⟨some 175, _, _, _, _, _⟩) (v := ?vvrcs6) rfl (by kernel_rfl) (by kernel_rfl) (by kernel_rfl) (fun _ _ _ h => h) (Or.inl ⟨by rfl, ?yyrcs6⟩) hHeld ?rrrcs6
        case yyrcs6 => (intro wq hSw; (try dsimp only at hSw); go_simp; first | done | with_reducible rfl)
        simp only [Act.put, List.setIfInBounds_toArray, List.set_cons_zero, List.set_cons_succ]
        refine wpAnyH_take (i := 6) (oi := ⟨some 176, _, _, _, _, _⟩) (v := ?vvrcs7) rfl (by kernel_rfl) (by kernel_rfl) (by kernel_rfl) (fun _ _ _ h => h) (Or.inl ⟨by rfl, ?yyrcs7⟩) hHeld ?rrrcs7
        case yyrcs7 => (intro wq hSw; (try dsimp only at hSw); go_simp; first | done | with_reducible rfl)
        simp only [Act.put, List.setIfInBounds_toArray, List.set_cons_zero, List.set_cons_succ]
        refine wpAnyH_take (i := 7) (oi := ⟨some 177, _, _, _, _, _⟩) (v := ?vvrcs8) rfl (by kernel_rfl) (by kernel_rfl) (by kernel_rfl) (fun _ _ _ h => h) (Or.inl ⟨by rfl, ?yyrcs8⟩) hHeld ?rrrcs8
        case yyrcs8 => (intro wq hSw; (try dsimp only at hSw); go_simp; first | done | with_reducible rfl)
        simp only [Act.put, List.setIfInBounds_toArray, List.set_cons_zero, List.set_cons_succ]
        refine wpAnyH_take (i := 8) (oi := ⟨some 178, _, _, _, _, _⟩) (v := ?vvrcs9) rfl (by kernel_rfl) (by kernel_rfl) (by kernel_rfl) (fun _ _ _ h => h) (Or.inl ⟨by rfl, ?yyrcs9⟩) hHeld ?rrrcs9
        case yyrcs9 => (intro wq hSw; (try dsimp only at hSw); go_simp; first | done | with_reducible rfl)
        simp only [Act.put, List.setIfInBounds_toArray, List.set_cons_zero, List.set_cons_succ]
        refine wpAnyH_take (i := 9) (oi := ⟨some 179, _, _, _, _, _⟩) (v := ?vvrcs10) rfl (by kernel_rfl) (by kernel_rfl) (by kernel_rfl) (fun _ _ _ h => h) (Or.inl ⟨by rfl, ?yyrcs10⟩) hHeld ?rrrcs10
        case yyrcs10 => (intro wq hSw; (try dsimp only at hSw); go_simp; first | done | with_reducible rfl)
        simp only [Act.put, List.setIfInBounds_toArray, List.set_cons_zero, List.set_cons_succ]
        refine wpAnyH_take (i := 10) (oi := ⟨some 180, _, _, _, _, _⟩) (v := ?vvrcs11) rfl (by kernel_rfl) (by kernel_rfl) (by kernel_rfl) (fun _ _ _ h => h) (Or.inl ⟨by rfl, ?yyrcs11⟩) hHeld ?rrrcs11
        case yyrcs11 => (intro wq hSw; (try dsimp only at hSw); go_simp; first | done | with_reducible rfl)
        simp only [Act.put, List.setIfInBounds_toArray, List.set_cons_zero, List.set_cons_succ]
        refine wpAnyH_take (i := 11) (oi := ⟨some 181, _, _, _, _, _⟩) (v := ?vvrcs12) rfl (by kernel_rfl) (by kernel_rfl) (by kernel_rfl) (fun _ _ _ h => h) (Or.inl ⟨by rfl, ?yyrcs12⟩) hHeld ?rrrcs12
        case yyrcs12 => (intro wq hSw; (try dsimp only at hSw); go_simp; first | done | with_reducible rfl)
        simp only [Act.put, List.setIfInBounds_toArray, List.set_cons_zero, List.set_cons_succ]
        refine wpAnyH_take (i := 12) (oi := ⟨some 182, _, _, _, _, _⟩) (v := ?vvrcs13) rfl (by kernel_rfl) (by kernel_rfl) (by kernel_rfl) (fun _ _ _ h => h) (Or.inl ⟨by rfl, ?yyrcs13⟩) hHeld ?rrrcs13
        case yyrcs13 => (intro wq hSw; (try dsimp only at hSw); go_simp; first | done | with_reducible rfl)
        simp only [Act.put, List.setIfInBounds_toArray, List.set_cons_zero, List.set_cons_succ]
        refine wpAnyH_take (i := 13) (oi := ⟨some 183, _, _, _, _, _⟩) (v := ?vvrcs14) rfl (by kernel_rfl) (by kernel_rfl) (by kernel_rfl) (fun _ _ _ h => h) (Or.inl ⟨by rfl, ?yyrcs14⟩) hHeld ?rrrcs14
        case yyrcs14 => (intro wq hSw; (try dsimp only at hSw); go_simp; first | done | with_reducible rfl)
        simp only [Act.put, List.setIfInBounds_toArray, List.set_cons_zero, List.set_cons_succ]
        refine wpAnyH_take (i := 14) (oi := ⟨some 184, _, _, _, _, _⟩) (v := ?vvrcs15) rfl (by kernel_rfl) (by kernel_rfl) (by kernel_rfl) (fun _ _ _ h => h) (Or.inl ⟨by rfl, ?yyrcs15⟩) hHeld ?rrrcs15
        case yyrcs15 => (intro wq hSw; (try dsimp only at hSw); go_simp; first | done | with_reducible rfl)
        simp only [Act.put, List.setIfInBounds_toArray, List.set_cons_zero, List.set_cons_succ]
        refine wpAnyH_ready (rs := [15]) (by kernel_rfl) (by simp) ?_
        refine AllReadyH.cons (o := ⟨some 185, _, _, _, _, _⟩) rfl (fun K hK => ?_) AllReadyH.nil
        go_simp
        refine (live_t s2 w31 HB31.out.cm.st.st hs hg HLV.out.1 HLV.out.2).mono ?_
        rintro e w32 ⟨rfl, b32⟩
        have HB32 := Lib.hid (HB31.out.below b32)
        have HK32 : Hid (w32.cell? ⟨ab, 2, none⟩ = some (.int .i64 x.k.kind) ∧ w32.cell? ⟨ab, 3, none⟩ = some (.int .i64 x.k.a) ∧ w32.cell? ⟨ab, 4, none⟩ = some (.int .i64 x.k.b) ∧ w32.cell? ⟨ab, 5, none⟩ = some (.string x.k.s) ∧ w32.cell? ⟨sb, 0, none⟩ = some (.pointer (some ⟨s2.ab, 0, none⟩)) ∧ w32.cell? ⟨hb, 0, none⟩ = some (.int .i64 hs) ∧ w32.cell? ⟨hb, 1, none⟩ = some (.int .i64 hg)) := Lib.hid ⟨below_cell b32 _ (World.block_lt_of_cell? w31 _ HK31.out.1) HK31.out.1, below_cell b32 _ (World.block_lt_of_cell? w31 _ HK31.out.2.1) HK31.out.2.1, below_cell b32 _ (World.block_lt_of_cell? w31 _ HK31.out.2.2.1) HK31.out.2.2.1, below_cell b32 _ (World.block_lt_of_cell? w31 _ HK31.out.2.2.2.1) HK31.out.2.2.2.1, below_cell b32 _ (World.block_lt_of_cell? w31 _ HK31.out.2.2.2.2.1) HK31.out.2.2.2.2.1, below_cell b32 _ (World.block_lt_of_cell? w31 _ HK31.out.2.2.2.2.2.1) HK31.out.2.2.2.2.2.1, below_cell b32 _ (World.block_lt_of_cell? w31 _ HK31.out.2.2.2.2.2.2) HK31.out.2.2.2.2.2.2⟩
        clear b32
        dsimp only
        refine hK.out _ _ ?ssrcs16 (fun hHeld => ?_)
        case ssrcs16 => (exact HK32.out)
        clear hK K
        try simp only [Act.put, List.setIfInBounds_toArray, List.set_cons_zero, List.set_cons_succ]
        refine wpAnyH_take (i := 16) (oi := ⟨some 186, _, _, _, _, _⟩) (v := ?vvrcs17) rfl (by kernel_rfl) (by kernel_rfl) (by kernel_rfl) (fun _ _ _ h => h) (Or.inl ⟨by rfl, ?yyrcs17⟩) hHeld ?rrrcs17
        case yyrcs17 => (intro wq hSw; (try dsimp only at hSw); go_simp; first | done | with_reducible rfl)
        simp only [Act.put, List.setIfInBounds_toArray, List.set_cons_zero, List.set_cons_succ]
        refine wpAnyH_take (i := 17) (oi := ⟨some 187, _, _, _, _, _⟩) (v := ?vvrcs18) rfl (by kernel_rfl) (by kernel_rfl) (by kernel_rfl) (fun _ _ _ h => h) (Or.inl ⟨by rfl, ?yyrcs18⟩) hHeld ?rrrcs18
        case yyrcs18 => (intro wq hSw; (try dsimp only at hSw); go_simp; first | done | with_reducible rfl)
        simp only [Act.put, List.setIfInBounds_toArray, List.set_cons_zero, List.set_cons_succ]
        refine wpAnyH_take (i := 18) (oi := ⟨some 188, _, _, _, _, _⟩) (v := ?vvrcs19) rfl (by kernel_rfl) (by kernel_rfl) (by kernel_rfl) (fun _ _ _ h => h) (Or.inl ⟨by rfl, ?yyrcs19⟩) hHeld ?rrrcs19
        case yyrcs19 => (intro wq hSw; (try dsimp only at hSw); go_simp; first | done | with_reducible rfl)
        simp only [Act.put, List.setIfInBounds_toArray, List.set_cons_zero, List.set_cons_succ]
        refine wpAnyH_take (i := 19) (oi := ⟨some 189, _, _, _, _, _⟩) (v := ?vvrcs20) rfl (by kernel_rfl) (by kernel_rfl) (by kernel_rfl) (fun _ _ _ h => h) (Or.inl ⟨by rfl, ?yyrcs20⟩) hHeld ?rrrcs20
        case yyrcs20 => (intro wq hSw; (try dsimp only at hSw); go_simp; first | done | with_reducible rfl)
        simp only [Act.put, List.setIfInBounds_toArray, List.set_cons_zero, List.set_cons_succ]
        refine wpAnyH_take (i := 20) (oi := ⟨some 190, _, _, _, _, _⟩) (v := ?vvrcs21) rfl (by kernel_rfl) (by kernel_rfl) (by kernel_rfl) (fun _ _ _ h => h) (Or.inl ⟨by rfl, ?yyrcs21⟩) hHeld ?rrrcs21
        case yyrcs21 => (intro wq hSw; (try dsimp only at hSw); go_simp; first | done | with_reducible rfl)
        simp only [Act.put, List.setIfInBounds_toArray, List.set_cons_zero, List.set_cons_succ]
        refine wpAnyH_take (i := 21) (oi := ⟨some 191, _, _, _, _, _⟩) (v := ?vvrcs22) rfl (by kernel_rfl) (by kernel_rfl) (by kernel_rfl) (fun _ _ _ h => h) (Or.inl ⟨by rfl, ?yyrcs22⟩) hHeld ?rrrcs22
        case yyrcs22 => (intro wq hSw; (try dsimp only at hSw); go_simp; first | done | with_reducible rfl)
        simp only [Act.put, List.setIfInBounds_toArray, List.set_cons_zero, List.set_cons_succ]
        refine wpAnyH_take (i := 22) (oi := ⟨some 192, _, _, _, _, _⟩) (v := ?vvrcs23) rfl (by kernel_rfl) (by kernel_rfl) (by kernel_rfl) (fun _ _ _ h => h) (Or.inl ⟨by rfl, ?yyrcs23⟩) hHeld ?rrrcs23
        case yyrcs23 => (intro wq hSw; (try dsimp only at hSw); go_simp; first | done | with_reducible rfl)
        simp only [Act.put, List.setIfInBounds_toArray, List.set_cons_zero, List.set_cons_succ]
        refine wpAnyH_take (i := 23) (oi := ⟨some 193, _, _, _, _, _⟩) (v := undef) rfl (by kernel_rfl) (by kernel_rfl) (by kernel_rfl) (fun _ _ _ h => h) (Or.inr ⟨by rfl, rfl⟩) hHeld ?_
        simp only [Act.put, List.setIfInBounds_toArray, List.set_cons_zero, List.set_cons_succ]
        refine wpAnyH_take (i := 24) (oi := ⟨some 194, _, _, _, _, _⟩) (v := undef) rfl (by kernel_rfl) (by kernel_rfl) (by kernel_rfl) (fun _ _ _ h => h) (Or.inr ⟨by rfl, rfl⟩) hHeld ?_
        simp only [Act.put, List.setIfInBounds_toArray, List.set_cons_zero, List.set_cons_succ]
        refine wpAnyH_take (i := 25) (oi := ⟨some 195, _, _, _, _, _⟩) (v := undef) rfl (by kernel_rfl) (by kernel_rfl) (by kernel_rfl) (fun _ _ _ h => h) (Or.inr ⟨by rfl, rfl⟩) hHeld ?_
        simp only [Act.put, List.setIfInBounds_toArray, List.set_cons_zero, List.set_cons_succ]
        refine wpAnyH_take (i := 26) (oi := ⟨some 196, _, _, _, _, _⟩) (v := ?vvrcs27) rfl (by kernel_rfl) (by kernel_rfl) (by kernel_rfl) (fun _ _ _ h => h) (Or.inl ⟨by rfl, ?yyrcs27⟩) hHeld ?rrrcs27
        case yyrcs27 => (intro wq hSw; (try dsimp only at hSw); go_simp; first | done | with_reducible rfl)
        simp only [Act.put, List.setIfInBounds_toArray, List.set_cons_zero, List.set_cons_succ]
        refine wpAnyH_take (i := 27) (oi := ⟨some 197, _, _, _, _, _⟩) (v := ?vvrcs28) rfl (by kernel_rfl) (by kernel_rfl) (by kernel_rfl) (fun _ _ _ h => h) (Or.inl ⟨by rfl, ?yyrcs28⟩) hHeld ?rrrcs28
        case yyrcs28 => (intro wq hSw; (try dsimp only at hSw); go_simp; first | done | with_reducible rfl)
        simp only [Act.put, List.setIfInBounds_toArray, List.set_cons_zero, List.set_cons_succ]
        refine wpAnyH_done (by kernel_rfl) ?_ _
        clear hHeld
        go_wp2_with fail
        exact ⟨⟨i + 1, s2, _, L2, by simp, hlt, HB32⟩, by simp [intOf]; omega⟩
    · have ti : decide ((i : Int) < (n : Int)) = false := decide_eq_false (by omega)
      go_wp2_with fail
      go_ret
      exact ⟨rfl, below_then HB00.out HCB.out.cm.st.bel⟩
set_option maxRecDepth 100000 in
set_option maxHeartbeats 2000000 in
theorem cacts_bad (room : Int) (a1 : Option Addr) (n cap : Nat) (w : World) (hr : room < 0 ∨ 1048576 < room) (hn : n ≤ 80) :
    Calls Try.prog 5 #[.int .i64 room, .slice a1 n cap] w fun e w' => e = .returned (.bool true) ∧ Below w.heap.size w w' := by
  have t0 : decide ((80 : Int) < (n : Int)) = false := decide_eq_false (by omega)
  have t1 : decide (80 < n) = false := decide_eq_false (by omega)
  have HR := Lib.hid hr
  by_cases hneg : room < 0
  · have t2 : decide (room < 0) = true := decide_eq_true hneg
    clear hneg hr
    go_enter Try.func5, Try.ntmps5
    go_wp2_with fail
    refine (awake9_any _).mono ?_
    rintro e w1 ⟨rfl, hb1⟩
    go_wp2_with fail
    refine (new_store_bad room _ HR.out).mono ?_
    rintro e w2 ⟨rfl, rfl⟩
    go_wp2_with fail
    go_ret
    exact ⟨rfl, hb1⟩
  · have t2 : decide (room < 0) = false := decide_eq_false hneg
    have t3 : decide ((1048576 : Int) < room) = true := decide_eq_true (by omega)
    clear hneg hr
    go_enter Try.func5, Try.ntmps5
    go_wp2_with fail
    refine (awake9_any _).mono ?_
    rintro e w1 ⟨rfl, hb1⟩
    go_wp2_with fail
    refine (new_store_bad room _ HR.out).mono ?_
    rintro e w2 ⟨rfl, rfl⟩
    go_wp2_with fail
    go_ret
    exact ⟨rfl, hb1⟩
set_option maxRecDepth 100000 in
set_option maxHeartbeats 1000000 in
theorem cacts_long (room : Int) (a1 : Option Addr) (n cap : Nat) (w : World) (hn : 80 < n) (hm : n ≤ maxLen) :
    Calls Try.prog 5 #[.int .i64 room, .slice a1 n cap] w fun e w' => e = .returned (.bool true) ∧ Below w.heap.size w w' := by
  unfold maxLen at hm
  have t0 : decide ((80 : Int) < (n : Int)) = true := decide_eq_true (by omega)
  have t1 : decide (80 < n) = true := decide_eq_true (by omega)
  go_enter Try.func5, Try.ntmps5
  go_wp2_with fail
  refine (awake9_any _).mono ?_
  rintro e w1 ⟨rfl, hb1⟩
  go_wp2_with fail
  refine (awake9_any _).mono ?_
  rintro e w2 ⟨rfl, hb2⟩
  go_wp2_with fail
  go_ret
  exact ⟨rfl, below_then hb1 hb2⟩
theorem cacts_law (room : Int) (a1 : Option Addr) (n cap : Nat) (w : World) (hm : n ≤ maxLen) (hat : ∀ i, i < n → ActAt9 w a1 i) :
    Calls Try.prog 5 #[.int .i64 room, .slice a1 n cap] w fun e w' => e = .returned (.bool true) ∧ Below w.heap.size w w' := by
  by_cases hn : n ≤ 80
  · by_cases hr : room < 0 ∨ 1048576 < room
    · exact cacts_bad room a1 n cap w hr hn
    · obtain ⟨rm, rfl⟩ : ∃ rm : Nat, room = (rm : Int) := ⟨room.toNat, by omega⟩
      exact cacts_walk rm a1 n cap w (by omega) hn hat
  · exact cacts_long room a1 n cap w (by omega) hm
end Go.Proofs.Ytaanohgkdpohhaa

