/- OccActs: whatever transactions do. Conditions: each theorem's own premises. -/
import Derived.Test.YtkhkdedjffkhdaaGreatOaB
import Derived.Test.YtkhkdedjffkhdaaGreatOcU
set_option linter.unusedVariables false
set_option linter.unusedSimpArgs false
namespace Go.Proofs.YtkhkdedjffkhdaaGreat
open Go.RowKit Go.Maps

theorem wpAnyH_nar20 {P : Program} {md : Region.Mode} {ops : Array Oper} {Q : Exit → Act → World → Prop} {S S' : World → Prop} (hs : ∀ w, S' w → S w) :
    ∀ (fuel : Nat) (listed : Array Bool) (a : Act) (w : World), wpAnyH P md ops Q S' fuel listed a w → wpAnyH P md ops Q S fuel listed a w
  | 0, _, _, _, h => h
  | fuel + 1, _, _, _, h => ⟨h.1, fun i hi => wpOp_mono (fun a' w' h' => ⟨hs _ h'.1, wpAnyH_nar20 hs fuel _ a' w' h'.2⟩) (h.2 i hi)⟩
/-- act i of an argument -/
def ActAt20 (w : World) (a : Option Addr) (i : Nat) : Prop := ∃ (x : Ac20) (b off : Nat), a = some ⟨b, off, none⟩ ∧ b < w.heap.size ∧ x.Ok ∧
  w.cell? ⟨b, off + i * 9, none⟩ = some (.int .i64 x.kind) ∧ w.cell? ⟨b, off + i * 9 + 1, none⟩ = some (.int .i64 x.tt) ∧ w.cell? ⟨b, off + i * 9 + 2, none⟩ = some (.int .i64 x.k.kind) ∧ w.cell? ⟨b, off + i * 9 + 3, none⟩ = some (.int .i64 x.k.a) ∧ w.cell? ⟨b, off + i * 9 + 4, none⟩ = some (.int .i64 x.k.b) ∧ w.cell? ⟨b, off + i * 9 + 5, none⟩ = some (.string x.k.s) ∧
  w.cell? ⟨b, off + i * 9 + 6, none⟩ = some (.string x.val) ∧ w.cell? ⟨b, off + i * 9 + 7, none⟩ = some (.int .u64 x.last) ∧ w.cell? ⟨b, off + i * 9 + 8, none⟩ = some (.int .i64 x.ep)
theorem ActAt20.below {w w' : World} {a : Option Addr} {i : Nat} (h : ActAt20 w a i) (hb : Below w.heap.size w w') : ActAt20 w' a i := by
  obtain ⟨x, b, off, rfl, hl, ho, r⟩ := h
  have e : ∀ j, w'.cell? ⟨b, j, none⟩ = w.cell? ⟨b, j, none⟩ := fun j => hb.cell (p := ⟨b, j, none⟩) hl
  exact ⟨x, b, off, rfl, Nat.lt_of_lt_of_le hl hb.size, ho, by simpa only [e] using r⟩
/-- a whole number's rest, made positive -/
theorem rest_of (z : Int) (k : Nat) (hk : 0 < k) (hk2 : k ≤ 100) : ∃ (r : Int) (n : Nat), z.tmod k = r ∧ -100 < r ∧ r < 100 ∧ (r + k).tmod k = (n : Int) ∧ n < k := by
  refine ⟨z.tmod k, ((z.tmod k + k).tmod k).toNat, rfl, ?_, ?_, ?_, ?_⟩
  · have := Int.lt_tmod_of_pos z (b := k) (by omega); omega
  · have := Int.tmod_lt_of_pos z (b := k) (by omega); omega
  · have h1 := Int.lt_tmod_of_pos z (b := k) (by omega)
    have h2 := Int.tmod_nonneg (k : Int) (a := z.tmod k + k) (by omega)
    omega
  · have h1 := Int.lt_tmod_of_pos z (b := k) (by omega)
    have h2 := Int.tmod_nonneg (k : Int) (a := z.tmod k + k) (by omega)
    have h3 := Int.tmod_lt_of_pos (z.tmod k + k) (b := k) (by omega)
    omega
/-- in the acts' loop -/
structure Lp (W wr : World) (tp rp sb rb i : Nat) (m : W3) (p : S3) : Prop where
  m3 : M3 W wr m p
  v3 : V3 m p i
  bel : Below W.heap.size W wr
  tp : m.tp = tp
  rp : m.rp = rp
  sb : m.s.sb = sb
  rb : m.rb = rb
theorem Lp.below {W wr w' : World} {tp rp sb rb i : Nat} {m : W3} {p : S3} (h : Lp W wr tp rp sb rb i m p) (hb : Below wr.heap.size wr w') : Lp W w' tp rp sb rb i m p := ⟨h.m3.below hb, h.v3, below_then h.bel hb, h.tp, h.rp, h.sb, h.rb⟩
theorem Lp.does {W wr w' : World} {tp rp sb rb i : Nat} {m : W3} {p : S3} {e : Ending} (h : Lp W wr tp rp sb rb i m p) (hd : DoPost W wr m i e w') : e = .returned (.bool true) ∧ ∃ m' p', Lp W w' tp rp sb rb (i + 1) m' p' ∧ Kp wr w' m m' := by
  obtain ⟨he, m', p', h1, h2, h3, e1, e2, e3, e4, _⟩ := hd
  exact ⟨he, m', p', ⟨h1, h2, h3.bel h.m3 h.bel, e1.trans h.tp, e2.trans h.rp, e3.trans h.sb, e4.trans h.rb⟩, h3⟩
/-- while the transactions come -/
structure Lq (W wr : World) (i : Nat) (ta : Option Addr) (tc : Nat) (ra : Option Addr) (rc : Nat) (s1 : Sto) (rb rm : Nat) (m : W3) (tl rl : List Nat) : Prop where
  n3 : N3 W wr i i m (.slice ta i tc) (.slice ra i rc) tl rl
  tl : tl.length = i
  rl : rl.length = i
  bel : Below W.heap.size W wr
  s : m.s = s1
  rb : m.rb = rb
  rm : m.room = rm
/-- at the beginning -/
def M00 (s1 : Sto) (rb rm : Nat) : W3 := ⟨fun _ => ⟨⟨0, 0, 0, none, none, none, 0, 0, 0⟩, 0, 0, 0⟩, s1, fun _ => ⟨⟨0, 0, 0, none, 0, none, 0⟩, none, 0⟩, rb, rm, .slice none 0 0, 0, 0⟩
theorem lq_start {W w1 : World} {s1 : Sto} {rm : Nat} (hs : StS W w1 s1) : Lq W (w1.alloc (.cells #[.int .i64 (rm : Int), .slice none 0 0] 34)) 0 none 0 none 0 s1 w1.heap.size rm (M00 s1 w1.heap.size rm) [] [] := by
  have hb := below_box w1 (.cells #[.int .i64 (rm : Int), .slice none 0 0] 34)
  refine ⟨⟨fun j hj => absurd hj (Nat.not_lt_zero _), hs.st.stay hb, fun j hj => absurd hj (Nat.not_lt_zero _), fun j hj => absurd hj (Nat.not_lt_zero _), ⟨heap_new w1 _, RowK.Own.nil kC _ _, Nat.zero_le _⟩, fun j hj => absurd hj (Nat.not_lt_zero _), RowK.Own.nil kPt _ _, RowK.Own.nil kPr _ _, fun j x hx => by simp at hx, fun j x hx => by simp at hx, fun c d x hcd hc hd => ?_, fun c x hx => ?_⟩, rfl, rfl, below_then hs.bel hb, rfl, rfl, rfl⟩
  · have key : ∀ c, ownI (M00 s1 w1.heap.size rm) 0 0 (.slice none 0 0) (.slice none 0 0) c x → (c = .st ∧ x < w1.heap.size) ∨ (c = .rs ∧ x = w1.heap.size) := fun c hc => by
      cases c with
      | st => exact .inl ⟨rfl, hs.st.lt hc⟩
      | tx j => exact absurd hc.1 (Nat.not_lt_zero _)
      | rs =>
        rcases hc with e | e
        · exact .inr ⟨rfl, e⟩
        · cases e
      | rx j => exact absurd hc.1 (Nat.not_lt_zero _)
      | pt => rcases hc with e | e <;> cases e
    rcases key c hc with ⟨e1, h1⟩ | ⟨e1, h1⟩
    · rcases key d hd with ⟨e2, h2⟩ | ⟨e2, h2⟩
      · exact hcd (e1.trans e2.symm)
      · omega
    · rcases key d hd with ⟨e2, h2⟩ | ⟨e2, h2⟩
      · omega
      · exact hcd (e1.trans e2.symm)
  · cases c with
    | st => exact hs.own x hx
    | tx j => exact absurd hx.1 (Nat.not_lt_zero _)
    | rs =>
      rcases hx with e | e
      · have := hs.bel.size; have e : x = w1.heap.size := e; omega
      · cases e
    | rx j => exact absurd hx.1 (Nat.not_lt_zero _)
    | pt => rcases hx with e | e <;> cases e
theorem lq_app {W w w' : World} {i k : Nat} {m : W3} {tv rv v : Value} {tl rl : List Nat} (h : N3 W w i k m tv rv tl rl) (hb : Below W.heap.size W w) (hv : v = tv ∨ v = rv) (hg : w.grownBy w' v.ownBlock) : Below W.heap.size W w' :=
  hb.trans ⟨hg.os, hg.tape, hg.output, hg.size, fun x hx => hg.block x (Nat.lt_of_lt_of_le hx hb.size) (fun e => by
    have h9 := h.new .pt x (by rcases hv with rfl | rfl; exact .inl e.symm; exact .inr e.symm)
    omega)⟩
set_option maxRecDepth 100000 in
set_option maxHeartbeats 16000000 in
theorem oacts_walk (room : Int) (a1 : Option Addr) (n cap : Nat) (w : World) (hn : n ≤ 120) (hat : ∀ i, i < n → ActAt20 w a1 i) :
    Calls Tryz.prog 3 #[.int .i64 room, .slice a1 n cap] w fun e w' => e = .returned (.bool true) ∧ Below w.heap.size w w' := by
  obtain ⟨r1, rm, hr1, hr2, hr3, hr4, hr5⟩ := rest_of room 20 (by decide) (by decide)
  have hr1 : room.tmod 20 = r1 := hr1
  have hr4 : (r1 + 20).tmod 20 = (rm : Int) := hr4
  have wr1 : IntKind.i64.wrap r1 = r1 := IntWalk.i64_in _ (by omega)
  have wr2 : IntKind.i64.wrap (r1 + 20) = r1 + 20 := IntWalk.i64_in _ (by omega)
  have wr3 : IntKind.i64.wrap (rm : Int) = (rm : Int) := IntWalk.i64_in _ (by omega)
  have HRM : Hid (rm ≤ 19) := Lib.hid (by omega)
  have HAT := Lib.hid hat
  have t0 : decide ((120 : Int) < (n : Int)) = false := decide_eq_false (by omega)
  have t1 : decide (120 < n) = false := decide_eq_false (by omega)
  clear hat hr2 hr3 hr5
  go_enter Tryz.func3, Tryz.ntmps3
  go_wp2_with fail
  refine (awake20_any _).mono ?_
  rintro e W ⟨rfl, hb0⟩
  have HAW : Hid (∀ i, i < n → ActAt20 W a1 i) := Lib.hid (fun i hi => (HAT.out i hi).below hb0)
  have HB00 := Lib.hid hb0
  clear hb0 HAT
  go_wp2_with fail
  refine (new_g rm _ (by have := HRM.out; omega)).mono ?_
  rintro e w1 ⟨s1, rfl, hS1, g1, n1, c1, r9⟩
  obtain ⟨sb, hsb⟩ : ∃ b, b = s1.sb := ⟨_, rfl⟩
  rw [← hsb]
  have HS1 := Lib.hid hS1
  have HC1 := Lib.hid (And.intro g1 (And.intro n1 (And.intro c1 (And.intro r9 hsb))))
  clear hS1 g1 n1 c1 r9 hsb
  go_wp2_with fail
  refine (ocnew_nil 1 _).mono ?_
  rintro e w2 ⟨rfl, rfl⟩
  go_upto_region 9 with fail
  clear t0 t1 hr1 hr4 wr1 wr2 wr3
  have hL0 := lq_start (rm := rm) HS1.out
  obtain ⟨rb, hrb⟩ : ∃ b, b = w1.heap.size := ⟨_, rfl⟩
  obtain ⟨u1, hu1⟩ : ∃ u, u = w1.alloc (.cells #[.int .i64 (rm : Int), .slice none 0 0] 34) := ⟨_, rfl⟩
  rw [← hu1, ← hrb] at hL0 ⊢
  have HL0 := Lib.hid hL0
  clear hu1 hrb hL0 HS1
  go_wp2_with fail
  go_loopw [11, 12, 13] (fun s11 s12 iv wr => ∃ (i : Nat) (ta : Option Addr) (tc : Nat) (ra : Option Addr) (rc : Nat) (m : W3) (tl rl : List Nat), iv = .int .i64 (i : Int) ∧ i ≤ 3 ∧ s11 = .slice ta i tc ∧ s12 = .slice ra i rc ∧ Hid (Lq W wr i ta tc ra rc s1 rb rm m tl rl)) (fun _ _ iv _ => 3 - (intOf iv).toNat)
  case atStart => exact ⟨0, none, 0, none, 0, M00 s1 rb rm, [], [], rfl, Nat.zero_le _, rfl, rfl, HL0⟩
  case round =>
    obtain ⟨i1, ta, tc, ra, rc, m, tl, rl, rfl, hi, rfl, rfl, HQ⟩ := hrel
    by_cases hlt : i1 < 3
    · have hltz : (i1 : Int) < 3 := by omega
      have HLT := Lib.hid hlt
      go_wp2_with fail
      refine (ocnew_any sb (i1 : Int) _).mono ?_
      rintro e x1 ⟨mm, bs, bw, bm, rfl, hcb, ht, hx, h1, h2, h3, h4, h5, hbx, e1, e2, e3⟩
      have hA := new_a HQ.out.n3.st ht hx (by rw [hcb, HQ.out.s]; exact HC1.out.2.2.2.2) hbx h1 h2 h3 h4 h5 e1 e2 e3
      have hN := HQ.out.n3.addT HQ.out.bel.size hA.1 hA.2 hbx
      obtain ⟨tb, htb⟩ : ∃ b, b = mm.tb := ⟨_, rfl⟩
      rw [← htb]
      have HN1 : Hid (N3 W x1 (i1 + 1) i1 { m with a := updN m.a i1 ⟨mm, bs, bw, bm⟩ } (.slice ta i1 tc) (.slice ra i1 rc) tl rl ∧ Below W.heap.size W x1 ∧ tb = ((updN m.a i1 ⟨mm, bs, bw, bm⟩) i1).m.tb) := Lib.hid ⟨hN, below_then HQ.out.bel hbx, by rw [updN_same]; exact htb⟩
      clear hA hN hcb ht hx h1 h2 h3 h4 h5 hbx e1 e2 e3 htb
      have HO1 : Hid (kPt.Own (x1.alloc (.cells #[.pointer (some ⟨tb, 0, none⟩)] 28)) 0 (.slice ta i1 tc) tl ∧ kPt.V (x1.alloc (.cells #[.pointer (some ⟨tb, 0, none⟩)] 28)) (some ⟨x1.heap.size, 0, none⟩) [tb]) := Lib.hid ⟨(HN1.out.1.ot).alloc _, fun _ => ⟨_, 0, rfl, RowK.new_at (k := kPt) (l := [tb]) (heap_new x1 _) rfl⟩⟩
      go_upto_region 18 with (at_builtin; refine RowK.wpList_app (k := kPt) (B := 0) (l := tl) rfl (.tmp 77) (.tmp 79) rfl rfl HO1.out.1 (some ⟨x1.heap.size, 0, none⟩) 1 [tb] 1 rfl rfl HO1.out.2 (fun e => by cases e) (by have := HQ.out.tl; have := HLT.out; simp only [List.length_singleton]; omega) (Nat.zero_le _) ?_; intro v8 x2 hA; obtain ⟨ta2, tc2, rfl⟩ := RowK.Own.shape hA.1; obtain ⟨i2, hi2⟩ : ∃ k, k = i1 + 1 := ⟨_, rfl⟩; rw [show (tl ++ [tb]).length = i2 by rw [List.length_append, HQ.out.tl, hi2]; rfl] at hA ⊢; have HA := Lib.hid hA; have HI2 := Lib.hid hi2; clear hA hi2)
      have hb1 := below_box x1 (.cells #[.pointer (some ⟨tb, 0, none⟩)] 28)
      have hN1b := HN1.out.1.below hb1
      have hN2 := hN1b.appT (below_then HN1.out.2.1 hb1).size (x := tb) (by rw [HQ.out.tl]; exact ⟨Nat.lt_succ_self _, HN1.out.2.2⟩) HA.out
      have hB2 : Below W.heap.size W x2 := lq_app hN1b (below_then HN1.out.2.1 hb1) (.inl rfl) HA.out.2.1
      have HN2 : Hid (N3 W x2 (i1 + 1) i1 { m with a := updN m.a i1 ⟨mm, bs, bw, bm⟩ } (.slice ta2 i2 tc2) (.slice ra i1 rc) (tl ++ [tb]) rl ∧ Below W.heap.size W x2) := Lib.hid ⟨hN2, hB2⟩
      clear hb1 hN1b hN2 hB2 HA HO1
      obtain ⟨sq, hsq⟩ : ∃ b, b = x2.heap.size := ⟨_, rfl⟩
      obtain ⟨rt, hrt⟩ : ∃ b, b = x2.heap.size + 1 := ⟨_, rfl⟩
      obtain ⟨x4, hx4⟩ : ∃ u, u = (x2.alloc (.cells #[.slice none 0 0] 41)).alloc (.cells #[.pointer (some ⟨rb, 0, none⟩), .int .i64 (i1 : Int), .int .i64 0, .int .i64 0, .pointer (some ⟨x2.heap.size, 0, none⟩), .slice none 0 0, .slice none 0 0, .int .u64 0, .int .u64 0, .int .i64 0] 45) := ⟨_, rfl⟩
      have hb4 : Below x2.heap.size x2 x4 := by rw [hx4]; exact (below_box x2 _).alloc (by simp) _
      have hq1 : x4.heap[sq]? = some (.cells #[.slice none 0 0] 41 (0, 0)) := by rw [hx4, hsq]; exact (Below.heap_alloc _ _ _ (by simp)).trans (heap_new x2 _)
      have hq2 : x4.heap[rt]? = some (.cells #[.pointer (some ⟨rb, 0, none⟩), .int .i64 (i1 : Int), .int .i64 0, .int .i64 0, .pointer (some ⟨sq, 0, none⟩), .slice none 0 0, .slice none 0 0, .int .u64 0, .int .u64 0, .int .i64 0] 45 (0, 0)) := by
        rw [hx4, hrt, hsq, ← size_alloc x2 (.cells #[.slice none 0 0] 41)]
        exact heap_new _ _
      have hrn := ref_new hb4 (who := i1) hq2 hq1 (by omega) (by omega)
      have hN4 := HN2.out.1.addR HN2.out.2.size hrn.1 HQ.out.rb.symm hrn.2 hb4
      have HN4 : Hid (N3 W x4 (i1 + 1) (i1 + 1) { m with a := updN m.a i1 ⟨mm, bs, bw, bm⟩, b := updN m.b i1 ⟨⟨rt, rb, sq, none, 0, none, 0⟩, none, 0⟩ } (.slice ta2 i2 tc2) (.slice ra i1 rc) (tl ++ [tb]) rl ∧ Below W.heap.size W x4) := Lib.hid ⟨hN4, below_then HN2.out.2 hb4⟩
      have HX4 := Lib.hid hx4.symm
      have HSQ : Hid (x2.heap.size + 1 = rt ∧ x4.heap.size = rt + 1) := Lib.hid ⟨hrt.symm, by rw [hx4, hrt]; simp⟩
      have HO4 : Hid (kPr.Own (x4.alloc (.cells #[.pointer (some ⟨rt, 0, none⟩)] 37)) 0 (.slice ra i1 rc) rl ∧ kPr.V (x4.alloc (.cells #[.pointer (some ⟨rt, 0, none⟩)] 37)) (some ⟨rt + 1, 0, none⟩) [rt]) := Lib.hid ⟨(hN4.orr).alloc _, fun _ => ⟨_, 0, by rw [HSQ.out.2], RowK.new_at (k := kPr) (l := [rt]) (heap_new x4 _) rfl⟩⟩
      clear hb4 hq1 hq2 hrn hN4 hx4 hsq hrt HN2 HN1
      go_wp2_with (at_builtin; rw [HX4.out, HSQ.out.1]; refine RowK.wpList_app (k := kPr) (B := 0) (l := rl) rfl (.tmp 81) (.tmp 88) rfl rfl HO4.out.1 (some ⟨rt + 1, 0, none⟩) 1 [rt] 1 rfl rfl HO4.out.2 (fun e => by cases e) (by have := HQ.out.rl; have := HLT.out; simp only [List.length_singleton]; omega) (Nat.zero_le _) ?_; intro v9 x5 hA; obtain ⟨ra2, rc2, rfl⟩ := RowK.Own.shape hA.1; rw [show (rl ++ [rt]).length = i2 by rw [List.length_append, HQ.out.rl, HI2.out]; rfl] at hA ⊢; have HA := Lib.hid hA; clear hA)
      have hb5 := below_box x4 (.cells #[.pointer (some ⟨rt, 0, none⟩)] 37)
      have hN4b := HN4.out.1.below hb5
      have hN5 := hN4b.appR (below_then HN4.out.2 hb5).size (x := rt) (by rw [HQ.out.rl]; exact ⟨Nat.lt_succ_self _, by show rt = ((updN m.b i1 _) i1).m.tb; rw [updN_same]⟩) HA.out
      have hB5 : Below W.heap.size W x5 := lq_app hN4b (below_then HN4.out.2 hb5) (.inr rfl) HA.out.2.1
      have HQ5 : Hid (Lq W x5 (i1 + 1) ta2 tc2 ra2 rc2 s1 rb rm { m with a := updN m.a i1 ⟨mm, bs, bw, bm⟩, b := updN m.b i1 ⟨⟨rt, rb, sq, none, 0, none, 0⟩, none, 0⟩ } (tl ++ [tb]) (rl ++ [rt])) := Lib.hid (by
        have h9 := hN5
        rw [HI2.out] at h9
        exact ⟨h9, by rw [List.length_append, HQ.out.tl]; rfl, by rw [List.length_append, HQ.out.rl]; rfl, hB5, HQ.out.s, HQ.out.rb, HQ.out.rm⟩)
      clear hb5 hN4b hN5 hB5
      exact ⟨⟨i1 + 1, ta2, tc2, ra2, rc2, _, tl ++ [tb], rl ++ [rt], by simp, hlt, by rw [HI2.out], by rw [HI2.out], HQ5⟩, by simp [intOf]; omega⟩
    · have h3 : i1 = 3 := by omega
      have HI3 := Lib.hid h3
      have ti1 : decide ((i1 : Int) < 3) = false := decide_eq_false (by omega)
      have hQ3 := HQ.out
      rw [h3] at hQ3
      obtain ⟨tp, rp, tc9, rc9, hv1, hv2, hM0⟩ := hQ3.n3.m3 hQ3.tl hQ3.rl
      injection hv1 with q1 q2 q3
      injection hv2 with q4 q5 q6
      subst q1 q3 q4 q6
      have HLP : Hid (Lp W wr tp rp sb rb 0 { m with tp := tp, rp := rp } S0) := Lib.hid ⟨hM0, V3.start (by show m.s.g = _; rw [hQ3.s]; exact HC1.out.1) (by show m.s.cnt = _; rw [hQ3.s]; exact HC1.out.2.1) (by show m.s.c = _; rw [hQ3.s]; exact HC1.out.2.2.1) (by show m.s.ar.room = m.room; rw [hQ3.s, hQ3.rm]; exact HC1.out.2.2.2.1) (by show m.room ≤ 19; rw [hQ3.rm]; exact HRM.out), hQ3.bel, rfl, rfl, by show m.s.sb = sb; rw [hQ3.s]; exact HC1.out.2.2.2.2.symm, hQ3.rb⟩
      clear hM0 HQ hQ3 h3 hi hlt
      go_wp2_with fail
      go_loopw [16] (fun iv wr => ∃ (i : Nat) (m : W3) (p : S3), iv = .int .i64 (i : Int) ∧ i ≤ n ∧ Hid (Lp W wr tp rp sb rb i m p)) (fun iv _ => n - (intOf iv).toNat)
      case atStart => exact ⟨0, _, S0, rfl, Nat.zero_le _, HLP⟩
      case round =>
        obtain ⟨i, m, p, rfl, hi, HP⟩ := hrel
        by_cases hlt : i < n
        · have HI : Hid (i < 120) := Lib.hid (by omega)
          obtain ⟨x, actb, aoff, rfl, hal', hao, q0, q1, q2, q3, q4, q5, q6, q7, q8⟩ := HAW.out i hlt
          have hal : actb < wr.heap.size := Nat.lt_of_lt_of_le hal' HP.out.bel.size
          have e : ∀ j, W.cell? ⟨actb, j, none⟩ = wr.cell? ⟨actb, j, none⟩ := fun j => (HP.out.bel.cell (p := ⟨actb, j, none⟩) hal').symm
          rw [e] at q0 q1 q2 q3 q4 q5 q6 q7 q8
          have HXO := Lib.hid hao
          have hn120 : n ≤ 120 := hn
          clear e hal' hao
          go_upto_region 23 with fail
          clear q0 q1 q2 q3 q4 q5 q6 q7 q8 hal
          obtain ⟨ab, hab⟩ : ∃ b, b = wr.heap.size := ⟨_, rfl⟩
          obtain ⟨u0, hu0⟩ : ∃ u, u = wr.alloc (.cells #[.int .i64 x.kind, .int .i64 x.tt, .int .i64 x.k.kind, .int .i64 x.k.a, .int .i64 x.k.b, .string x.k.s, .string x.val, .int .u64 x.last, .int .i64 x.ep] 49) := ⟨_, rfl⟩
          rw [← hu0, ← hab]
          have HP0 : Hid (Lp W u0 tp rp sb rb i m p) := Lib.hid (by rw [hu0]; exact HP.out.below (below_box _ _))
          have HX0 : Hid (AcAt ab x u0 m) := Lib.hid ⟨by rw [hu0, hab]; exact heap_new wr _, fun c hc => by have := HP.out.m3.lt hc; omega⟩
          clear hu0 hab
          have p0 := cell_of_blk HX0.out.1 0
          have p1 := cell_of_blk HX0.out.1 1
          have p2 := cell_of_blk HX0.out.1 2
          have p3 := cell_of_blk HX0.out.1 3
          have p4 := cell_of_blk HX0.out.1 4
          have p5 := cell_of_blk HX0.out.1 5
          have p6 := cell_of_blk HX0.out.1 6
          have p7 := cell_of_blk HX0.out.1 7
          have p8 := cell_of_blk HX0.out.1 8
          have pl := (Array.getElem?_eq_some_iff.1 HX0.out.1).1
          simp at p0 p1 p2 p3 p4 p5 p6 p7 p8
          obtain ⟨ls, hls⟩ : ∃ k, k = x.k.s.size := ⟨_, rfl⟩
          obtain ⟨lv, hlv⟩ : ∃ k, k = x.val.size := ⟨_, rfl⟩
          have HLS := Lib.hid (And.intro hls hlv)
          by_cases h1 : 100 < x.k.s.size
          · have t1 : decide ((100 : Int) < (x.k.s.size : Int)) = true := decide_eq_true (by omega)
            have t2 : decide (100 < x.k.s.size) = true := decide_eq_true h1
            clear hls hlv
            go_wp2_with fail
            go_ret
            exact ⟨rfl, below_then HB00.out HP0.out.bel⟩
          by_cases h2 : 200 < x.val.size
          · have t1 : decide ((100 : Int) < (x.k.s.size : Int)) = false := decide_eq_false (by omega)
            have t2 : decide (100 < x.k.s.size) = false := decide_eq_false h1
            have t3 : decide ((200 : Int) < (x.val.size : Int)) = true := decide_eq_true (by omega)
            have t4 : decide (200 < x.val.size) = true := decide_eq_true h2
            clear hls hlv
            go_wp2_with fail
            go_ret
            exact ⟨rfl, below_then HB00.out HP0.out.bel⟩
          have t1 : decide ((100 : Int) < (x.k.s.size : Int)) = false := decide_eq_false (by omega)
          have t2 : decide (100 < x.k.s.size) = false := decide_eq_false h1
          have t3 : decide ((200 : Int) < (x.val.size : Int)) = false := decide_eq_false (by omega)
          have t4 : decide (200 < x.val.size) = false := decide_eq_false h2
          have HV2 : Hid (x.val.size ≤ 200) := Lib.hid (by omega)
          obtain ⟨z1, kk, hz1, hz2, hz3, hz4, hz5⟩ := rest_of x.tt 3 (by decide) (by decide)
          have hz1 : x.tt.tmod 3 = z1 := hz1
          have hz4 : (z1 + 3).tmod 3 = (kk : Int) := hz4
          have wz1 : IntKind.i64.wrap z1 = z1 := IntWalk.i64_in _ (by omega)
          have wz2 : IntKind.i64.wrap (z1 + 3) = z1 + 3 := IntWalk.i64_in _ (by omega)
          have wz3 : IntKind.i64.wrap (kk : Int) = (kk : Int) := IntWalk.i64_in _ (by omega)
          have HKK := Lib.hid hz5
          clear hls hlv h1 h2 hz2 hz3
          go_upto_region 26 with fail
          clear p0 p1 p2 p3 p4 p5 p6 p7 p8 pl t1 t2 t3 t4 hz1 hz4 wz1 wz2 wz3
          have hkz : (kk : Int) < (i1 : Int) := by have := HI3.out; omega
          have hkz0 : decide ((kk : Int) < 0) = false := decide_eq_false (by omega)
          obtain ⟨tbk, htbk⟩ : ∃ b, b = (m.a kk).m.tb := ⟨_, rfl⟩
          obtain ⟨rtk, hrtk⟩ : ∃ b, b = (m.b kk).m.tb := ⟨_, rfl⟩
          have HDO : Hid (∀ u, M3 W u m p → Calls Tryz.prog 7 #[.pointer (some ⟨tbk, 0, none⟩), .pointer (some ⟨rtk, 0, none⟩), .agg #[.int .i64 x.kind, .int .i64 x.tt, .int .i64 x.k.kind, .int .i64 x.k.a, .int .i64 x.k.b, .string x.k.s, .string x.val, .int .u64 x.last, .int .i64 x.ep]] u (DoPost W u m i)) := Lib.hid (fun u hu => by
            rw [htbk, hrtk]
            exact does20_any hu HP.out.v3 HKK.out (by have := HI.out; omega) HXO.out HV2.out)
          have HS0 : Hid (∀ u m', (∀ o, u.cell? ⟨tp, o, none⟩ = u0.cell? ⟨tp, o, none⟩ ∧ u.cell? ⟨rp, o, none⟩ = u0.cell? ⟨rp, o, none⟩) → u0.heap.size ≤ u.heap.size → AcAt ab x u m' → (u.cell? ⟨tp, kk, none⟩ = some (.pointer (some ⟨tbk, 0, none⟩)) ∧ u.cell? ⟨rp, kk, none⟩ = some (.pointer (some ⟨rtk, 0, none⟩)) ∧ tp < u.heap.size ∧ rp < u.heap.size ∧ u.cell? ⟨ab, 0, none⟩ = some (.int .i64 x.kind) ∧ u.cell? ⟨ab, 1, none⟩ = some (.int .i64 x.tt) ∧ u.cell? ⟨ab, 2, none⟩ = some (.int .i64 x.k.kind) ∧ u.cell? ⟨ab, 3, none⟩ = some (.int .i64 x.k.a) ∧ u.cell? ⟨ab, 4, none⟩ = some (.int .i64 x.k.b) ∧ u.cell? ⟨ab, 5, none⟩ = some (.string x.k.s) ∧ u.cell? ⟨ab, 6, none⟩ = some (.string x.val) ∧ u.cell? ⟨ab, 7, none⟩ = some (.int .u64 x.last) ∧ u.cell? ⟨ab, 8, none⟩ = some (.int .i64 x.ep) ∧ ab < u.heap.size)) := Lib.hid (fun u m' hc hl ha => by
            have g1 := HP0.out.m3.tc kk HKK.out
            have g2 := HP0.out.m3.rc kk HKK.out
            have g3 := HP0.out.m3.pl
            rw [HP0.out.tp] at g1 g3
            rw [HP0.out.rp] at g2 g3
            rw [← htbk] at g1
            rw [← hrtk] at g2
            exact ⟨by rw [(hc kk).1]; exact g1, by rw [(hc kk).2]; exact g2, by omega, by omega, by rw [cell_of_blk ha.1]; rfl, by rw [cell_of_blk ha.1]; rfl, by rw [cell_of_blk ha.1]; rfl, by rw [cell_of_blk ha.1]; rfl, by rw [cell_of_blk ha.1]; rfl, by rw [cell_of_blk ha.1]; rfl, by rw [cell_of_blk ha.1]; rfl, by rw [cell_of_blk ha.1]; rfl, by rw [cell_of_blk ha.1]; rfl, (Array.getElem?_eq_some_iff.1 ha.1).1⟩)
          clear htbk hrtk hz5
          have hbd : Below u0.heap.size u0 u0.drew := (Below.refl _ _).drew
          refine wp_region_held_drew (S := (fun u : World => u.cell? ⟨tp, kk, none⟩ = some (.pointer (some ⟨tbk, 0, none⟩)) ∧ u.cell? ⟨rp, kk, none⟩ = some (.pointer (some ⟨rtk, 0, none⟩)) ∧ tp < u.heap.size ∧ rp < u.heap.size ∧ u.cell? ⟨ab, 0, none⟩ = some (.int .i64 x.kind) ∧ u.cell? ⟨ab, 1, none⟩ = some (.int .i64 x.tt) ∧ u.cell? ⟨ab, 2, none⟩ = some (.int .i64 x.k.kind) ∧ u.cell? ⟨ab, 3, none⟩ = some (.int .i64 x.k.a) ∧ u.cell? ⟨ab, 4, none⟩ = some (.int .i64 x.k.b) ∧ u.cell? ⟨ab, 5, none⟩ = some (.string x.k.s) ∧ u.cell? ⟨ab, 6, none⟩ = some (.string x.val) ∧ u.cell? ⟨ab, 7, none⟩ = some (.int .u64 x.last) ∧ u.cell? ⟨ab, 8, none⟩ = some (.int .i64 x.ep) ∧ ab < u.heap.size)) (by kernel_rfl) (HS0.out _ m (fun _ => ⟨rfl, rfl⟩) (Nat.le_refl _) (HX0.out.keep (Kp.below hbd m))) (fun hHeld => ?_)
          refine wpAnyH_take (i := 0) (oi := ⟨some 116, _, _, _, _, _⟩) (v := ?vvra1) rfl (by kernel_rfl) (by kernel_rfl) (by kernel_rfl) (fun _ _ _ h => h) (Or.inl ⟨by rfl, ?yyra1⟩) hHeld ?rrra1
          case yyra1 => (intro wq hSw; (try dsimp only at hSw); go_simp; first | done | with_reducible rfl)
          simp only [Act.put, List.setIfInBounds_toArray, List.set_cons_zero, List.set_cons_succ]
          refine wpAnyH_take (i := 1) (oi := ⟨some 117, _, _, _, _, _⟩) (v := ?vvra2) rfl (by kernel_rfl) (by kernel_rfl) (by kernel_rfl) (fun _ _ _ h => h) (Or.inl ⟨by rfl, ?yyra2⟩) hHeld ?rrra2
          case yyra2 => (intro wq hSw; (try dsimp only at hSw); go_simp; first | done | with_reducible rfl)
          simp only [Act.put, List.setIfInBounds_toArray, List.set_cons_zero, List.set_cons_succ]
          refine wpAnyH_take (i := 2) (oi := ⟨some 118, _, _, _, _, _⟩) (v := ?vvra3) rfl (by kernel_rfl) (by kernel_rfl) (by kernel_rfl) (fun _ _ _ h => h) (Or.inl ⟨by rfl, ?yyra3⟩) hHeld ?rrra3
          case yyra3 => (intro wq hSw; (try dsimp only at hSw); go_simp; first | done | with_reducible rfl)
          simp only [Act.put, List.setIfInBounds_toArray, List.set_cons_zero, List.set_cons_succ]
          refine wpAnyH_take (i := 3) (oi := ⟨some 119, _, _, _, _, _⟩) (v := ?vvra4) rfl (by kernel_rfl) (by kernel_rfl) (by kernel_rfl) (fun _ _ _ h => h) (Or.inl ⟨by rfl, ?yyra4⟩) hHeld ?rrra4
          case yyra4 => (intro wq hSw; (try dsimp only at hSw); go_simp; first | done | with_reducible rfl)
          simp only [Act.put, List.setIfInBounds_toArray, List.set_cons_zero, List.set_cons_succ]
          refine wpAnyH_take (i := 4) (oi := ⟨some 120, _, _, _, _, _⟩) (v := ?vvra5) rfl (by kernel_rfl) (by kernel_rfl) (by kernel_rfl) (fun _ _ _ h => h) (Or.inl ⟨by rfl, ?yyra5⟩) hHeld ?rrra5
          case yyra5 => (intro wq hSw; (try dsimp only at hSw); go_simp; first | done | with_reducible rfl)
          simp only [Act.put, List.setIfInBounds_toArray, List.set_cons_zero, List.set_cons_succ]
          refine wpAnyH_take (i := 5) (oi := ⟨some 121, _, _, _, _, _⟩) (v := ?vvra6) rfl (by kernel_rfl) (by kernel_rfl) (by kernel_rfl) (fun _ _ _ h => h) (Or.inl ⟨by rfl, ?yyra6⟩) hHeld ?rrra6
          case yyra6 => (intro wq hSw; (try dsimp only at hSw); go_simp; first | done | with_reducible rfl)
          simp only [Act.put, List.setIfInBounds_toArray, List.set_cons_zero, List.set_cons_succ]
          refine wpAnyH_take (i := 6) (oi := ⟨some 122, _, _, _, _, _⟩) (v := ?vvra7) rfl (by kernel_rfl) (by kernel_rfl) (by kernel_rfl) (fun _ _ _ h => h) (Or.inl ⟨by rfl, ?yyra7⟩) hHeld ?rrra7
          case yyra7 => (intro wq hSw; (try dsimp only at hSw); go_simp; first | done | with_reducible rfl)
          simp only [Act.put, List.setIfInBounds_toArray, List.set_cons_zero, List.set_cons_succ]
          refine wpAnyH_take (i := 7) (oi := ⟨some 123, _, _, _, _, _⟩) (v := ?vvra8) rfl (by kernel_rfl) (by kernel_rfl) (by kernel_rfl) (fun _ _ _ h => h) (Or.inl ⟨by rfl, ?yyra8⟩) hHeld ?rrra8
          case yyra8 => (intro wq hSw; (try dsimp only at hSw); go_simp; first | done | with_reducible rfl)
          simp only [Act.put, List.setIfInBounds_toArray, List.set_cons_zero, List.set_cons_succ]
          refine wpAnyH_take (i := 8) (oi := ⟨some 124, _, _, _, _, _⟩) (v := ?vvra9) rfl (by kernel_rfl) (by kernel_rfl) (by kernel_rfl) (fun _ _ _ h => h) (Or.inl ⟨by rfl, ?yyra9⟩) hHeld ?rrra9
          case yyra9 => (intro wq hSw; (try dsimp only at hSw); go_simp; first | done | with_reducible rfl)
          simp only [Act.put, List.setIfInBounds_toArray, List.set_cons_zero, List.set_cons_succ]
          refine wpAnyH_ready (rs := [9]) (by kernel_rfl) (by simp) ?_
          refine AllReadyH.cons (o := ⟨some 125, _, _, _, _, _⟩) rfl (fun K hK => ?_) AllReadyH.nil
          go_simp
          refine (HDO.out _ (HP0.out.m3.below hbd)).mono ?_
          intro e u5 hd
          obtain ⟨rfl, m26, p26, hL, hk⟩ := (HP0.out.below hbd).does hd
          have HP5 := Lib.hid hL
          have HX5 : Hid (AcAt ab x u5 m26) := Lib.hid ((HX0.out.keep (Kp.below hbd m)).keep hk)
          have HC5 : Hid (∀ o, u5.cell? ⟨tp, o, none⟩ = u0.cell? ⟨tp, o, none⟩ ∧ u5.cell? ⟨rp, o, none⟩ = u0.cell? ⟨rp, o, none⟩) := Lib.hid (fun o => by have h1 := hk.rows (HP0.out.m3.below hbd) o; rw [HP0.out.tp, HP0.out.rp] at h1; exact h1)
          have HZ5 : Hid (u0.heap.size ≤ u5.heap.size) := Lib.hid hk.chg.size
          obtain ⟨va5, vc5, hv5, c5, l5⟩ := rstore_cell hL.m3
          obtain ⟨c6, l6⟩ := store_cell hL.m3
          rw [hL.rb] at c5 l5
          rw [hL.sb] at c6 l6
          obtain ⟨nL, hnL⟩ : ∃ k, k = p26.L.length := ⟨_, rfl⟩
          obtain ⟨sa5, hsa5⟩ : ∃ k, k = m26.s.ab := ⟨_, rfl⟩
          rw [← hnL] at c5
          rw [← hsa5] at c6
          have HSC : Hid (∀ u, Below u5.heap.size u5 u → u.cell? ⟨sb, 0, none⟩ = some (.pointer (some ⟨sa5, 0, none⟩)) ∧ sb < u.heap.size ∧ u.cell? ⟨rb, 1, none⟩ = some (.slice va5 nL vc5) ∧ rb < u.heap.size) := Lib.hid (fun u hu => ⟨(World.cell?_of_block (a := ⟨sb, 0, none⟩) (hu.block sb l6)).trans c6, Nat.lt_of_lt_of_le l6 hu.size, (World.cell?_of_block (a := ⟨rb, 1, none⟩) (hu.block rb l5)).trans c5, Nat.lt_of_lt_of_le l5 hu.size⟩)
          have HKS : Hid (∀ u, Below u5.heap.size u5 u → (u.cell? ⟨tp, kk, none⟩ = some (.pointer (some ⟨tbk, 0, none⟩)) ∧ u.cell? ⟨rp, kk, none⟩ = some (.pointer (some ⟨rtk, 0, none⟩)) ∧ tp < u.heap.size ∧ rp < u.heap.size ∧ u.cell? ⟨ab, 0, none⟩ = some (.int .i64 x.kind) ∧ u.cell? ⟨ab, 1, none⟩ = some (.int .i64 x.tt) ∧ u.cell? ⟨ab, 2, none⟩ = some (.int .i64 x.k.kind) ∧ u.cell? ⟨ab, 3, none⟩ = some (.int .i64 x.k.a) ∧ u.cell? ⟨ab, 4, none⟩ = some (.int .i64 x.k.b) ∧ u.cell? ⟨ab, 5, none⟩ = some (.string x.k.s) ∧ u.cell? ⟨ab, 6, none⟩ = some (.string x.val) ∧ u.cell? ⟨ab, 7, none⟩ = some (.int .u64 x.last) ∧ u.cell? ⟨ab, 8, none⟩ = some (.int .i64 x.ep) ∧ ab < u.heap.size) ∧ (u.cell? ⟨sb, 0, none⟩ = some (.pointer (some ⟨sa5, 0, none⟩)) ∧ sb < u.heap.size ∧ u.cell? ⟨rb, 1, none⟩ = some (.slice va5 nL vc5) ∧ rb < u.heap.size)) := Lib.hid (fun u hu => ⟨HS0.out u m26 (fun o => ⟨(World.cell?_of_block (a := ⟨tp, o, none⟩) (hu.block tp (by have := HP5.out.m3.pl.1; rw [HP5.out.tp] at this; exact this))).trans (HC5.out o).1, (World.cell?_of_block (a := ⟨rp, o, none⟩) (hu.block rp (by have := HP5.out.m3.pl.2; rw [HP5.out.rp] at this; exact this))).trans (HC5.out o).2⟩) (Nat.le_trans HZ5.out hu.size) (HX5.out.keep (Kp.below hu m26)), HSC.out u hu⟩)
          have HLN : Hid (∀ u, Below u5.heap.size u5 u → Calls Tryz.prog 8 #[.pointer (some ⟨sa5, 0, none⟩)] u fun e w' => e = .returned (.int .i64 nL) ∧ u = w') := Lib.hid (fun u hu => by have h1 := len_s m26.s u (hL.m3.below hu).st; rw [← hsa5, hL.v3.g.sr.cnt, ← hnL] at h1; exact h1)
          obtain ⟨nK, hnK⟩ : ∃ k, k = (keysL hasC p26.L).length := ⟨_, rfl⟩
          have HNK := Lib.hid (And.intro hnK (ks_len hL.v3 hasC))
          have HKP : Hid (∀ u, Below u5.heap.size u5 u → Calls Tryz.prog 10 #[.pointer (some ⟨sb, 0, none⟩)] u (KsPost (keysL hasC p26.L) u)) := Lib.hid (fun u hu => by rw [← HP5.out.sb]; exact keys_p (HP5.out.m3.below hu) HP5.out.v3)
          have HKR : Hid (∀ u, Below u5.heap.size u5 u → Calls Tryz.prog 11 #[.pointer (some ⟨rb, 0, none⟩), .int .i64 1, .int .i64 0] u (KsPost (keysL hasC p26.L) u)) := Lib.hid (fun u hu => by rw [← HP5.out.rb]; exact keys_r (HP5.out.m3.below hu) HP5.out.v3)
          have HB5 : Hid (Below u5.heap.size u5 u5) := Lib.hid (Below.refl _ _)
          clear hd hL hk hv5 c5 l5 c6 l6 hnL hsa5 hnK
          dsimp only
          refine hK.out _ _ ?ssra10 (fun hHeld => ?_)
          case ssra10 => (exact HS0.out _ m26 HC5.out HZ5.out HX5.out)
          clear hK K
          try simp only [Act.put, List.setIfInBounds_toArray, List.set_cons_zero, List.set_cons_succ]
          refine wpAnyH_nar20 (S' := (fun u : World => (u.cell? ⟨tp, kk, none⟩ = some (.pointer (some ⟨tbk, 0, none⟩)) ∧ u.cell? ⟨rp, kk, none⟩ = some (.pointer (some ⟨rtk, 0, none⟩)) ∧ tp < u.heap.size ∧ rp < u.heap.size ∧ u.cell? ⟨ab, 0, none⟩ = some (.int .i64 x.kind) ∧ u.cell? ⟨ab, 1, none⟩ = some (.int .i64 x.tt) ∧ u.cell? ⟨ab, 2, none⟩ = some (.int .i64 x.k.kind) ∧ u.cell? ⟨ab, 3, none⟩ = some (.int .i64 x.k.a) ∧ u.cell? ⟨ab, 4, none⟩ = some (.int .i64 x.k.b) ∧ u.cell? ⟨ab, 5, none⟩ = some (.string x.k.s) ∧ u.cell? ⟨ab, 6, none⟩ = some (.string x.val) ∧ u.cell? ⟨ab, 7, none⟩ = some (.int .u64 x.last) ∧ u.cell? ⟨ab, 8, none⟩ = some (.int .i64 x.ep) ∧ ab < u.heap.size) ∧ (u.cell? ⟨sb, 0, none⟩ = some (.pointer (some ⟨sa5, 0, none⟩)) ∧ sb < u.heap.size ∧ u.cell? ⟨rb, 1, none⟩ = some (.slice va5 nL vc5) ∧ rb < u.heap.size))) (fun _ h => h.1) _ _ _ _ ?_
          replace hHeld : (fun u : World => (u.cell? ⟨tp, kk, none⟩ = some (.pointer (some ⟨tbk, 0, none⟩)) ∧ u.cell? ⟨rp, kk, none⟩ = some (.pointer (some ⟨rtk, 0, none⟩)) ∧ tp < u.heap.size ∧ rp < u.heap.size ∧ u.cell? ⟨ab, 0, none⟩ = some (.int .i64 x.kind) ∧ u.cell? ⟨ab, 1, none⟩ = some (.int .i64 x.tt) ∧ u.cell? ⟨ab, 2, none⟩ = some (.int .i64 x.k.kind) ∧ u.cell? ⟨ab, 3, none⟩ = some (.int .i64 x.k.a) ∧ u.cell? ⟨ab, 4, none⟩ = some (.int .i64 x.k.b) ∧ u.cell? ⟨ab, 5, none⟩ = some (.string x.k.s) ∧ u.cell? ⟨ab, 6, none⟩ = some (.string x.val) ∧ u.cell? ⟨ab, 7, none⟩ = some (.int .u64 x.last) ∧ u.cell? ⟨ab, 8, none⟩ = some (.int .i64 x.ep) ∧ ab < u.heap.size) ∧ (u.cell? ⟨sb, 0, none⟩ = some (.pointer (some ⟨sa5, 0, none⟩)) ∧ sb < u.heap.size ∧ u.cell? ⟨rb, 1, none⟩ = some (.slice va5 nL vc5) ∧ rb < u.heap.size)) u5 := HKS.out _ HB5.out
          dsimp only at hHeld
          refine wpAnyH_take (i := 10) (oi := ⟨some 126, _, _, _, _, _⟩) (v := ?vvra11) rfl (by kernel_rfl) (by kernel_rfl) (by kernel_rfl) (fun _ _ _ h => h) (Or.inl ⟨by rfl, ?yyra11⟩) hHeld ?rrra11
          case yyra11 => (intro wq hSw; (try dsimp only at hSw); go_simp; first | done | with_reducible rfl)
          simp only [Act.put, List.setIfInBounds_toArray, List.set_cons_zero, List.set_cons_succ]
          refine wpAnyH_take (i := 11) (oi := ⟨some 127, _, _, _, _, _⟩) (v := ?vvra12) rfl (by kernel_rfl) (by kernel_rfl) (by kernel_rfl) (fun _ _ _ h => h) (Or.inl ⟨by rfl, ?yyra12⟩) hHeld ?rrra12
          case yyra12 => (intro wq hSw; (try dsimp only at hSw); go_simp; first | done | with_reducible rfl)
          simp only [Act.put, List.setIfInBounds_toArray, List.set_cons_zero, List.set_cons_succ]
          refine wpAnyH_take (i := 12) (oi := ⟨some 128, _, _, _, _, _⟩) (v := ?vvra13) rfl (by kernel_rfl) (by kernel_rfl) (by kernel_rfl) (fun _ _ _ h => h) (Or.inl ⟨by rfl, ?yyra13⟩) hHeld ?rrra13
          case yyra13 => (intro wq hSw; (try dsimp only at hSw); go_simp; first | done | with_reducible rfl)
          simp only [Act.put, List.setIfInBounds_toArray, List.set_cons_zero, List.set_cons_succ]
          refine wpAnyH_take (i := 13) (oi := ⟨some 129, _, _, _, _, _⟩) (v := ?vvra14) rfl (by kernel_rfl) (by kernel_rfl) (by kernel_rfl) (fun _ _ _ h => h) (Or.inl ⟨by rfl, ?yyra14⟩) hHeld ?rrra14
          case yyra14 => (intro wq hSw; (try dsimp only at hSw); go_simp; first | done | with_reducible rfl)
          simp only [Act.put, List.setIfInBounds_toArray, List.set_cons_zero, List.set_cons_succ]
          refine wpAnyH_take (i := 14) (oi := ⟨some 130, _, _, _, _, _⟩) (v := ?vvra15) rfl (by kernel_rfl) (by kernel_rfl) (by kernel_rfl) (fun _ _ _ h => h) (Or.inl ⟨by rfl, ?yyra15⟩) hHeld ?rrra15
          case yyra15 => (intro wq hSw; (try dsimp only at hSw); go_simp; first | done | with_reducible rfl)
          simp only [Act.put, List.setIfInBounds_toArray, List.set_cons_zero, List.set_cons_succ]
          refine wpAnyH_take (i := 15) (oi := ⟨some 131, _, _, _, _, _⟩) (v := ?vvra16) rfl (by kernel_rfl) (by kernel_rfl) (by kernel_rfl) (fun _ _ _ h => h) (Or.inl ⟨by rfl, ?yyra16⟩) hHeld ?rrra16
          case yyra16 => (intro wq hSw; (try dsimp only at hSw); go_simp; first | done | with_reducible rfl)
          simp only [Act.put, List.setIfInBounds_toArray, List.set_cons_zero, List.set_cons_succ]
          refine wpAnyH_take (i := 17) (oi := ⟨some 133, _, _, _, _, _⟩) (v := ?vvra17) rfl (by kernel_rfl) (by kernel_rfl) (by kernel_rfl) (fun _ _ _ h => h) (Or.inl ⟨by rfl, ?yyra17⟩) hHeld ?rrra17
          case yyra17 => (intro wq hSw; (try dsimp only at hSw); go_simp; first | done | with_reducible rfl)
          simp only [Act.put, List.setIfInBounds_toArray, List.set_cons_zero, List.set_cons_succ]
          refine wpAnyH_take (i := 18) (oi := ⟨some 134, _, _, _, _, _⟩) (v := ?vvra18) rfl (by kernel_rfl) (by kernel_rfl) (by kernel_rfl) (fun _ _ _ h => h) (Or.inl ⟨by rfl, ?yyra18⟩) hHeld ?rrra18
          case yyra18 => (intro wq hSw; (try dsimp only at hSw); go_simp; first | done | with_reducible rfl)
          simp only [Act.put, List.setIfInBounds_toArray, List.set_cons_zero, List.set_cons_succ]
          refine wpAnyH_take (i := 19) (oi := ⟨some 135, _, _, _, _, _⟩) (v := ?vvra19) rfl (by kernel_rfl) (by kernel_rfl) (by kernel_rfl) (fun _ _ _ h => h) (Or.inl ⟨by rfl, ?yyra19⟩) hHeld ?rrra19
          case yyra19 => (intro wq hSw; (try dsimp only at hSw); go_simp; first | done | with_reducible rfl)
          simp only [Act.put, List.setIfInBounds_toArray, List.set_cons_zero, List.set_cons_succ]
          refine wpAnyH_take (i := 20) (oi := ⟨some 136, _, _, _, _, _⟩) (v := ?vvra20) rfl (by kernel_rfl) (by kernel_rfl) (by kernel_rfl) (fun _ _ _ h => h) (Or.inl ⟨by rfl, ?yyra20⟩) hHeld ?rrra20
          case yyra20 => (intro wq hSw; (try dsimp only at hSw); go_simp; first | done | with_reducible rfl)
          simp only [Act.put, List.setIfInBounds_toArray, List.set_cons_zero, List.set_cons_succ]
          refine wpAnyH_take (i := 21) (oi := ⟨some 137, _, _, _, _, _⟩) (v := ?vvra21) rfl (by kernel_rfl) (by kernel_rfl) (by kernel_rfl) (fun _ _ _ h => h) (Or.inl ⟨by rfl, ?yyra21⟩) hHeld ?rrra21
          case yyra21 => (intro wq hSw; (try dsimp only at hSw); go_simp; first | done | with_reducible rfl)
          simp only [Act.put, List.setIfInBounds_toArray, List.set_cons_zero, List.set_cons_succ]
          refine wpAnyH_ready (rs := [16]) (by kernel_rfl) (by simp) ?_
          refine AllReadyH.cons (o := ⟨some 132, _, _, _, _, _⟩) rfl (fun K hK => ?_) AllReadyH.nil
          go_simp
          refine (HLN.out _ HB5.out).mono ?_
          rintro e v6 ⟨rfl, rfl⟩
          dsimp only
          refine hK.out _ _ ?ssra22 (fun hHeld => ?_)
          case ssra22 => (exact HKS.out _ HB5.out)
          clear hK K
          try simp only [Act.put, List.setIfInBounds_toArray, List.set_cons_zero, List.set_cons_succ]
          refine wpAnyH_take (i := 22) (oi := ⟨some 138, _, _, _, _, _⟩) (v := ?vvra23) rfl (by kernel_rfl) (by kernel_rfl) (by kernel_rfl) (fun _ _ _ h => h) (Or.inl ⟨by rfl, ?yyra23⟩) hHeld ?rrra23
          case yyra23 => (intro wq hSw; (try dsimp only at hSw); go_simp; first | done | with_reducible rfl)
          simp only [Act.put, List.setIfInBounds_toArray, List.set_cons_zero, List.set_cons_succ]
          refine wpAnyH_take (i := 23) (oi := ⟨some 139, _, _, _, _, _⟩) (v := ?vvra24) rfl (by kernel_rfl) (by kernel_rfl) (by kernel_rfl) (fun _ _ _ h => h) (Or.inl ⟨by rfl, ?yyra24⟩) hHeld ?rrra24
          case yyra24 => (intro wq hSw; (try dsimp only at hSw); go_simp; first | done | with_reducible rfl)
          simp only [Act.put, List.setIfInBounds_toArray, List.set_cons_zero, List.set_cons_succ]
          refine wpAnyH_take (i := 24) (oi := ⟨some 140, _, _, _, _, _⟩) (v := ?vvra25) rfl (by kernel_rfl) (by kernel_rfl) (by kernel_rfl) (fun _ _ _ h => h) (Or.inl ⟨by rfl, ?yyra25⟩) hHeld ?rrra25
          case yyra25 => (intro wq hSw; (try dsimp only at hSw); go_simp; first | done | with_reducible rfl)
          simp only [Act.put, List.setIfInBounds_toArray, List.set_cons_zero, List.set_cons_succ]
          refine wpAnyH_take (i := 25) (oi := ⟨some 141, _, _, _, _, _⟩) (v := ?vvra26) rfl (by kernel_rfl) (by kernel_rfl) (by kernel_rfl) (fun _ _ _ h => h) (Or.inl ⟨by rfl, ?yyra26⟩) hHeld ?rrra26
          case yyra26 => (intro wq hSw; (try dsimp only at hSw); go_simp; first | done | with_reducible rfl)
          simp only [Act.put, List.setIfInBounds_toArray, List.set_cons_zero, List.set_cons_succ]
          refine wpAnyH_take (i := 27) (oi := ⟨some 143, _, _, _, _, _⟩) (v := ?vvra27) rfl (by kernel_rfl) (by kernel_rfl) (by kernel_rfl) (fun _ _ _ h => h) (Or.inl ⟨by rfl, ?yyra27⟩) hHeld ?rrra27
          case yyra27 => (intro wq hSw; (try dsimp only at hSw); go_simp; first | done | with_reducible rfl)
          simp only [Act.put, List.setIfInBounds_toArray, List.set_cons_zero, List.set_cons_succ]
          refine wpAnyH_ready (rs := [26]) (by kernel_rfl) (by simp) ?_
          refine AllReadyH.cons (o := ⟨some 142, _, _, _, _, _⟩) rfl (fun K hK => ?_) AllReadyH.nil
          go_simp
          refine (HKP.out _ HB5.out).mono ?_
          rintro e w7 ⟨a7, c7, rfl, hv, hb⟩
          rw [← HNK.out.1]
          have HV7 := Lib.hid hv
          have HB7 : Hid (Below u5.heap.size u5 w7) := Lib.hid (below_then HB5.out hb)
          clear hv hb
          dsimp only
          refine hK.out _ _ ?ssra28 (fun hHeld => ?_)
          case ssra28 => (exact HKS.out _ HB7.out)
          clear hK K
          try simp only [Act.put, List.setIfInBounds_toArray, List.set_cons_zero, List.set_cons_succ]
          refine wpAnyH_ready (rs := [28]) (by kernel_rfl) (by simp) ?_
          refine AllReadyH.cons (o := ⟨some 144, _, _, _, _, _⟩) rfl (fun K hK => ?_) AllReadyH.nil
          go_simp
          refine (HKR.out _ HB7.out).mono ?_
          rintro e w8 ⟨a8, c8, rfl, hv, hb⟩
          rw [← HNK.out.1]
          have HV8 := Lib.hid hv
          have HVb := Lib.hid (HV7.out.below hb)
          have HB8 : Hid (Below u5.heap.size u5 w8) := Lib.hid (below_then HB7.out hb)
          clear hv hb
          dsimp only
          refine hK.out _ _ ?ssra29 (fun hHeld => ?_)
          case ssra29 => (exact HKS.out _ HB8.out)
          clear hK K
          try simp only [Act.put, List.setIfInBounds_toArray, List.set_cons_zero, List.set_cons_succ]
          refine wpAnyH_ready (rs := [29]) (by kernel_rfl) (by simp) ?_
          refine AllReadyH.cons (o := ⟨some 145, _, _, _, _, _⟩) rfl (fun K hK => ?_) AllReadyH.nil
          go_simp
          have hsm := rsameK_any a7 a8 c7 c8 _ w8 HVb.out HV8.out HNK.out.2
          rw [← HNK.out.1] at hsm
          refine hsm.mono ?_
          clear hsm
          rintro e u26 ⟨rfl, nz, hz⟩
          have HB26 : Hid (Below u5.heap.size u5 u26) := Lib.hid (below_then HB8.out (by rw [hz]; exact below_drewN (Below.refl _ _) _))
          clear hz
          dsimp only
          refine hK.out _ _ ?ssra30 (fun hHeld => ?_)
          case ssra30 => (exact HKS.out _ HB26.out)
          clear hK K
          try simp only [Act.put, List.setIfInBounds_toArray, List.set_cons_zero, List.set_cons_succ]
          refine wpAnyH_take (i := 30) (oi := ⟨some 146, _, _, _, _, _⟩) (v := ?vvra31) rfl (by kernel_rfl) (by kernel_rfl) (by kernel_rfl) (fun _ _ _ h => h) (Or.inl ⟨by rfl, ?yyra31⟩) hHeld ?rrra31
          case yyra31 => (intro wq hSw; (try dsimp only at hSw); go_simp; first | done | with_reducible rfl)
          simp only [Act.put, List.setIfInBounds_toArray, List.set_cons_zero, List.set_cons_succ]
          refine wpAnyH_take (i := 31) (oi := ⟨some 147, _, _, _, _, _⟩) (v := ?vvra32) rfl (by kernel_rfl) (by kernel_rfl) (by kernel_rfl) (fun _ _ _ h => h) (Or.inl ⟨by rfl, ?yyra32⟩) hHeld ?rrra32
          case yyra32 => (intro wq hSw; (try dsimp only at hSw); go_simp; first | done | with_reducible rfl)
          simp only [Act.put, List.setIfInBounds_toArray, List.set_cons_zero, List.set_cons_succ]
          refine wpAnyH_done (by kernel_rfl) ?_ _
          clear hHeld
          have HP26 := Lib.hid (HP5.out.below HB26.out)
          clear HKS HLN HKP HKR HNK HSC HC5 HZ5
          clear HS0 HDO hkz hkz0 hbd
          go_wp2_with fail
          obtain ⟨wo, hwo⟩ : ∃ wo : World, wo = u26 := ⟨_, rfl⟩
          rw [← hwo] at HP26
          have HBO : Hid (Below wo.heap.size wo u26) := Lib.hid (by rw [hwo]; exact Below.refl _ _)
          clear hwo
          go_loopw [19] (fun jv wq => ∃ j : Nat, jv = .int .i64 (j : Int) ∧ j ≤ 3 ∧ Hid (Below wo.heap.size wo wq)) (fun jv _ => 3 - (intOf jv).toNat)
          case atStart => exact ⟨0, rfl, Nat.zero_le _, HBO⟩
          case round =>
            obtain ⟨j, rfl, hj, HBQ⟩ := hrel
            have HPQ := Lib.hid (HP26.out.below HBQ.out)
            by_cases hlj : j < 3
            · have hljz : (j : Int) < 3 := by omega
              have hlj0 : decide ((j : Int) < 0) = false := decide_eq_false (by omega)
              have HJ := Lib.hid hlj
              obtain ⟨tbj, htbj⟩ : ∃ b, b = (m26.a j).m.tb := ⟨_, rfl⟩
              obtain ⟨rtj, hrtj⟩ : ∃ b, b = (m26.b j).m.tb := ⟨_, rfl⟩
              have HTJ := Lib.hid (And.intro htbj hrtj)
              have HS1 : Hid (∀ u, M3 W u m26 p26 → u.cell? ⟨tp, j, none⟩ = some (.pointer (some ⟨tbj, 0, none⟩)) ∧ u.cell? ⟨rp, j, none⟩ = some (.pointer (some ⟨rtj, 0, none⟩)) ∧ tp < u.heap.size ∧ rp < u.heap.size) := Lib.hid (fun u hu => by
                have g1 := hu.tc j HJ.out
                have g2 := hu.rc j HJ.out
                have g3 := hu.pl
                rw [HP26.out.tp] at g1 g3
                rw [HP26.out.rp] at g2 g3
                rw [htbj, hrtj]
                exact ⟨g1, g2, g3.1, g3.2⟩)
              clear htbj hrtj
              go_upto_region 31 with fail
              have hljy : (j : Int) < (i1 : Int) := by have := HI3.out; omega
              have hljx : j < i1 := by have := HI3.out; omega
              refine wp_region_held_drew (S := (fun u : World => u.cell? ⟨tp, j, none⟩ = some (.pointer (some ⟨tbj, 0, none⟩)) ∧ u.cell? ⟨rp, j, none⟩ = some (.pointer (some ⟨rtj, 0, none⟩)) ∧ tp < u.heap.size ∧ rp < u.heap.size)) (by kernel_rfl) (HS1.out _ (HPQ.out.m3.below (below_drewN (Below.refl _ _) 1))) (fun hHeld => ?_)
              obtain ⟨u31, hGen⟩ : ∃ u, u = World.drew wr := ⟨_, rfl⟩
              rw [← hGen] at hHeld ⊢
              have hb31 : Below wr.heap.size wr u31 := by rw [hGen]; exact below_drewN (Below.refl _ _) 1
              have HM31 := Lib.hid (HPQ.out.m3.below hb31)
              have HB31 := Lib.hid (below_then HBQ.out hb31)
              clear hb31
              clear hGen
              refine wpAnyH_take (i := 0) (oi := ⟨some 152, _, _, _, _, _⟩) (v := ?vvrb1) rfl (by kernel_rfl) (by kernel_rfl) (by kernel_rfl) (fun _ _ _ h => h) (Or.inl ⟨by rfl, ?yyrb1⟩) hHeld ?rrrb1
              case yyrb1 => (intro wq hSw; (try dsimp only at hSw); go_simp; first | done | with_reducible rfl)
              simp only [Act.put, List.setIfInBounds_toArray, List.set_cons_zero, List.set_cons_succ]
              refine wpAnyH_take (i := 1) (oi := ⟨some 153, _, _, _, _, _⟩) (v := ?vvrb2) rfl (by kernel_rfl) (by kernel_rfl) (by kernel_rfl) (fun _ _ _ h => h) (Or.inl ⟨by rfl, ?yyrb2⟩) hHeld ?rrrb2
              case yyrb2 => (intro wq hSw; (try dsimp only at hSw); go_simp; first | done | with_reducible rfl)
              simp only [Act.put, List.setIfInBounds_toArray, List.set_cons_zero, List.set_cons_succ]
              refine wpAnyH_take (i := 2) (oi := ⟨some 154, _, _, _, _, _⟩) (v := ?vvrb3) rfl (by kernel_rfl) (by kernel_rfl) (by kernel_rfl) (fun _ _ _ h => h) (Or.inl ⟨by rfl, ?yyrb3⟩) hHeld ?rrrb3
              case yyrb3 => (intro wq hSw; (try dsimp only at hSw); go_simp; first | done | with_reducible rfl)
              simp only [Act.put, List.setIfInBounds_toArray, List.set_cons_zero, List.set_cons_succ]
              refine wpAnyH_take (i := 3) (oi := ⟨some 155, _, _, _, _, _⟩) (v := ?vvrb4) rfl (by kernel_rfl) (by kernel_rfl) (by kernel_rfl) (fun _ _ _ h => h) (Or.inl ⟨by rfl, ?yyrb4⟩) hHeld ?rrrb4
              case yyrb4 => (intro wq hSw; (try dsimp only at hSw); go_simp; first | done | with_reducible rfl)
              simp only [Act.put, List.setIfInBounds_toArray, List.set_cons_zero, List.set_cons_succ]
              refine wpAnyH_take (i := 4) (oi := ⟨some 156, _, _, _, _, _⟩) (v := ?vvrb5) rfl (by kernel_rfl) (by kernel_rfl) (by kernel_rfl) (fun _ _ _ h => h) (Or.inl ⟨by rfl, ?yyrb5⟩) hHeld ?rrrb5
              case yyrb5 => (intro wq hSw; (try dsimp only at hSw); go_simp; first | done | with_reducible rfl)
              simp only [Act.put, List.setIfInBounds_toArray, List.set_cons_zero, List.set_cons_succ]
              refine wpAnyH_take (i := 5) (oi := ⟨some 157, _, _, _, _, _⟩) (v := ?vvrb6) rfl (by kernel_rfl) (by kernel_rfl) (by kernel_rfl) (fun _ _ _ h => h) (Or.inl ⟨by rfl, ?yyrb6⟩) hHeld ?rrrb6
              case yyrb6 => (intro wq hSw; (try dsimp only at hSw); go_simp; first | done | with_reducible rfl)
              simp only [Act.put, List.setIfInBounds_toArray, List.set_cons_zero, List.set_cons_succ]
              refine wpAnyH_take (i := 6) (oi := ⟨some 158, _, _, _, _, _⟩) (v := ?vvrb7) rfl (by kernel_rfl) (by kernel_rfl) (by kernel_rfl) (fun _ _ _ h => h) (Or.inl ⟨by rfl, ?yyrb7⟩) hHeld ?rrrb7
              case yyrb7 => (intro wq hSw; (try dsimp only at hSw); go_simp; first | done | with_reducible rfl)
              simp only [Act.put, List.setIfInBounds_toArray, List.set_cons_zero, List.set_cons_succ]
              refine wpAnyH_take (i := 7) (oi := ⟨some 159, _, _, _, _, _⟩) (v := ?vvrb8) rfl (by kernel_rfl) (by kernel_rfl) (by kernel_rfl) (fun _ _ _ h => h) (Or.inl ⟨by rfl, ?yyrb8⟩) hHeld ?rrrb8
              case yyrb8 => (intro wq hSw; (try dsimp only at hSw); go_simp; first | done | with_reducible rfl)
              simp only [Act.put, List.setIfInBounds_toArray, List.set_cons_zero, List.set_cons_succ]
              refine wpAnyH_take (i := 8) (oi := ⟨some 20, _, _, _, _, _⟩) (v := ?vvrb9) rfl (by kernel_rfl) (by kernel_rfl) (by kernel_rfl) (fun _ _ _ h => h) (Or.inl ⟨by rfl, ?yyrb9⟩) hHeld ?rrrb9
              case yyrb9 => (intro wq hSw; (try dsimp only at hSw); go_simp; first | done | with_reducible rfl)
              simp only [Act.put, List.setIfInBounds_toArray, List.set_cons_zero, List.set_cons_succ]
              refine wpAnyH_take (i := 9) (oi := ⟨some 21, _, _, _, _, _⟩) (v := ?vvrb10) rfl (by kernel_rfl) (by kernel_rfl) (by kernel_rfl) (fun _ _ _ h => h) (Or.inl ⟨by rfl, ?yyrb10⟩) hHeld ?rrrb10
              case yyrb10 => (intro wq hSw; (try dsimp only at hSw); go_simp; first | done | with_reducible rfl)
              simp only [Act.put, List.setIfInBounds_toArray, List.set_cons_zero, List.set_cons_succ]
              refine wpAnyH_done (by kernel_rfl) ?_ _
              clear hHeld
              have HRE : Hid (Calls Tryz.prog 12 #[.pointer (some ⟨tbj, 0, none⟩)] u31 (RePost (p26.T j) u31)) := Lib.hid (by rw [HTJ.out.1]; exact record_p HM31.out HJ.out HP26.out.v3 (by have := HI.out; omega))
              obtain ⟨nW, hnW⟩ : ∃ k, k = (p26.T j).W.length := ⟨_, rfl⟩
              have HNW := Lib.hid hnW
              go_upto_region 33 with (go_at_call 12; refine HRE.out.mono ?_; rintro e u32 ⟨pa, pc, rfl, hw, hb⟩; have HW32 := Lib.hid hw; have HB32 := Lib.hid hb; clear hw hb)
              rw [← hnW]
              clear hnW
              obtain ⟨eb, heb⟩ : ∃ b, b = u32.heap.size := ⟨_, rfl⟩
              obtain ⟨u33, hu33⟩ : ∃ u, u = u32.alloc (.cells #[.int .u64 (p26.T j).st, .slice pa nW pc] 61) := ⟨_, rfl⟩
              rw [← hu33, ← heb]
              have HBX : Hid (u33.heap[eb]? = some (.cells #[.int .u64 (p26.T j).st, .slice pa nW pc] 61 (0, 0)) ∧ Below u31.heap.size u31 u33 ∧ Below u32.heap.size u32 u33) := Lib.hid ⟨by rw [hu33, heb]; exact heap_new u32 _, by rw [hu33]; exact below_then HB32.out (below_box _ _), by rw [hu33]; exact below_box _ _⟩
              clear hu33 heb
              obtain ⟨wa, hwa⟩ : ∃ a, a = (m26.b j).m.wa := ⟨_, rfl⟩
              obtain ⟨wc, hwc⟩ : ∃ a, a = (m26.b j).m.wc := ⟨_, rfl⟩
              obtain ⟨ph, hph⟩ : ∃ a, a = (p26.T j).ph := ⟨_, rfl⟩
              obtain ⟨st, hst⟩ : ∃ a, a = (p26.T j).st := ⟨_, rfl⟩
              obtain ⟨nn, hnn⟩ : ∃ a, a = (p26.T j).n := ⟨_, rfl⟩
              have HF33 : Hid (∀ u, Below u33.heap.size u33 u → M3 W u m26 p26 ∧ (u.cell? ⟨rtj, 2, none⟩ = some (.int .i64 ph) ∧ u.cell? ⟨rtj, 5, none⟩ = some (.slice wa nW wc) ∧ u.cell? ⟨rtj, 7, none⟩ = some (.int .u64 st) ∧ u.cell? ⟨rtj, 9, none⟩ = some (.int .i64 nn) ∧ rtj < u.heap.size ∧ u.cell? ⟨eb, 0, none⟩ = some (.int .u64 st) ∧ u.cell? ⟨eb, 1, none⟩ = some (.slice pa nW pc) ∧ eb < u.heap.size) ∧ WsV u wa (p26.T j).W ∧ WsV u pa (p26.T j).W) := Lib.hid (fun u hu => by
                have hM := (HM31.out.below HBX.out.2.1).below hu
                obtain ⟨g1, g2, g3, g4, g5, g6⟩ := ref_cells hM HJ.out HP26.out.v3
                have e1 := (hu.block eb (Array.getElem?_eq_some_iff.1 HBX.out.1).1).trans HBX.out.1
                rw [HTJ.out.2, hph, HNW.out, hst, hnn, hwa, hwc]
                exact ⟨hM, ⟨g1, g2, g3, g4, g5, by rw [cell_of_blk e1]; rfl, by rw [cell_of_blk e1, ← HNW.out]; rfl, (Array.getElem?_eq_some_iff.1 e1).1⟩, g6, (HW32.out.below HBX.out.2.2).below hu⟩)
              have HC33 : Hid ((p26.T j).ph = ph ∧ (p26.T j).st = st ∧ (p26.T j).n = nn ∧ (p26.T j).W.length = nW ∧ (p26.T j).W.length ≤ 1000000) := Lib.hid ⟨hph.symm, hst.symm, hnn.symm, HNW.out.symm, by have := (HP26.out.v3.v j HJ.out).wl; have := HI.out; omega⟩
              rw [← hst]
              clear hwa hwc hph hst hnn
              have hbd : Below u33.heap.size u33 u33.drew := (Below.refl _ _).drew
              have HB0 := Lib.hid hbd
              clear hbd
              have HPH : Hid (∀ u, Below u33.heap.size u33 u → Calls Tryz.prog 13 #[.pointer (some ⟨tbj, 0, none⟩)] u fun e w' => e = .returned (.int .i64 ph) ∧ u = w') := Lib.hid (fun u hu => by rw [HTJ.out.1, ← HC33.out.1]; exact ocphase_any ((HF33.out u hu).1.tx j HJ.out).t)
              have HPS : Hid (∀ u, Below u33.heap.size u33 u → Calls Tryz.prog 14 #[.pointer (some ⟨tbj, 0, none⟩)] u fun e w' => e = .returned (.int .u64 st) ∧ u = w') := Lib.hid (fun u hu => by rw [HTJ.out.1, ← HC33.out.2.1]; exact ocstamp_any ((HF33.out u hu).1.tx j HJ.out).t)
              have HPN : Hid (∀ u, Below u33.heap.size u33 u → Calls Tryz.prog 15 #[.pointer (some ⟨tbj, 0, none⟩)] u fun e w' => e = .returned (.int .i64 nn) ∧ u = w') := Lib.hid (fun u hu => by rw [HTJ.out.1, ← HC33.out.2.2.1]; exact ocsteps_any ((HF33.out u hu).1.tx j HJ.out).t)
              have HKP : Hid (∀ u, Below u33.heap.size u33 u → Calls Tryz.prog 16 #[.pointer (some ⟨tbj, 0, none⟩)] u (KsPost (keysL (heldC (j : Int)) p26.L) u)) := Lib.hid (fun u hu => by rw [HTJ.out.1]; exact held_p (HF33.out u hu).1 HJ.out HP26.out.v3)
              have HKR : Hid (∀ u, Below u33.heap.size u33 u → Calls Tryz.prog 11 #[.pointer (some ⟨rb, 0, none⟩), .int .i64 0, .int .i64 (j : Int)] u (KsPost (keysL (heldC (j : Int)) p26.L) u)) := Lib.hid (fun u hu => by rw [← HP26.out.rb]; exact held_r (HF33.out u hu).1 HP26.out.v3)
              obtain ⟨nK, hnK⟩ : ∃ k, k = (keysL (heldC (j : Int)) p26.L).length := ⟨_, rfl⟩
              have HNK := Lib.hid (And.intro hnK (ks_len HP26.out.v3 (heldC (j : Int))))
              clear hnK
              have HSM : Hid (∀ u, Below u33.heap.size u33 u → Calls Tryz.prog 17 #[.slice pa nW pc, .slice wa nW wc] u (BoolPost u true)) := Lib.hid (fun u hu => by have h1 := same13_eq pa wa pc wc (p26.T j).W u (HF33.out u hu).2.2.2 (HF33.out u hu).2.2.1 HC33.out.2.2.2.2; rw [HC33.out.2.2.2.1] at h1; exact h1)
              refine wp_region_held_drew (S := (fun u : World => (u.cell? ⟨rtj, 2, none⟩ = some (.int .i64 ph) ∧ u.cell? ⟨rtj, 5, none⟩ = some (.slice wa nW wc) ∧ u.cell? ⟨rtj, 7, none⟩ = some (.int .u64 st) ∧ u.cell? ⟨rtj, 9, none⟩ = some (.int .i64 nn) ∧ rtj < u.heap.size ∧ u.cell? ⟨eb, 0, none⟩ = some (.int .u64 st) ∧ u.cell? ⟨eb, 1, none⟩ = some (.slice pa nW pc) ∧ eb < u.heap.size))) (by kernel_rfl) ((HF33.out _ HB0.out).2.1) (fun hHeld => ?_)
              refine wpAnyH_take (i := 0) (oi := ⟨some 162, _, _, _, _, _⟩) (v := ?vvrc1) rfl (by kernel_rfl) (by kernel_rfl) (by kernel_rfl) (fun _ _ _ h => h) (Or.inl ⟨by rfl, ?yyrc1⟩) hHeld ?rrrc1
              case yyrc1 => (intro wq hSw; (try dsimp only at hSw); go_simp; first | done | with_reducible rfl)
              simp only [Act.put, List.setIfInBounds_toArray, List.set_cons_zero, List.set_cons_succ]
              refine wpAnyH_take (i := 2) (oi := ⟨some 164, _, _, _, _, _⟩) (v := ?vvrc2) rfl (by kernel_rfl) (by kernel_rfl) (by kernel_rfl) (fun _ _ _ h => h) (Or.inl ⟨by rfl, ?yyrc2⟩) hHeld ?rrrc2
              case yyrc2 => (intro wq hSw; (try dsimp only at hSw); go_simp; first | done | with_reducible rfl)
              simp only [Act.put, List.setIfInBounds_toArray, List.set_cons_zero, List.set_cons_succ]
              refine wpAnyH_take (i := 3) (oi := ⟨some 165, _, _, _, _, _⟩) (v := ?vvrc3) rfl (by kernel_rfl) (by kernel_rfl) (by kernel_rfl) (fun _ _ _ h => h) (Or.inl ⟨by rfl, ?yyrc3⟩) hHeld ?rrrc3
              case yyrc3 => (intro wq hSw; (try dsimp only at hSw); go_simp; first | done | with_reducible rfl)
              simp only [Act.put, List.setIfInBounds_toArray, List.set_cons_zero, List.set_cons_succ]
              refine wpAnyH_take (i := 4) (oi := ⟨some 166, _, _, _, _, _⟩) (v := ?vvrc4) rfl (by kernel_rfl) (by kernel_rfl) (by kernel_rfl) (fun _ _ _ h => h) (Or.inl ⟨by rfl, ?yyrc4⟩) hHeld ?rrrc4
              case yyrc4 => (intro wq hSw; (try dsimp only at hSw); go_simp; first | done | with_reducible rfl)
              simp only [Act.put, List.setIfInBounds_toArray, List.set_cons_zero, List.set_cons_succ]
              refine wpAnyH_take (i := 5) (oi := ⟨some 167, _, _, _, _, _⟩) (v := ?vvrc5) rfl (by kernel_rfl) (by kernel_rfl) (by kernel_rfl) (fun _ _ _ h => h) (Or.inl ⟨by rfl, ?yyrc5⟩) hHeld ?rrrc5
              case yyrc5 => (intro wq hSw; (try dsimp only at hSw); go_simp; first | done | with_reducible rfl)
              simp only [Act.put, List.setIfInBounds_toArray, List.set_cons_zero, List.set_cons_succ]
              refine wpAnyH_ready (rs := [1]) (by kernel_rfl) (by simp) ?_
              refine AllReadyH.cons (o := ⟨some 163, _, _, _, _, _⟩) rfl (fun K hK => ?_) AllReadyH.nil
              go_simp
              refine (HPH.out _ HB0.out).mono ?_
              rintro e v6 ⟨rfl, rfl⟩
              dsimp only
              refine hK.out _ _ ?ssrc6 (fun hHeld => ?_)
              case ssrc6 => (exact (HF33.out _ HB0.out).2.1)
              clear hK K
              try simp only [Act.put, List.setIfInBounds_toArray, List.set_cons_zero, List.set_cons_succ]
              refine wpAnyH_take (i := 6) (oi := ⟨some 168, _, _, _, _, _⟩) (v := ?vvrc7) rfl (by kernel_rfl) (by kernel_rfl) (by kernel_rfl) (fun _ _ _ h => h) (Or.inl ⟨by rfl, ?yyrc7⟩) hHeld ?rrrc7
              case yyrc7 => (intro wq hSw; (try dsimp only at hSw); go_simp; first | done | with_reducible rfl)
              simp only [Act.put, List.setIfInBounds_toArray, List.set_cons_zero, List.set_cons_succ]
              refine wpAnyH_take (i := 7) (oi := ⟨some 169, _, _, _, _, _⟩) (v := ?vvrc8) rfl (by kernel_rfl) (by kernel_rfl) (by kernel_rfl) (fun _ _ _ h => h) (Or.inl ⟨by rfl, ?yyrc8⟩) hHeld ?rrrc8
              case yyrc8 => (intro wq hSw; (try dsimp only at hSw); go_simp; first | done | with_reducible rfl)
              simp only [Act.put, List.setIfInBounds_toArray, List.set_cons_zero, List.set_cons_succ]
              refine wpAnyH_take (i := 8) (oi := ⟨some 170, _, _, _, _, _⟩) (v := ?vvrc9) rfl (by kernel_rfl) (by kernel_rfl) (by kernel_rfl) (fun _ _ _ h => h) (Or.inl ⟨by rfl, ?yyrc9⟩) hHeld ?rrrc9
              case yyrc9 => (intro wq hSw; (try dsimp only at hSw); go_simp; first | done | with_reducible rfl)
              simp only [Act.put, List.setIfInBounds_toArray, List.set_cons_zero, List.set_cons_succ]
              refine wpAnyH_take (i := 10) (oi := ⟨some 172, _, _, _, _, _⟩) (v := ?vvrc10) rfl (by kernel_rfl) (by kernel_rfl) (by kernel_rfl) (fun _ _ _ h => h) (Or.inl ⟨by rfl, ?yyrc10⟩) hHeld ?rrrc10
              case yyrc10 => (intro wq hSw; (try dsimp only at hSw); go_simp; first | done | with_reducible rfl)
              simp only [Act.put, List.setIfInBounds_toArray, List.set_cons_zero, List.set_cons_succ]
              refine wpAnyH_take (i := 11) (oi := ⟨some 173, _, _, _, _, _⟩) (v := ?vvrc11) rfl (by kernel_rfl) (by kernel_rfl) (by kernel_rfl) (fun _ _ _ h => h) (Or.inl ⟨by rfl, ?yyrc11⟩) hHeld ?rrrc11
              case yyrc11 => (intro wq hSw; (try dsimp only at hSw); go_simp; first | done | with_reducible rfl)
              simp only [Act.put, List.setIfInBounds_toArray, List.set_cons_zero, List.set_cons_succ]
              refine wpAnyH_take (i := 12) (oi := ⟨some 174, _, _, _, _, _⟩) (v := ?vvrc12) rfl (by kernel_rfl) (by kernel_rfl) (by kernel_rfl) (fun _ _ _ h => h) (Or.inl ⟨by rfl, ?yyrc12⟩) hHeld ?rrrc12
              case yyrc12 => (intro wq hSw; (try dsimp only at hSw); go_simp; first | done | with_reducible rfl)
              simp only [Act.put, List.setIfInBounds_toArray, List.set_cons_zero, List.set_cons_succ]
              refine wpAnyH_take (i := 13) (oi := ⟨some 175, _, _, _, _, _⟩) (v := ?vvrc13) rfl (by kernel_rfl) (by kernel_rfl) (by kernel_rfl) (fun _ _ _ h => h) (Or.inl ⟨by rfl, ?yyrc13⟩) hHeld ?rrrc13
              case yyrc13 => (intro wq hSw; (try dsimp only at hSw); go_simp; first | done | with_reducible rfl)
              simp only [Act.put, List.setIfInBounds_toArray, List.set_cons_zero, List.set_cons_succ]
              refine wpAnyH_ready (rs := [9]) (by kernel_rfl) (by simp) ?_
              refine AllReadyH.cons (o := ⟨some 171, _, _, _, _, _⟩) rfl (fun K hK => ?_) AllReadyH.nil
              go_simp
              refine (HPS.out _ HB0.out).mono ?_
              rintro e v6 ⟨rfl, rfl⟩
              dsimp only
              refine hK.out _ _ ?ssrc14 (fun hHeld => ?_)
              case ssrc14 => (exact (HF33.out _ HB0.out).2.1)
              clear hK K
              try simp only [Act.put, List.setIfInBounds_toArray, List.set_cons_zero, List.set_cons_succ]
              refine wpAnyH_take (i := 14) (oi := ⟨some 176, _, _, _, _, _⟩) (v := ?vvrc15) rfl (by kernel_rfl) (by kernel_rfl) (by kernel_rfl) (fun _ _ _ h => h) (Or.inl ⟨by rfl, ?yyrc15⟩) hHeld ?rrrc15
              case yyrc15 => (intro wq hSw; (try dsimp only at hSw); go_simp; first | done | with_reducible rfl)
              simp only [Act.put, List.setIfInBounds_toArray, List.set_cons_zero, List.set_cons_succ]
              refine wpAnyH_take (i := 15) (oi := ⟨some 177, _, _, _, _, _⟩) (v := ?vvrc16) rfl (by kernel_rfl) (by kernel_rfl) (by kernel_rfl) (fun _ _ _ h => h) (Or.inl ⟨by rfl, ?yyrc16⟩) hHeld ?rrrc16
              case yyrc16 => (intro wq hSw; (try dsimp only at hSw); go_simp; first | done | with_reducible rfl)
              simp only [Act.put, List.setIfInBounds_toArray, List.set_cons_zero, List.set_cons_succ]
              refine wpAnyH_take (i := 16) (oi := ⟨some 178, _, _, _, _, _⟩) (v := ?vvrc17) rfl (by kernel_rfl) (by kernel_rfl) (by kernel_rfl) (fun _ _ _ h => h) (Or.inl ⟨by rfl, ?yyrc17⟩) hHeld ?rrrc17
              case yyrc17 => (intro wq hSw; (try dsimp only at hSw); go_simp; first | done | with_reducible rfl)
              simp only [Act.put, List.setIfInBounds_toArray, List.set_cons_zero, List.set_cons_succ]
              refine wpAnyH_take (i := 17) (oi := ⟨some 179, _, _, _, _, _⟩) (v := ?vvrc18) rfl (by kernel_rfl) (by kernel_rfl) (by kernel_rfl) (fun _ _ _ h => h) (Or.inl ⟨by rfl, ?yyrc18⟩) hHeld ?rrrc18
              case yyrc18 => (intro wq hSw; (try dsimp only at hSw); go_simp; first | done | with_reducible rfl)
              simp only [Act.put, List.setIfInBounds_toArray, List.set_cons_zero, List.set_cons_succ]
              refine wpAnyH_take (i := 19) (oi := ⟨some 181, _, _, _, _, _⟩) (v := ?vvrc19) rfl (by kernel_rfl) (by kernel_rfl) (by kernel_rfl) (fun _ _ _ h => h) (Or.inl ⟨by rfl, ?yyrc19⟩) hHeld ?rrrc19
              case yyrc19 => (intro wq hSw; (try dsimp only at hSw); go_simp; first | done | with_reducible rfl)
              simp only [Act.put, List.setIfInBounds_toArray, List.set_cons_zero, List.set_cons_succ]
              refine wpAnyH_take (i := 20) (oi := ⟨some 182, _, _, _, _, _⟩) (v := ?vvrc20) rfl (by kernel_rfl) (by kernel_rfl) (by kernel_rfl) (fun _ _ _ h => h) (Or.inl ⟨by rfl, ?yyrc20⟩) hHeld ?rrrc20
              case yyrc20 => (intro wq hSw; (try dsimp only at hSw); go_simp; first | done | with_reducible rfl)
              simp only [Act.put, List.setIfInBounds_toArray, List.set_cons_zero, List.set_cons_succ]
              refine wpAnyH_take (i := 21) (oi := ⟨some 183, _, _, _, _, _⟩) (v := ?vvrc21) rfl (by kernel_rfl) (by kernel_rfl) (by kernel_rfl) (fun _ _ _ h => h) (Or.inl ⟨by rfl, ?yyrc21⟩) hHeld ?rrrc21
              case yyrc21 => (intro wq hSw; (try dsimp only at hSw); go_simp; first | done | with_reducible rfl)
              simp only [Act.put, List.setIfInBounds_toArray, List.set_cons_zero, List.set_cons_succ]
              refine wpAnyH_take (i := 22) (oi := ⟨some 184, _, _, _, _, _⟩) (v := ?vvrc22) rfl (by kernel_rfl) (by kernel_rfl) (by kernel_rfl) (fun _ _ _ h => h) (Or.inl ⟨by rfl, ?yyrc22⟩) hHeld ?rrrc22
              case yyrc22 => (intro wq hSw; (try dsimp only at hSw); go_simp; first | done | with_reducible rfl)
              simp only [Act.put, List.setIfInBounds_toArray, List.set_cons_zero, List.set_cons_succ]
              refine wpAnyH_ready (rs := [18]) (by kernel_rfl) (by simp) ?_
              refine AllReadyH.cons (o := ⟨some 180, _, _, _, _, _⟩) rfl (fun K hK => ?_) AllReadyH.nil
              go_simp
              refine (HPN.out _ HB0.out).mono ?_
              rintro e v6 ⟨rfl, rfl⟩
              dsimp only
              refine hK.out _ _ ?ssrc23 (fun hHeld => ?_)
              case ssrc23 => (exact (HF33.out _ HB0.out).2.1)
              clear hK K
              try simp only [Act.put, List.setIfInBounds_toArray, List.set_cons_zero, List.set_cons_succ]
              refine wpAnyH_take (i := 23) (oi := ⟨some 185, _, _, _, _, _⟩) (v := ?vvrc24) rfl (by kernel_rfl) (by kernel_rfl) (by kernel_rfl) (fun _ _ _ h => h) (Or.inl ⟨by rfl, ?yyrc24⟩) hHeld ?rrrc24
              case yyrc24 => (intro wq hSw; (try dsimp only at hSw); go_simp; first | done | with_reducible rfl)
              simp only [Act.put, List.setIfInBounds_toArray, List.set_cons_zero, List.set_cons_succ]
              refine wpAnyH_take (i := 24) (oi := ⟨some 186, _, _, _, _, _⟩) (v := ?vvrc25) rfl (by kernel_rfl) (by kernel_rfl) (by kernel_rfl) (fun _ _ _ h => h) (Or.inl ⟨by rfl, ?yyrc25⟩) hHeld ?rrrc25
              case yyrc25 => (intro wq hSw; (try dsimp only at hSw); go_simp; first | done | with_reducible rfl)
              simp only [Act.put, List.setIfInBounds_toArray, List.set_cons_zero, List.set_cons_succ]
              refine wpAnyH_take (i := 25) (oi := ⟨some 187, _, _, _, _, _⟩) (v := ?vvrc26) rfl (by kernel_rfl) (by kernel_rfl) (by kernel_rfl) (fun _ _ _ h => h) (Or.inl ⟨by rfl, ?yyrc26⟩) hHeld ?rrrc26
              case yyrc26 => (intro wq hSw; (try dsimp only at hSw); go_simp; first | done | with_reducible rfl)
              simp only [Act.put, List.setIfInBounds_toArray, List.set_cons_zero, List.set_cons_succ]
              refine wpAnyH_take (i := 26) (oi := ⟨some 188, _, _, _, _, _⟩) (v := ?vvrc27) rfl (by kernel_rfl) (by kernel_rfl) (by kernel_rfl) (fun _ _ _ h => h) (Or.inl ⟨by rfl, ?yyrc27⟩) hHeld ?rrrc27
              case yyrc27 => (intro wq hSw; (try dsimp only at hSw); go_simp; first | done | with_reducible rfl)
              simp only [Act.put, List.setIfInBounds_toArray, List.set_cons_zero, List.set_cons_succ]
              refine wpAnyH_take (i := 28) (oi := ⟨some 190, _, _, _, _, _⟩) (v := ?vvrc28) rfl (by kernel_rfl) (by kernel_rfl) (by kernel_rfl) (fun _ _ _ h => h) (Or.inl ⟨by rfl, ?yyrc28⟩) hHeld ?rrrc28
              case yyrc28 => (intro wq hSw; (try dsimp only at hSw); go_simp; first | done | with_reducible rfl)
              simp only [Act.put, List.setIfInBounds_toArray, List.set_cons_zero, List.set_cons_succ]
              refine wpAnyH_take (i := 29) (oi := ⟨some 191, _, _, _, _, _⟩) (v := ?vvrc29) rfl (by kernel_rfl) (by kernel_rfl) (by kernel_rfl) (fun _ _ _ h => h) (Or.inl ⟨by rfl, ?yyrc29⟩) hHeld ?rrrc29
              case yyrc29 => (intro wq hSw; (try dsimp only at hSw); go_simp; first | done | with_reducible rfl)
              simp only [Act.put, List.setIfInBounds_toArray, List.set_cons_zero, List.set_cons_succ]
              refine wpAnyH_ready (rs := [27]) (by kernel_rfl) (by simp) ?_
              refine AllReadyH.cons (o := ⟨some 189, _, _, _, _, _⟩) rfl (fun K hK => ?_) AllReadyH.nil
              go_simp
              refine (HKP.out _ HB0.out).mono ?_
              rintro e w7 ⟨a7, c7, rfl, hv, hb⟩
              rw [← HNK.out.1]
              have HV7 := Lib.hid hv
              have HB7 : Hid (Below u33.heap.size u33 w7) := Lib.hid (below_then HB0.out hb)
              clear hv hb
              dsimp only
              refine hK.out _ _ ?ssrc30 (fun hHeld => ?_)
              case ssrc30 => (exact (HF33.out _ HB7.out).2.1)
              clear hK K
              try simp only [Act.put, List.setIfInBounds_toArray, List.set_cons_zero, List.set_cons_succ]
              refine wpAnyH_ready (rs := [30]) (by kernel_rfl) (by simp) ?_
              refine AllReadyH.cons (o := ⟨some 192, _, _, _, _, _⟩) rfl (fun K hK => ?_) AllReadyH.nil
              go_simp
              refine (HKR.out _ HB7.out).mono ?_
              rintro e w8 ⟨a8, c8, rfl, hv, hb⟩
              rw [← HNK.out.1]
              have HV8 := Lib.hid hv
              have HVb := Lib.hid (HV7.out.below hb)
              have HB8 : Hid (Below u33.heap.size u33 w8) := Lib.hid (below_then HB7.out hb)
              clear hv hb
              dsimp only
              refine hK.out _ _ ?ssrc31 (fun hHeld => ?_)
              case ssrc31 => (exact (HF33.out _ HB8.out).2.1)
              clear hK K
              try simp only [Act.put, List.setIfInBounds_toArray, List.set_cons_zero, List.set_cons_succ]
              refine wpAnyH_ready (rs := [31]) (by kernel_rfl) (by simp) ?_
              refine AllReadyH.cons (o := ⟨some 193, _, _, _, _, _⟩) rfl (fun K hK => ?_) AllReadyH.nil
              go_simp
              have hsm := rsameK_any a7 a8 c7 c8 _ w8 HVb.out HV8.out HNK.out.2
              rw [← HNK.out.1] at hsm
              refine hsm.mono ?_
              clear hsm
              rintro e u9 ⟨rfl, nz, hz⟩
              have HB9 : Hid (Below u33.heap.size u33 u9) := Lib.hid (below_then HB8.out (by rw [hz]; exact below_drewN (Below.refl _ _) _))
              clear hz
              dsimp only
              refine hK.out _ _ ?ssrc32 (fun hHeld => ?_)
              case ssrc32 => (exact (HF33.out _ HB9.out).2.1)
              clear hK K
              try simp only [Act.put, List.setIfInBounds_toArray, List.set_cons_zero, List.set_cons_succ]
              refine wpAnyH_take (i := 32) (oi := ⟨some 194, _, _, _, _, _⟩) (v := ?vvrc33) rfl (by kernel_rfl) (by kernel_rfl) (by kernel_rfl) (fun _ _ _ h => h) (Or.inl ⟨by rfl, ?yyrc33⟩) hHeld ?rrrc33
              case yyrc33 => (intro wq hSw; (try dsimp only at hSw); go_simp; first | done | with_reducible rfl)
              simp only [Act.put, List.setIfInBounds_toArray, List.set_cons_zero, List.set_cons_succ]
              refine wpAnyH_take (i := 33) (oi := ⟨some 195, _, _, _, _, _⟩) (v := ?vvrc34) rfl (by kernel_rfl) (by kernel_rfl) (by kernel_rfl) (fun _ _ _ h => h) (Or.inl ⟨by rfl, ?yyrc34⟩) hHeld ?rrrc34
              case yyrc34 => (intro wq hSw; (try dsimp only at hSw); go_simp; first | done | with_reducible rfl)
              simp only [Act.put, List.setIfInBounds_toArray, List.set_cons_zero, List.set_cons_succ]
              refine wpAnyH_take (i := 34) (oi := ⟨some 196, _, _, _, _, _⟩) (v := ?vvrc35) rfl (by kernel_rfl) (by kernel_rfl) (by kernel_rfl) (fun _ _ _ h => h) (Or.inl ⟨by rfl, ?yyrc35⟩) hHeld ?rrrc35
              case yyrc35 => (intro wq hSw; (try dsimp only at hSw); go_simp; first | done | with_reducible rfl)
              simp only [Act.put, List.setIfInBounds_toArray, List.set_cons_zero, List.set_cons_succ]
              refine wpAnyH_take (i := 35) (oi := ⟨some 197, _, _, _, _, _⟩) (v := ?vvrc36) rfl (by kernel_rfl) (by kernel_rfl) (by kernel_rfl) (fun _ _ _ h => h) (Or.inl ⟨by rfl, ?yyrc36⟩) hHeld ?rrrc36
              case yyrc36 => (intro wq hSw; (try dsimp only at hSw); go_simp; first | done | with_reducible rfl)
              simp only [Act.put, List.setIfInBounds_toArray, List.set_cons_zero, List.set_cons_succ]
              refine wpAnyH_take (i := 36) (oi := ⟨some 198, _, _, _, _, _⟩) (v := ?vvrc37) rfl (by kernel_rfl) (by kernel_rfl) (by kernel_rfl) (fun _ _ _ h => h) (Or.inl ⟨by rfl, ?yyrc37⟩) hHeld ?rrrc37
              case yyrc37 => (intro wq hSw; (try dsimp only at hSw); go_simp; first | done | with_reducible rfl)
              simp only [Act.put, List.setIfInBounds_toArray, List.set_cons_zero, List.set_cons_succ]
              refine wpAnyH_take (i := 37) (oi := ⟨some 199, _, _, _, _, _⟩) (v := ?vvrc38) rfl (by kernel_rfl) (by kernel_rfl) (by kernel_rfl) (fun _ _ _ h => h) (Or.inl ⟨by rfl, ?yyrc38⟩) hHeld ?rrrc38
              case yyrc38 => (intro wq hSw; (try dsimp only at hSw); go_simp; first | done | with_reducible rfl)
              simp only [Act.put, List.setIfInBounds_toArray, List.set_cons_zero, List.set_cons_succ]
              refine wpAnyH_take (i := 38) (oi := ⟨some 200, _, _, _, _, _⟩) (v := ?vvrc39) rfl (by kernel_rfl) (by kernel_rfl) (by kernel_rfl) (fun _ _ _ h => h) (Or.inl ⟨by rfl, ?yyrc39⟩) hHeld ?rrrc39
              case yyrc39 => (intro wq hSw; (try dsimp only at hSw); go_simp; first | done | with_reducible rfl)
              simp only [Act.put, List.setIfInBounds_toArray, List.set_cons_zero, List.set_cons_succ]
              refine wpAnyH_take (i := 39) (oi := ⟨some 201, _, _, _, _, _⟩) (v := ?vvrc40) rfl (by kernel_rfl) (by kernel_rfl) (by kernel_rfl) (fun _ _ _ h => h) (Or.inl ⟨by rfl, ?yyrc40⟩) hHeld ?rrrc40
              case yyrc40 => (intro wq hSw; (try dsimp only at hSw); go_simp; first | done | with_reducible rfl)
              simp only [Act.put, List.setIfInBounds_toArray, List.set_cons_zero, List.set_cons_succ]
              refine wpAnyH_take (i := 40) (oi := ⟨some 202, _, _, _, _, _⟩) (v := ?vvrc41) rfl (by kernel_rfl) (by kernel_rfl) (by kernel_rfl) (fun _ _ _ h => h) (Or.inl ⟨by rfl, ?yyrc41⟩) hHeld ?rrrc41
              case yyrc41 => (intro wq hSw; (try dsimp only at hSw); go_simp; first | done | with_reducible rfl)
              simp only [Act.put, List.setIfInBounds_toArray, List.set_cons_zero, List.set_cons_succ]
              refine wpAnyH_take (i := 41) (oi := ⟨some 203, _, _, _, _, _⟩) (v := ?vvrc42) rfl (by kernel_rfl) (by kernel_rfl) (by kernel_rfl) (fun _ _ _ h => h) (Or.inl ⟨by rfl, ?yyrc42⟩) hHeld ?rrrc42
              case yyrc42 => (intro wq hSw; (try dsimp only at hSw); go_simp; first | done | with_reducible rfl)
              simp only [Act.put, List.setIfInBounds_toArray, List.set_cons_zero, List.set_cons_succ]
              refine wpAnyH_take (i := 42) (oi := ⟨some 204, _, _, _, _, _⟩) (v := ?vvrc43) rfl (by kernel_rfl) (by kernel_rfl) (by kernel_rfl) (fun _ _ _ h => h) (Or.inl ⟨by rfl, ?yyrc43⟩) hHeld ?rrrc43
              case yyrc43 => (intro wq hSw; (try dsimp only at hSw); go_simp; first | done | with_reducible rfl)
              simp only [Act.put, List.setIfInBounds_toArray, List.set_cons_zero, List.set_cons_succ]
              refine wpAnyH_take (i := 43) (oi := ⟨some 205, _, _, _, _, _⟩) (v := ?vvrc44) rfl (by kernel_rfl) (by kernel_rfl) (by kernel_rfl) (fun _ _ _ h => h) (Or.inl ⟨by rfl, ?yyrc44⟩) hHeld ?rrrc44
              case yyrc44 => (intro wq hSw; (try dsimp only at hSw); go_simp; first | done | with_reducible rfl)
              simp only [Act.put, List.setIfInBounds_toArray, List.set_cons_zero, List.set_cons_succ]
              refine wpAnyH_take (i := 44) (oi := ⟨some 206, _, _, _, _, _⟩) (v := ?vvrc45) rfl (by kernel_rfl) (by kernel_rfl) (by kernel_rfl) (fun _ _ _ h => h) (Or.inl ⟨by rfl, ?yyrc45⟩) hHeld ?rrrc45
              case yyrc45 => (intro wq hSw; (try dsimp only at hSw); go_simp; first | done | with_reducible rfl)
              simp only [Act.put, List.setIfInBounds_toArray, List.set_cons_zero, List.set_cons_succ]
              refine wpAnyH_take (i := 45) (oi := ⟨some 207, _, _, _, _, _⟩) (v := ?vvrc46) rfl (by kernel_rfl) (by kernel_rfl) (by kernel_rfl) (fun _ _ _ h => h) (Or.inl ⟨by rfl, ?yyrc46⟩) hHeld ?rrrc46
              case yyrc46 => (intro wq hSw; (try dsimp only at hSw); go_simp; first | done | with_reducible rfl)
              simp only [Act.put, List.setIfInBounds_toArray, List.set_cons_zero, List.set_cons_succ]
              refine wpAnyH_take (i := 46) (oi := ⟨some 208, _, _, _, _, _⟩) (v := ?vvrc47) rfl (by kernel_rfl) (by kernel_rfl) (by kernel_rfl) (fun _ _ _ h => h) (Or.inl ⟨by rfl, ?yyrc47⟩) hHeld ?rrrc47
              case yyrc47 => (intro wq hSw; (try dsimp only at hSw); go_simp; first | done | with_reducible rfl)
              simp only [Act.put, List.setIfInBounds_toArray, List.set_cons_zero, List.set_cons_succ]
              refine wpAnyH_take (i := 47) (oi := ⟨some 209, _, _, _, _, _⟩) (v := ?vvrc48) rfl (by kernel_rfl) (by kernel_rfl) (by kernel_rfl) (fun _ _ _ h => h) (Or.inl ⟨by rfl, ?yyrc48⟩) hHeld ?rrrc48
              case yyrc48 => (intro wq hSw; (try dsimp only at hSw); go_simp; first | done | with_reducible rfl)
              simp only [Act.put, List.setIfInBounds_toArray, List.set_cons_zero, List.set_cons_succ]
              refine wpAnyH_take (i := 48) (oi := ⟨some 210, _, _, _, _, _⟩) (v := ?vvrc49) rfl (by kernel_rfl) (by kernel_rfl) (by kernel_rfl) (fun _ _ _ h => h) (Or.inl ⟨by rfl, ?yyrc49⟩) hHeld ?rrrc49
              case yyrc49 => (intro wq hSw; (try dsimp only at hSw); go_simp; first | done | with_reducible rfl)
              simp only [Act.put, List.setIfInBounds_toArray, List.set_cons_zero, List.set_cons_succ]
              refine wpAnyH_take (i := 49) (oi := ⟨some 211, _, _, _, _, _⟩) (v := ?vvrc50) rfl (by kernel_rfl) (by kernel_rfl) (by kernel_rfl) (fun _ _ _ h => h) (Or.inl ⟨by rfl, ?yyrc50⟩) hHeld ?rrrc50
              case yyrc50 => (intro wq hSw; (try dsimp only at hSw); go_simp; first | done | with_reducible rfl)
              simp only [Act.put, List.setIfInBounds_toArray, List.set_cons_zero, List.set_cons_succ]
              refine wpAnyH_ready (rs := [50]) (by kernel_rfl) (by simp) ?_
              refine AllReadyH.cons (o := ⟨some 212, _, _, _, _, _⟩) rfl (fun K hK => ?_) AllReadyH.nil
              go_simp
              refine (HSM.out _ HB9.out).mono ?_
              rintro e u99 ⟨rfl, hb⟩
              have HB99 : Hid (Below u33.heap.size u33 u99) := Lib.hid (below_then HB9.out hb)
              clear hb
              dsimp only
              refine hK.out _ _ ?ssrc51 (fun hHeld => ?_)
              case ssrc51 => (exact (HF33.out _ HB99.out).2.1)
              clear hK K
              try simp only [Act.put, List.setIfInBounds_toArray, List.set_cons_zero, List.set_cons_succ]
              refine wpAnyH_take (i := 51) (oi := ⟨some 213, _, _, _, _, _⟩) (v := ?vvrc52) rfl (by kernel_rfl) (by kernel_rfl) (by kernel_rfl) (fun _ _ _ h => h) (Or.inl ⟨by rfl, ?yyrc52⟩) hHeld ?rrrc52
              case yyrc52 => (intro wq hSw; (try dsimp only at hSw); go_simp; first | done | with_reducible rfl)
              simp only [Act.put, List.setIfInBounds_toArray, List.set_cons_zero, List.set_cons_succ]
              refine wpAnyH_take (i := 52) (oi := ⟨some 214, _, _, _, _, _⟩) (v := ?vvrc53) rfl (by kernel_rfl) (by kernel_rfl) (by kernel_rfl) (fun _ _ _ h => h) (Or.inl ⟨by rfl, ?yyrc53⟩) hHeld ?rrrc53
              case yyrc53 => (intro wq hSw; (try dsimp only at hSw); go_simp; first | done | with_reducible rfl)
              simp only [Act.put, List.setIfInBounds_toArray, List.set_cons_zero, List.set_cons_succ]
              refine wpAnyH_done (by kernel_rfl) ?_ _
              clear hHeld
              have HB33 := Lib.hid (below_then (below_then HB31.out HBX.out.2.1) HB99.out)
              go_wp2_with fail
              exact ⟨⟨j + 1, by simp, hlj, HB33⟩, by simp [intOf]; omega⟩
            · have hj3 : decide ((j : Int) < 3) = false := decide_eq_false (by omega)
              go_wp2_with fail
              exact ⟨⟨i + 1, m26, p26, by simp, hlt, HPQ⟩, by simp [intOf]; omega⟩
        · have ti : decide ((i : Int) < (n : Int)) = false := decide_eq_false (by omega)
          go_wp2_with fail
          go_ret
          exact ⟨rfl, below_then HB00.out HP.out.bel⟩
set_option maxRecDepth 100000 in
set_option maxHeartbeats 1000000 in
theorem oacts_long (room : Int) (a1 : Option Addr) (n cap : Nat) (w : World) (hn : 120 < n) (hm : n ≤ maxLen) :
    Calls Tryz.prog 3 #[.int .i64 room, .slice a1 n cap] w fun e w' => e = .returned (.bool true) ∧ Below w.heap.size w w' := by
  unfold maxLen at hm
  have t0 : decide ((120 : Int) < (n : Int)) = true := decide_eq_true (by omega)
  have t1 : decide (120 < n) = true := decide_eq_true (by omega)
  go_enter Tryz.func3, Tryz.ntmps3
  go_wp2_with fail
  refine (awake20_any _).mono ?_
  rintro e w1 ⟨rfl, hb1⟩
  go_wp2_with fail
  refine (awake20_any _).mono ?_
  rintro e w2 ⟨rfl, hb2⟩
  go_wp2_with fail
  go_ret
  exact ⟨rfl, below_then hb1 hb2⟩
theorem oacts_law (room : Int) (a1 : Option Addr) (n cap : Nat) (w : World) (hm : n ≤ maxLen) (hat : ∀ i, i < n → ActAt20 w a1 i) :
    Calls Tryz.prog 3 #[.int .i64 room, .slice a1 n cap] w fun e w' => e = .returned (.bool true) ∧ Below w.heap.size w w' := by
  by_cases hn : n ≤ 120
  · exact oacts_walk room a1 n cap w hn hat
  · exact oacts_long room a1 n cap w (by omega) hm
end Go.Proofs.YtkhkdedjffkhdaaGreat
