/- Law OccAlone: what each loop's calls leave. Conditions: each lemma's own premises. -/
import Derived.Test.YtonilojjahfboaaOcV
import Derived.Test.YtonilojjahfboaaOcU
import Derived.StillTailTactics
namespace Go.Proofs.Ytonilojjahfboaa
open Go.RowKit Go.Maps

section
variable {w u : World} {a : Ta} {P : Ps} {s : Sto} {wb n : Nat} {gt : Ky → Option ByteArray} {F L : List Ky} {i : Nat}
theorem alone_fetch (h : AS w u a (TF F.length) P s wb n gt) (h1 : A1 P F L i gt) (hg : s.g = fun _ => none) (hi : i ≤ 30) {k : Ky} (hk : k.Ok) :
    Calls Try.prog 7 #[.pointer (some ⟨a.m.tb, 0, none⟩), .agg #[.int .i64 k.kind, .int .i64 k.a, .int .i64 k.b, .string k.s]] u fun e w' => ∃ (code : Int) (P' : Ps) (F' : List Ky), e = .returned (.int .i64 code) ∧ AS w w' a (TF F'.length) P' s wb n gt ∧ A1 P' F' L (i + 1) gt ∧ k ∈ F' ∧ P'.nw = P.nw := by
  have hgk : s.g k = none := by rw [hg]
  have hlen := h1.len
  have hns := h1.ns
  refine (fetch_a h.x hk (by show (0 : Nat) < _; decide) (fun x hx => by rw [hgk] at hx; cases hx) (by show F.length ≤ _; omega) (by omega) (.inl (by rw [hgk]; rfl))).mono ?_
  intro e w' hp
  rcases hp with ⟨_, h2, h3, h4, h5⟩ | ⟨_, h2, _, h4, ns', h5, h6, h7⟩ | ⟨h0, _⟩ | ⟨_, _, h3, _⟩
  · exact ⟨31, P, F, h3, h.turn h4 h5, h1.up, (h1.fs k).1 h2, rfl⟩
  · rw [hgk] at h6
    refine ⟨0, { P with ns := ns', gs := updK P.gs k (some ⟨0, ⟨#[]⟩, false⟩) }, F ++ [k], h4, ?_, h1.fetch hk h2 h5, by simp, rfl⟩
    have h8 := h.turn h6 h7
    have e1 : ({ TF F.length with most := max (TF F.length).most (snOf none).word, n := (TF F.length).n + 1 } : Tn) = TF (F ++ [k]).length := by
      rw [List.length_append]
      rfl
    rw [e1] at h8
    exact h8
  · exact absurd rfl h0
  · rw [hgk] at h3; cases h3
theorem alone_put (h : AS w u a (TF F.length) P s wb n gt) (h1 : A1 P F L (i + 1) gt) (hi : P.nw ≤ i) (hi2 : i ≤ 30) {k : Ky} (hk : k ∈ F) (v : ByteArray) :
    Calls Try.prog 8 #[.pointer (some ⟨a.m.sb, 0, none⟩), .agg #[.int .i64 k.kind, .int .i64 k.a, .int .i64 k.b, .string k.s], .string v] u fun e w' => e = .returned (.int .i64 0) ∧ ∃ nw', nw' ≤ P.nw + 1 ∧ AS w w' a (TF F.length) { P with nw := nw', gw := updK P.gw k (some ⟨v, true⟩) } s wb n gt := by
  refine (put_a h.x (h1.fo k hk) (by omega) v).mono ?_
  intro e w' hp
  rcases hp with ⟨_, h2, nw', h3, h4, h5⟩ | ⟨h0, _⟩
  · exact ⟨h2, nw', h3, h.turn h4 h5⟩
  · rw [h1.fv k hk] at h0; cases h0
/-- a step of a transaction alone, or its stamp is spent -/
theorem alone_any {A : Al} {last : Nat} {j : Nat} (hA : A.Ok P last) (hl : last < 18446744073709551616) (hj : j < A.kr.length + 2 * A.kw.length + 1) (h : AS w u a (A.T j) P s wb n gt) (hs : A.S j s) (hst : A.kw.length < j → (nextW (mo last) 5).2 = 0) :
    Calls Try.prog 13 #[.pointer (some ⟨a.m.tb, 0, none⟩), .int .u64 last, .int .i64 5] u fun e w' => ∃ (ph code : Int), e = .returned (.tuple #[.int .i64 ph, .int .i64 code]) ∧ Below w.heap.size w w' ∧ ((code = 40) ∨ (code = 0 ∧ ∃ s', AS w w' a (A.T (j + 1)) P s' wb n gt ∧ A.S (j + 1) s' ∧ s'.sb = s.sb ∧ (A.kw.length < j + 1 → (nextW (mo last) 5).2 = 0))) := by
  by_cases h0 : A.kw.length ≤ j → (nextW (mo last) 5).2 = 0
  · refine (alone_step hA hl h0 hj h.x hs).mono ?_
    rintro e w' ⟨ph, h1, s', h2, h3, h4⟩
    have h5 := h.turn h3 h4
    exact ⟨ph, 0, h1, h5.bel, .inr ⟨rfl, s', h5, h2, h4.sb, fun hh => h0 (by omega)⟩⟩
  · have hj2 : j = A.kw.length := Classical.byContradiction fun hne => h0 (fun hle => hst (by omega))
    subst hj2
    have h40 : (nextW (mo last) 5).2 = 40 := by
      rcases next5 (mo last) (mo_lt last) with h | h
      · exact absurd (fun _ => h.1) h0
      · exact h
    refine (alone_spent hA hl h40 h.x hs).mono ?_
    rintro e w' ⟨ph, h1, s', T', h2, h3⟩
    exact ⟨ph, 40, h1, (h.turn h2 h3).bel, .inl rfl⟩
theorem Al.ph_not5 {A : Al} {j : Nat} (hj : j < A.kr.length + 2 * A.kw.length + 1) : ((A.T j).ph == 5) = false := by
  have h1 : (A.T j).ph = (A.ph j).1 := rfl
  rw [h1]
  unfold Al.ph
  split
  · rfl
  · split
    · rfl
    · split
      · rfl
      · rfl
theorem tmod_lm (last : Nat) : (last : Int).tmod 8589934592 = ((last % 8589934592 : Nat) : Int) := by
  rw [Int.tmod_eq_emod_of_nonneg (by omega)]
  omega
theorem wrap_lm (last : Nat) : IntKind.u64.wrap ((last % 8589934592 : Nat) : Int) = ((last % 8589934592 : Nat) : Int) := by
  have h : last % 8589934592 < 8589934592 := Nat.mod_lt _ (by decide)
  obtain ⟨m, hm⟩ : ∃ m, m = last % 8589934592 := ⟨_, rfl⟩
  rw [← hm] at h ⊢
  exact IntWalk.u64_in _ (by omega)
/-- strings of an argument -/
def StV20 (w : World) (a : Option Addr) (l : List ByteArray) : Prop := l ≠ [] → ∃ b off, a = some ⟨b, off, none⟩ ∧ b < w.heap.size ∧ ∀ (i : Nat) (x : ByteArray), l[i]? = some x → w.cell? ⟨b, off + i, none⟩ = some (.string x)
theorem StV20.below {w w' : World} {a : Option Addr} {l : List ByteArray} (h : StV20 w a l) (hb : Below w.heap.size w w') : StV20 w' a l := fun hn => by
  obtain ⟨b, off, e, hlt, hc⟩ := h hn
  exact ⟨b, off, e, Nat.lt_of_lt_of_le hlt hb.size, fun i x hx => (World.cell?_of_block (a := ⟨b, off + i, none⟩) (hb.block b hlt)).trans (hc i x hx)⟩
end
open Classical in
set_option maxRecDepth 100000 in
set_option maxHeartbeats 16000000 in
theorem alone_law (ka va : Option Addr) (kc vc : Nat) (KL : List Ky) (VL : List ByteArray) (last : Nat) (w : World) (h1 : kK.V w ka KL) (h2 : ∀ k ∈ KL, k.Ok) (h3 : StV20 w va VL) (h4 : last < 18446744073709551616) :
    Calls Try.prog 3 #[.slice ka KL.length kc, .slice va VL.length vc, .int .u64 last] w fun e w' => e = .returned (.bool true) ∧ Below w.heap.size w w' := by
  obtain ⟨nK, hnK⟩ : ∃ n, n = KL.length := ⟨_, rfl⟩
  obtain ⟨nV, hnV⟩ : ∃ n, n = VL.length := ⟨_, rfl⟩
  have HNK : Hid (nK = KL.length) := Lib.hid hnK
  have HNV : Hid (nV = VL.length) := Lib.hid hnV
  have HKV : Hid (∀ u, Below w.heap.size w u → kK.V u ka KL ∧ StV20 u va VL) := Lib.hid (fun u hu => ⟨h1.below hu, h3.below hu⟩)
  have HKO := Lib.hid h2
  have HLA := Lib.hid h4
  rw [← hnK, ← hnV]
  clear hnK hnV h1 h2 h3 h4
  go_enter Try.func3, Try.ntmps3
  by_cases hk30 : 30 < nK
  · have t1 : decide ((30 : Int) < (nK : Int)) = true := decide_eq_true (by omega)
    have t1' : decide (30 < nK) = true := decide_eq_true hk30
    clear hk30
    go_wp2_with fail
    refine (awake20_any w).mono ?_
    rintro e w1 ⟨rfl, b1⟩
    have HB1 := Lib.hid b1
    clear b1
    go_wp2_with fail
    refine (awake20_any w1).mono ?_
    rintro e w2 ⟨rfl, b2⟩
    have HB2 := Lib.hid (below_then HB1.out b2)
    clear b2
    go_wp2_with fail
    go_ret
    exact ⟨rfl, HB2.out⟩
  have t1 : decide ((30 : Int) < (nK : Int)) = false := decide_eq_false (by omega)
  have t1' : decide (30 < nK) = false := decide_eq_false hk30
  have HK30 : Hid (nK ≤ 30) := Lib.hid (by omega)
  clear hk30
  by_cases hv30 : 30 < nV
  · have t2 : decide ((30 : Int) < (nV : Int)) = true := decide_eq_true (by omega)
    have t2' : decide (30 < nV) = true := decide_eq_true hv30
    clear hv30
    go_wp2_with fail
    refine (awake20_any w).mono ?_
    rintro e w1 ⟨rfl, b1⟩
    have HB1 := Lib.hid b1
    clear b1
    go_wp2_with fail
    refine (awake20_any w1).mono ?_
    rintro e w2 ⟨rfl, b2⟩
    have HB2 := Lib.hid (below_then HB1.out b2)
    clear b2
    go_wp2_with fail
    go_ret
    exact ⟨rfl, HB2.out⟩
  have t2 : decide ((30 : Int) < (nV : Int)) = false := decide_eq_false (by omega)
  have t2' : decide (30 < nV) = false := decide_eq_false hv30
  clear hv30
  go_wp2_with fail
  refine (awake20_any w).mono ?_
  rintro e w1 ⟨rfl, b1⟩
  have HB1 := Lib.hid b1
  clear b1
  go_wp2_with fail
  refine (new_g 100 w1 (by decide)).mono ?_
  rintro e w2 ⟨s, rfl, hS, hg, hcnt, hc, hroom⟩
  have HS := Lib.hid hS
  have HG : Hid (s.g = (fun _ => none) ∧ s.cnt = 0 ∧ s.c = 0 ∧ s.ar.room = 100) := Lib.hid ⟨hg, hcnt, hc, hroom⟩
  clear hS hg hcnt hc hroom t1 t1' t2 t2'
  go_wp2_with fail
  refine (ocnew_any s.sb 7 w2).mono ?_
  rintro e w3 ⟨m, bs, bw, bm, rfl, h1, h2, h3, h4, h5, h6, h7, h8, h9, h10, h11, h12⟩
  have hA := new_a HS.out.st h2 h3 h1 h9 h4 h5 h6 h7 h8 h10 h11 h12
  obtain ⟨a, ha⟩ : ∃ a : Ta, a = ⟨m, bs, bw, bm⟩ := ⟨_, rfl⟩
  rw [← ha] at hA
  have hma : m = a.m := by rw [ha]
  rw [hma]
  have HA := Lib.hid hA
  have HB3 := Lib.hid h9
  clear hA ha hma h1 h2 h3 h4 h5 h6 h7 h8 h9 h10 h11 h12
  obtain ⟨wb, hwb⟩ : ∃ b, b = w3.heap.size := ⟨_, rfl⟩
  obtain ⟨w4, hw4⟩ : ∃ u, u = w3.alloc (.map #[] 0) := ⟨_, rfl⟩
  have H4 : Hid (AS w w4 a (TF 0) P00 s wb 0 (fun _ => none)) := Lib.hid (by
    have z1 := HB1.out.size
    have z2 := HS.out.bel.size
    have z3 := HB3.out.size
    have hb4 : Below w3.heap.size w3 w4 := by rw [hw4]; exact below_box _ _
    refine ⟨HA.out.1.below hb4, below_then (below_then (below_then HB1.out HS.out.bel) HB3.out) hb4, fun j hj => ?_, by rw [hw4, hwb]; exact MpX.made w3 Value.string, by rw [hwb]; omega, fun e => ?_, fun e => ?_⟩
    · rcases hj with e | e
      · have := HA.out.2 j e; omega
      · have := HS.out.own j e; omega
    · have := HA.out.1.mm.lt e; omega
    · have := HS.out.st.lt e; omega)
  have HW4 := Lib.hid (And.intro hw4 hwb)
  clear hw4 hwb
  have hmm := @run_makeMap Try.prog
  go_upto_region 8 with fail
  rw [← HW4.out.1, ← HW4.out.2]
  clear hmm
  go_wp2_with fail
  go_loopw [12] (fun iv wr => ∃ (i : Nat) (P : Ps) (F L : List Ky) (n : Nat) (gt : Ky → Option ByteArray), iv = .int .i64 i ∧ i ≤ nK ∧ Hid (AS w wr a (TF F.length) P s wb n gt ∧ A1 P F L i gt ∧ n = L.length)) (fun iv _ => nK - (intOf iv).toNat)
  case atStart => exact ⟨0, P00, [], [], 0, fun _ => none, rfl, Nat.zero_le _, Lib.hid ⟨H4.out, A1.start, rfl⟩⟩
  case round =>
    obtain ⟨i, P, F, L, n, gt, rfl, hi, HR⟩ := hrel
    obtain ⟨wo, rfl⟩ : ∃ wo : World, wo = wr := ⟨_, rfl⟩
    clear H4
    by_cases hlt : i < nK
    · obtain ⟨k, hk⟩ : ∃ k, KL[i]? = some k := ⟨_, List.getElem?_eq_getElem (by rw [← HNK.out]; exact hlt)⟩
      have HKK := Lib.hid (HKO.out k (List.mem_of_getElem? hk))
      have hkat := (HKV.out wo HR.out.1.bel).1 (fun e => by rw [e] at hk; simp at hk)
      obtain ⟨kb, ko, rfl, hat⟩ := hkat
      have HKC : Hid (∀ u, Below w.heap.size w u → u.cell? ⟨kb, ko + i * 4, none⟩ = some (.int .i64 k.kind) ∧ u.cell? ⟨kb, ko + i * 4 + 1, none⟩ = some (.int .i64 k.a) ∧ u.cell? ⟨kb, ko + i * 4 + 2, none⟩ = some (.int .i64 k.b) ∧ u.cell? ⟨kb, ko + i * 4 + 3, none⟩ = some (.string k.s) ∧ kb < u.heap.size) := Lib.hid (fun u hu => by
        obtain ⟨b', o', e', hat'⟩ := (HKV.out u hu).1 (fun e => by rw [e] at hk; simp at hk)
        cases e'
        exact ⟨hat'.cells i k hk 0 _ rfl, hat'.cells i k hk 1 _ rfl, hat'.cells i k hk 2 _ rfl, hat'.cells i k hk 3 _ rfl, hat'.lt⟩)
      obtain ⟨x0, x1, x2, x3, xl⟩ := HKC.out wo HR.out.1.bel
      have HLT : Hid (i < nK ∧ i ≤ 30) := Lib.hid ⟨hlt, by have := HK30.out; omega⟩
      have hin : (i : Int) < (nK : Int) := by omega
      have hi9 : i ≤ 30 := HLT.out.2
      clear hk hat hlt
      by_cases hs : 100 < k.s.size
      · have t1 : decide ((100 : Int) < (k.s.size : Int)) = true := decide_eq_true (by omega)
        have t1' : decide (100 < k.s.size) = true := decide_eq_true hs
        clear hs
        go_wp2_with fail
        go_ret
        exact ⟨rfl, HR.out.1.bel⟩
      have t1 : decide ((100 : Int) < (k.s.size : Int)) = false := decide_eq_false (by omega)
      have t1' : decide (100 < k.s.size) = false := decide_eq_false hs
      clear hs
      have HFE := Lib.hid (alone_fetch HR.out.1 HR.out.2.1 HG.out.1 HLT.out.2 HKK.out)
      go_wp2_with fail
      refine HFE.out.mono ?_
      rintro e u1 ⟨code, P1, F1, rfl, hA1, hB1, hk1, hw1⟩
      have H1 : Hid (AS w u1 a (TF F1.length) P1 s wb n gt ∧ A1 P1 F1 L (i + 1) gt ∧ k ∈ F1 ∧ P1.nw = P.nw) := Lib.hid ⟨hA1, hB1, hk1, hw1⟩
      clear hA1 hB1 hk1 hw1 x0 x1 x2 x3 xl t1 t1'
      by_cases hv : i < nV
      case neg =>
        have hv2 : ¬ (i : Int) < (nV : Int) := by omega
        go_wp2_with fail
        exact ⟨⟨i + 1, P1, F1, L, n, gt, by go_num, HLT.out.1, Lib.hid ⟨H1.out.1, H1.out.2.1, HR.out.2.2⟩⟩, by simp [intOf]; have := HLT.out; omega⟩
      have hvn : (i : Int) < (nV : Int) := by omega
      obtain ⟨v, hvv⟩ : ∃ v, VL[i]? = some v := ⟨_, List.getElem?_eq_getElem (by rw [← HNV.out]; exact hv)⟩
      obtain ⟨vb, vo, rfl, hvl, hvc⟩ := (HKV.out u1 H1.out.1.bel).2 (fun e => by rw [e] at hvv; simp at hvv)
      have HVC : Hid (∀ u, Below w.heap.size w u → u.cell? ⟨vb, vo + i, none⟩ = some (.string v) ∧ vb < u.heap.size) := Lib.hid (fun u hu => by
        obtain ⟨b', o', e', hl', hc'⟩ := (HKV.out u hu).2 (fun e => by rw [e] at hvv; simp at hvv)
        cases e'
        exact ⟨hc' i v hvv, hl'⟩)
      clear hvv hvl hvc hv
      obtain ⟨y0, yl⟩ := HVC.out u1 H1.out.1.bel
      by_cases hs : 200 < v.size
      · have t3 : decide ((200 : Int) < (v.size : Int)) = true := decide_eq_true (by omega)
        have t3' : decide (200 < v.size) = true := decide_eq_true hs
        clear hs
        go_upto_region 15 with fail
        go_quiet (fail)
        go_wp2_with fail
        go_ret
        exact ⟨rfl, below_drewN H1.out.1.bel _⟩
      have t3 : decide ((200 : Int) < (v.size : Int)) = false := decide_eq_false (by omega)
      have t3' : decide (200 < v.size) = false := decide_eq_false hs
      have HSV : Hid (v.size ≤ 200) := Lib.hid (by omega)
      clear hs
      go_upto_region 15 with fail
      have HS15 : Hid (∀ u, Below w.heap.size w u → TxC u a.m (TF F1.length) → u.cell? ⟨kb, ko + i * 4, none⟩ = some (.int .i64 k.kind) ∧ u.cell? ⟨kb, ko + i * 4 + 1, none⟩ = some (.int .i64 k.a) ∧ u.cell? ⟨kb, ko + i * 4 + 2, none⟩ = some (.int .i64 k.b) ∧ u.cell? ⟨kb, ko + i * 4 + 3, none⟩ = some (.string k.s) ∧ kb < u.heap.size ∧ u.cell? ⟨vb, vo + i, none⟩ = some (.string v) ∧ vb < u.heap.size ∧ u.cell? ⟨a.m.tb, 0, none⟩ = some (.pointer (some ⟨a.m.sb, 0, none⟩)) ∧ a.m.tb < u.heap.size) := Lib.hid (fun u hu ht => by
        obtain ⟨x0, x1, x2, x3, xl⟩ := HKC.out u hu
        obtain ⟨y0, yl⟩ := HVC.out u hu
        exact ⟨x0, x1, x2, x3, xl, y0, yl, ht.s0.1, ht.s0.2⟩)
      have HPU := Lib.hid (alone_put (H1.out.1.below (Below.refl _ _).drew) H1.out.2.1 (i := i) (by rw [H1.out.2.2.2]; exact HR.out.2.1.nw) HLT.out.2 H1.out.2.2.1 v)
      go_cut [95] from 74 to 95 (fun s95 wc => ∃ (u : World) (nw' : Nat), u = wc ∧ s95 = .bool false ∧ Hid (nw' ≤ P1.nw + 1 ∧ AS w u a (TF F1.length) { P1 with nw := nw', gw := updK P1.gw k (some ⟨v, true⟩) } s wb n gt))
      case first =>
        go_region_held3 (fun u => u.cell? ⟨kb, ko + i * 4, none⟩ = some (.int .i64 k.kind) ∧ u.cell? ⟨kb, ko + i * 4 + 1, none⟩ = some (.int .i64 k.a) ∧ u.cell? ⟨kb, ko + i * 4 + 2, none⟩ = some (.int .i64 k.b) ∧ u.cell? ⟨kb, ko + i * 4 + 3, none⟩ = some (.string k.s) ∧ kb < u.heap.size ∧ u.cell? ⟨vb, vo + i, none⟩ = some (.string v) ∧ vb < u.heap.size ∧ u.cell? ⟨a.m.tb, 0, none⟩ = some (.pointer (some ⟨a.m.sb, 0, none⟩)) ∧ a.m.tb < u.heap.size)
          (first | exact HS15.out _ (H1.out.1.below (Below.refl _ _).drew).bel (H1.out.1.below (Below.refl _ _).drew).x.mm.t | exact HS15.out _ H2.out.2.bel H2.out.2.x.mm.t)
          ((go_at_call 8; refine HPU.out.mono ?_; rintro e u2 ⟨rfl, nw', q1, q2⟩; have H2 := Lib.hid (And.intro q1 q2); clear q1 q2))
        all_goals
          go_wp2_with fail
          go_meet
          exact ⟨_, nw', rfl, rfl, H2⟩
      case rest =>
      obtain ⟨u2, nw', rfl, rfl, H2⟩ := hcut
      apply_assumption
      obtain ⟨x0, x1, x2, x3, xl⟩ := HKC.out u2 H2.out.2.bel
      obtain ⟨y0, yl⟩ := HVC.out u2 H2.out.2.bel
      obtain ⟨F0, hm, hF⟩ := H2.out.2.mp
      have hm2 : mapR u2.drew Try.prog 35 wb n F0 := hm.of_block rfl
      have HF := Lib.hid hF
      have hnl : n < maxLen := by
        have h1 := HR.out.2.2
        have h3 := HR.out.2.1.ll
        have h5 := HLT.out.2
        unfold maxLen
        omega
      clear hm hF
      go_upto_region 17 with fail
      refine wp_region_still_tail 9 (by kernel_rfl) (by kernel_rfl) ?_
      change wpStill _ _ (World.drew _) (fun a' => wpList _ _ _ _ a' (World.drew _)) _ _
      simp only [List.take_succ_cons, List.take_zero, List.drop_succ_cons, List.drop_zero]
      repeat still_step
      refine wpStill_nil ?_
      go_wp2_with (at_mapUpdate; refine wpList_store _ rfl _ _ _ 33 rfl 35 9 lawKey Try.underlying33 wb n F0 rfl hm2 hnl _ (.string v) _ rfl rfl (keyK HKK.out) ?_; intro w5 m3 t3 c3 f3 z3)
      have hx : MpX w5 wb (if (F0 k.lit).isSome = true then n else n + 1) Value.string (updK gt k (some v)) := MpX.stored (enc := Value.string) HF.out HKK.out m3
      have H5 := Lib.hid ((H2.out.2.below (below_drewN (Below.refl _ _) 1)).put t3 hx)
      have HNN : Hid ((if (F0 k.lit).isSome = true then n else n + 1) = (if k ∈ L then L else L ++ [k]).length) := Lib.hid (by
        have e1 := HF.out k HKK.out
        have e2 : (F0 k.lit).isSome = true ↔ k ∈ L := by
          rw [e1, HR.out.2.1.gtv k, ← HR.out.2.1.ws k]
          cases P.gw k <;> simp
        by_cases hm : k ∈ L
        · rw [if_pos hm, if_pos (e2.2 hm)]; exact HR.out.2.2
        · rw [if_neg hm, if_neg (fun h => hm (e2.1 h)), List.length_append, HR.out.2.2]; rfl)
      have HA5 := Lib.hid (H1.out.2.1.put (by rw [H1.out.2.2.2]; exact HR.out.2.1.nw) HR.out.2.1.ll H1.out.2.2.1 HSV.out H2.out.1)
      clear m3 t3 c3 f3 z3 hm2 hx x0 x1 x2 x3 xl y0 yl hnl
      go_wp2_with fail
      exact ⟨⟨i + 1, _, F1, _, _, _, by go_num, HLT.out.1, Lib.hid ⟨H5.out, HA5.out, HNN.out⟩⟩, by simp [intOf]; have := HLT.out; omega⟩
    · obtain rfl : i = nK := by omega
      clear hlt hi
      go_upto_region 18 with fail
      have HIK : Hid (i ≤ 30) := HK30
      have HRD : Hid (∀ u, Below wo.heap.size wo u → Calls Try.prog 9 #[.pointer (some ⟨a.m.sb, 0, none⟩)] u fun e w' => ∃ va vc, e = .returned (.slice va F.length vc) ∧ Below u.heap.size u w') := Lib.hid (fun u hu => by
        refine (sxReads_any (HR.out.1.below hu).x.mm.x (by have := HR.out.2.1.ns; have := HIK.out; omega)).mono ?_
        rintro e w' ⟨v, ks, rfl, h1, h2, h3⟩
        obtain ⟨va, vc, rfl⟩ := RowK.Own.shape h2
        exact ⟨va, vc, by rw [HR.out.2.1.kr_len h1], h3⟩)
      have HWR : Hid (∀ u, Below wo.heap.size wo u → Calls Try.prog 10 #[.pointer (some ⟨a.m.sb, 0, none⟩)] u fun e w' => ∃ va vc, e = .returned (.slice va L.length vc) ∧ Below u.heap.size u w') := Lib.hid (fun u hu => by
        refine (sxWrites_any (HR.out.1.below hu).x.mm.x (by have := HR.out.2.1.nw; have := HIK.out; omega)).mono ?_
        rintro e w' ⟨v, ks, rfl, h1, h2, h3⟩
        obtain ⟨va, vc, rfl⟩ := RowK.Own.shape h2
        have h4 := HR.out.2.1.out ks (fun k hk => (HR.out.2.1.kw_mem h1 k).1 hk)
        exact ⟨va, vc, by rw [h4, List.length_map, HR.out.2.1.kw_len h1], h3⟩)
      obtain ⟨nF, hnF⟩ : ∃ n, n = F.length := ⟨_, rfl⟩
      obtain ⟨nL, hnL⟩ : ∃ n, n = L.length := ⟨_, rfl⟩
      rw [← hnF] at HRD
      rw [← hnL] at HWR
      have HNF : Hid (nF = F.length ∧ nL = L.length ∧ nF ≤ 30 ∧ nL ≤ 30) := Lib.hid ⟨hnF, hnL, by have := HR.out.2.1.len; have := HIK.out; omega, by have := HR.out.2.1.ll; have := HIK.out; omega⟩
      clear hnF hnL
      go_cut [13, 14] from 111 to 122 (fun s13 s14 wc => ∃ u : World, u = wc ∧ s13 = .int .i64 nF ∧ s14 = .int .i64 nL ∧ Hid (Below wo.heap.size wo u))
      case first =>
        go_region_held3 (fun u => u.cell? ⟨a.m.tb, 0, none⟩ = some (.pointer (some ⟨a.m.sb, 0, none⟩)) ∧ a.m.tb < u.heap.size)
          (first | exact (HR.out.1.below (Below.refl _ _).drew).x.mm.t.s0 | exact (HR.out.1.below HBC.out).x.mm.t.s0 | exact (HR.out.1.below HBD.out).x.mm.t.s0)
          (first
            | (go_at_call 9; refine (HRD.out _ (Below.refl _ _).drew).mono ?_; rintro e wc ⟨va1, vc1, rfl, hb⟩; have HBC := Lib.hid (below_then (show Below wo.heap.size wo _ from (Below.refl _ _).drew) hb); clear hb)
            | (go_at_call 10; refine (HWR.out _ HBC.out).mono ?_; rintro e wd ⟨va2, vc2, rfl, hb⟩; have HBD := Lib.hid (below_then HBC.out hb); clear hb))
        all_goals
          go_wp2_with fail
          go_meet
          exact ⟨_, rfl, rfl, rfl, HBD⟩
      case rest =>
      obtain ⟨u, rfl, rfl, rfl, HU⟩ := hcut
      obtain ⟨F0, hm, hF⟩ := (HR.out.1.below HU.out).mp
      have hml := hm.len Try.underlying33
      obtain rfl : n = nL := by rw [HR.out.2.2]; exact HNF.out.2.1.symm
      clear hm hF
      have HCT := Lib.hid (commit_a (HR.out.1.below HU.out).x (by have := HR.out.2.1.ns; have := HIK.out; omega) (by have := HR.out.2.1.nw; have := HIK.out; omega))
      go_wp2_with fail
      refine HCT.out.mono ?_
      intro e u1 hp
      obtain ⟨kw, kr, a1, rfl, hkw, hkr, hsb, hA1, hT1⟩ : ∃ (kw kr : List Ky) (a1 : Ta), e = .returned (.int .i64 0) ∧ KsG P.gw P.nw kw ∧ KsG P.gs P.ns kr ∧ a1.m.sb = a.m.sb ∧ OcA u1 a1 (toT { TF F.length with W := wrOut P.gs P.gw kw, L := lastW (wrOut P.gs P.gw kw), R := kr } 1) P s ∧ OcT u u1 a a1 s s := by
        rcases hp with ⟨h0, _⟩ | ⟨_, h2, kw, kr, a1, h3, h4, h5, h6, h7⟩
        · exact absurd rfl h0
        · exact ⟨kw, kr, a1, h2, h3, h4, h5, h6, h7⟩
      obtain ⟨lm, hlm⟩ : ∃ m, m = last % 8589934592 := ⟨_, rfl⟩
      obtain ⟨A, hAd⟩ : ∃ A, A = alOf kw kr gt lm := ⟨_, rfl⟩
      have hal := HR.out.2.1.alone (last := lm) HIK.out hkw hkr
      rw [hal.2, ← hAd] at hA1
      have HAO : Hid (A.Ok P lm ∧ A.kr.length = nF ∧ A.kw.length = n ∧ A.kw = kw ∧ A.vf = (fun k => (gt k).getD ⟨#[]⟩) ∧ KySorted kw) := Lib.hid ⟨by rw [hAd]; exact hal.1, by rw [hAd, HNF.out.1]; exact HR.out.2.1.kr_len hkr, by rw [hAd, HNF.out.2.1]; exact HR.out.2.1.kw_len hkw, by rw [hAd]; rfl, by rw [hAd]; rfl, hkw.1⟩
      have H1 : Hid (AS w u1 a1 (A.T 0) P s wb n gt ∧ A.S 0 s) := Lib.hid ⟨(HR.out.1.below HU.out).turn hA1 hT1, A.S_start HG.out.1 HG.out.2.1 HG.out.2.2.1 HG.out.2.2.2⟩
      have HTB : Hid (a1.m.tb = a.m.tb) := Lib.hid hT1.tb
      have hrm : (last : Int).tmod 8589934592 = (lm : Int) := by rw [hlm]; exact tmod_lm last
      have HLM : Hid (lm < 18446744073709551616) := Lib.hid (by rw [hlm]; omega)
      have hwr : IntKind.u64.wrap (lm : Int) = (lm : Int) := by rw [hlm]; exact wrap_lm last
      clear hp hkw hkr hsb hA1 hT1 hal hAd hlm hml
      have hF30 := HNF.out.2.2.1
      have hL30 := HNF.out.2.2.2
      obtain ⟨J, hJ⟩ : ∃ J, J = nF + 2 * n + 1 := ⟨_, rfl⟩
      have HJ := Lib.hid hJ
      have hJ1 : (nF : Int) + 2 * (n : Int) + 1 = (J : Int) := by omega
      have hw1 : IntKind.i64.wrap (2 * (n : Int)) = 2 * (n : Int) := IntWalk.i64_in _ (by omega)
      have hw2 : IntKind.i64.wrap ((nF : Int) + 2 * (n : Int)) = (nF : Int) + 2 * (n : Int) := IntWalk.i64_in _ (by omega)
      have hw3 : IntKind.i64.wrap (J : Int) = (J : Int) := IntWalk.i64_in _ (by omega)
      have HJ9 : Hid (J ≤ 100) := Lib.hid (by omega)
      clear hJ
      go_wp2_with fail
      go_loopw [15] (fun iv wr => ∃ (j : Nat) (s2 : Sto), iv = .int .i64 j ∧ j ≤ J ∧ Hid (AS w wr a1 (A.T j) P s2 wb n gt ∧ A.S j s2 ∧ s2.sb = s.sb ∧ (A.kw.length < j → (nextW (mo lm) 5).2 = 0))) (fun iv _ => J - (intOf iv).toNat)
      case atStart => exact ⟨0, s, rfl, Nat.zero_le _, Lib.hid ⟨H1.out.1, H1.out.2, rfl, fun h => by omega⟩⟩
      case round =>
        obtain ⟨j, s2, rfl, hj, HQ⟩ := hrel
        obtain ⟨wo2, rfl⟩ : ∃ wo : World, wo = wr := ⟨_, rfl⟩
        have hj9 : j ≤ 100 := by have := HJ9.out; omega
        by_cases hlt : j < J
        · have hjJ : j < A.kr.length + 2 * A.kw.length + 1 := by rw [HAO.out.2.1, HAO.out.2.2.1]; rw [← HJ.out]; exact hlt
          have hph := ocphase_any HQ.out.1.x.mm.t
          have hst := alone_any HAO.out.1 HLM.out hjJ HQ.out.1 HQ.out.2.1 HQ.out.2.2.2
          rw [HTB.out] at hph hst
          obtain ⟨ph, hphe⟩ : ∃ p, p = (A.T j).ph := ⟨_, rfl⟩
          rw [← hphe] at hph
          have t5 : (ph == 5) = false := by rw [hphe]; exact Al.ph_not5 hjJ
          have HPH := Lib.hid hph
          have HST := Lib.hid hst
          have HLJ := Lib.hid hlt
          have hji : (j : Int) < (J : Int) := by omega
          clear hph hst hphe hjJ hlt
          go_wp2_with (first | (go_at_call 12; refine HPH.out.mono ?_; rintro e u2 ⟨rfl, rfl⟩) | fail)
          refine HST.out.mono ?_
          rintro e u3 ⟨ph3, code, rfl, hb3, hcase⟩
          rcases hcase with rfl | ⟨rfl, s3, q1, q2, q3, q4⟩
          · have HB3' := Lib.hid hb3
            clear hb3
            go_wp2_with fail
            go_ret
            exact ⟨rfl, HB3'.out⟩
          · have HN3 : Hid (AS w u3 a1 (A.T (j + 1)) P s3 wb n gt ∧ A.S (j + 1) s3 ∧ s3.sb = s.sb ∧ (A.kw.length < j + 1 → (nextW (mo lm) 5).2 = 0)) := Lib.hid ⟨q1, q2, q3.trans HQ.out.2.2.1, q4⟩
            clear hb3 q1 q2 q3 q4
            go_wp2_with fail
            exact ⟨⟨j + 1, s3, by go_num, HLJ.out, HN3⟩, by simp [intOf]; have := HLJ.out; omega⟩
        · obtain rfl : j = J := by omega
          clear hlt hj
          have hJe : j = A.kr.length + 2 * A.kw.length + 1 := by rw [HAO.out.2.1, HAO.out.2.2.1]; exact HJ.out
          have HJE := Lib.hid hJe
          have HKE : Hid (Calls Try.prog 14 #[.pointer (some ⟨s.sb, 0, none⟩)] wo2 fun e w' => ∃ la lc, e = .returned (.slice la n lc) ∧ kK.Own w' wo2.heap.size (.slice la n lc) A.kw ∧ Below wo2.heap.size wo2 w') := Lib.hid (by
            refine (keys_g s2 s.sb wo2 HQ.out.1.x.st HQ.out.2.2.1 (by rw [HQ.out.2.1.cnt]; have := HAO.out.1.len; omega)).mono ?_
            rintro e w' ⟨v, ks, rfl, k1, _, k3, k4, k5⟩
            have hks : ks = A.kw := sorted_unique _ _ k1 (by rw [HAO.out.2.2.2.1]; exact HAO.out.2.2.2.2.2) (fun x => by
              rw [k3, HQ.out.2.1.g, HJE.out]
              rcases A.g_end x with ⟨e1, e2⟩ | ⟨e1, e2⟩
              · rw [e1]
                exact ⟨fun _ => e2, fun _ => ⟨_, rfl, rfl⟩⟩
              · rw [e1]
                exact ⟨fun ⟨_, h, _⟩ => (by cases h), fun h => absurd h e2⟩)
            subst hks
            obtain ⟨la, lc, rfl⟩ := RowK.Own.shape k4
            rw [HAO.out.2.2.1] at k4 ⊢
            exact ⟨la, lc, rfl, k4, k5⟩)
          clear hJe
          go_wp2_with fail
          refine HKE.out.mono ?_
          rintro e u4 ⟨la, lc, rfl, ho4, hb4⟩
          have HO4 := Lib.hid ho4
          have H4' : Hid (AS w u4 a1 (A.T j) P s2 wb n gt) := Lib.hid (HQ.out.1.below hb4)
          clear ho4 hb4
          go_wp2_with fail
          go_loopw [19] (fun iv wr => ∃ i3 : Nat, iv = .int .i64 i3 ∧ i3 ≤ n ∧ Hid (Below u4.heap.size u4 wr)) (fun iv _ => n - (intOf iv).toNat)
          case atStart => exact ⟨0, rfl, Nat.zero_le _, Lib.hid (Below.refl _ _)⟩
          case round =>
            obtain ⟨i3, rfl, hi3, HB⟩ := hrel
            obtain ⟨wo3, rfl⟩ : ∃ wo : World, wo = wr := ⟨_, rfl⟩
            by_cases hlt : i3 < n
            · obtain ⟨k, hk⟩ : ∃ k, A.kw[i3]? = some k := ⟨_, List.getElem?_eq_getElem (by rw [HAO.out.2.2.1]; exact hlt)⟩
              have HKM := Lib.hid (List.mem_of_getElem? hk)
              have hkok := HAO.out.1.ok k (HAO.out.1.sub k HKM.out)
              obtain ⟨lb, lc', hle, _, _, hat⟩ := HO4.out.at' (fun e => by rw [e] at hk; simp at hk)
              obtain rfl : la = some ⟨lb, 0, none⟩ := by injection hle
              obtain ⟨V, hV⟩ : ∃ V, V = A.vf k := ⟨_, rfl⟩
              have HROW : Hid (∀ u, Below u4.heap.size u4 u → u.cell? ⟨lb, i3 * 4, none⟩ = some (.int .i64 k.kind) ∧ u.cell? ⟨lb, i3 * 4 + 1, none⟩ = some (.int .i64 k.a) ∧ u.cell? ⟨lb, i3 * 4 + 2, none⟩ = some (.int .i64 k.b) ∧ u.cell? ⟨lb, i3 * 4 + 3, none⟩ = some (.string k.s) ∧ lb < u.heap.size) := Lib.hid (fun u hu => by
                have h := hat.below hu
                have g0 := h.cells i3 k hk 0 _ rfl
                have g1 := h.cells i3 k hk 1 _ rfl
                have g2 := h.cells i3 k hk 2 _ rfl
                have g3 := h.cells i3 k hk 3 _ rfl
                simp [kK] at g0 g1 g2 g3
                exact ⟨g0, g1, g2, g3, h.lt⟩)
              have HRE : Hid (∀ u, Below u4.heap.size u4 u → Calls Try.prog 15 #[.pointer (some ⟨s.sb, 0, none⟩), .agg #[.int .i64 k.kind, .int .i64 k.a, .int .i64 k.b, .string k.s]] u fun e w' => e = .returned (.tuple #[.agg #[.int .u64 A.st, .string V, .bool true], .int .i64 0]) ∧ Below u.heap.size u w') := Lib.hid (fun u hu => by
                have h := read_g s2 s.sb k u (H4'.out.below hu).x.st HQ.out.2.2.1 hkok
                have hg : s2.g k = some (A.inC k) := by
                  rw [HQ.out.2.1.g, HJE.out]
                  rcases A.g_end k with ⟨e1, _⟩ | ⟨_, e2⟩
                  · exact e1
                  · exact absurd HKM.out e2
                rw [hg] at h
                rw [hV]
                exact h)
              have HLO : Hid (∀ u, Below u4.heap.size u4 u → (Instr.lookup 33 (.map (some wb)) (.agg #[.int .i64 k.kind, .int .i64 k.a, .int .i64 k.b, .string k.s]) false).run Try.prog u = .ok (.string V) u) := Lib.hid (fun u hu => by
                have h := (H4'.out.below hu).mp.look1 Try.underlying33 (z := .string ⟨#[]⟩) (by kernel_rfl) hkok
                have e : ((gt k).map Value.string).getD (.string ⟨#[]⟩) = .string V := by
                  rw [hV, HAO.out.2.2.2.2.1]
                  show ((gt k).map Value.string).getD (.string ⟨#[]⟩) = .string ((gt k).getD ⟨#[]⟩)
                  cases gt k <;> rfl
                rw [e] at h
                exact h)
              have HSP : Hid (∀ u, Below u4.heap.size u4 u → Calls Try.prog 16 #[.pointer (some ⟨a.m.tb, 0, none⟩)] u fun e w' => e = .returned (.int .u64 A.st) ∧ u = w') := Lib.hid (fun u hu => by
                have h := ocstamp_any (H4'.out.below hu).x.mm.t
                have e : (A.T j).st = A.st := by
                  show (if j ≤ A.kw.length then 0 else A.st) = A.st
                  rw [if_neg (by have := HJE.out; omega)]
                rw [e, HTB.out] at h
                exact h)
              have HL3 := Lib.hid hlt
              have hin3 : (i3 : Int) < (n : Int) := by omega
              obtain ⟨x0, x1, x2, x3, xl⟩ := HROW.out wo3 HB.out
              clear hk hkok hle hat hV hlt
              go_upto_region 34 with (first | (go_at_call 15; refine (HRE.out _ HB.out).mono ?_; rintro e u5 ⟨rfl, hb5⟩; have HB5 := Lib.hid (below_then HB.out hb5); clear hb5) | fail)
              obtain ⟨xb, hxb⟩ : ∃ b, b = u5.heap.size := ⟨_, rfl⟩
              obtain ⟨U, hU⟩ : ∃ U, U = u5.alloc (.cells #[.int .u64 A.st, .string V, .bool true] 49) := ⟨_, rfl⟩
              rw [← hU, ← hxb]
              have HXB : Hid (U.heap[xb]? = some (.cells #[.int .u64 A.st, .string V, .bool true] 49 (0, 0)) ∧ Below u4.heap.size u4 U) := Lib.hid ⟨by rw [hU, hxb]; exact heap_new u5 _, by rw [hU]; exact below_then HB5.out (below_box _ _)⟩
              clear hxb hU x0 x1 x2 x3 xl
              have HS34 : Hid (∀ u, Below U.heap.size U u → (u.cell? ⟨xb, 0, none⟩ = some (.int .u64 A.st) ∧ u.cell? ⟨xb, 1, none⟩ = some (.string V) ∧ u.cell? ⟨xb, 2, none⟩ = some (.bool true) ∧ xb < u.heap.size) ∧ (u.cell? ⟨lb, i3 * 4, none⟩ = some (.int .i64 k.kind) ∧ u.cell? ⟨lb, i3 * 4 + 1, none⟩ = some (.int .i64 k.a) ∧ u.cell? ⟨lb, i3 * 4 + 2, none⟩ = some (.int .i64 k.b) ∧ u.cell? ⟨lb, i3 * 4 + 3, none⟩ = some (.string k.s) ∧ lb < u.heap.size) ∧ (Instr.lookup 33 (.map (some wb)) (.agg #[.int .i64 k.kind, .int .i64 k.a, .int .i64 k.b, .string k.s]) false).run Try.prog u = .ok (.string V) u) := Lib.hid (fun u hu => by
                have g1 := (hu.block _ (Array.getElem?_eq_some_iff.1 HXB.out.1).1).trans HXB.out.1
                exact ⟨⟨by rw [cell_of_blk g1]; rfl, by rw [cell_of_blk g1]; rfl, by rw [cell_of_blk g1]; rfl, (Array.getElem?_eq_some_iff.1 g1).1⟩, HROW.out u (below_then HXB.out.2 hu), HLO.out u (below_then HXB.out.2 hu)⟩)
              have HSU := Lib.hid (HSP.out U.drew (below_then HXB.out.2 (Below.refl _ _).drew))
              go_cut [192] from 172 to 192 (fun s192 wc => ∃ u : World, u = wc ∧ s192 = .bool false ∧ Hid (Below u4.heap.size u4 u))
              case first =>
                go_region_held3 (fun u => (u.cell? ⟨xb, 0, none⟩ = some (.int .u64 A.st) ∧ u.cell? ⟨xb, 1, none⟩ = some (.string V) ∧ u.cell? ⟨xb, 2, none⟩ = some (.bool true) ∧ xb < u.heap.size) ∧ (u.cell? ⟨lb, i3 * 4, none⟩ = some (.int .i64 k.kind) ∧ u.cell? ⟨lb, i3 * 4 + 1, none⟩ = some (.int .i64 k.a) ∧ u.cell? ⟨lb, i3 * 4 + 2, none⟩ = some (.int .i64 k.b) ∧ u.cell? ⟨lb, i3 * 4 + 3, none⟩ = some (.string k.s) ∧ lb < u.heap.size) ∧ (Instr.lookup 33 (.map (some wb)) (.agg #[.int .i64 k.kind, .int .i64 k.a, .int .i64 k.b, .string k.s]) false).run Try.prog u = .ok (.string V) u)
                  (first | exact HS34.out _ (Below.refl _ _).drew)
                  ((go_at_call 16; refine HSU.out.mono ?_; rintro e u6 ⟨rfl, rfl⟩))
                all_goals
                  go_split_ands
                  go_wp2_with fail
                  go_meet
                  exact ⟨_, rfl, rfl, Lib.hid (below_then HXB.out.2 (Below.refl _ _).drew)⟩
              case rest =>
              obtain ⟨u7, rfl, rfl, HU7⟩ := hcut
              apply_assumption
              go_wp2_with fail
              exact ⟨⟨i3 + 1, by go_num, HL3.out, HU7⟩, by simp [intOf]; have := HL3.out; omega⟩
            · obtain rfl : i3 = n := by omega
              clear hlt hi3
              have HAF := Lib.hid (H4'.out.below HB.out)
              obtain ⟨F9, hm9, _⟩ := HAF.out.mp
              have hml9 := hm9.len Try.underlying33
              have hT9 := Al.T_end (A := A) HJE.out
              have HP5 : Hid (Calls Try.prog 12 #[.pointer (some ⟨a.m.tb, 0, none⟩)] wo3 fun e w' => e = .returned (.int .i64 5) ∧ wo3 = w') := Lib.hid (by
                have h := ocphase_any HAF.out.x.mm.t
                rw [hT9, HTB.out] at h
                exact h)
              have HHE : Hid (Calls Try.prog 17 #[.pointer (some ⟨a.m.tb, 0, none⟩)] wo3 fun e w' => ∃ va vc, e = .returned (.slice va 0 vc) ∧ Below wo3.heap.size wo3 w') := Lib.hid (by
                have h := ocheld_any HAF.out.x (by rw [HQ.out.2.1.cnt]; have := HAO.out.1.len; omega)
                rw [HTB.out] at h
                refine h.mono ?_
                rintro e w' ⟨v, ks, rfl, _, _, k3, k4, k5⟩
                have hks : ks = [] := by
                  cases ks with
                  | nil => rfl
                  | cons x l =>
                    obtain ⟨c, hc1, hc2⟩ := (k3 x).1 (List.mem_cons_self)
                    rw [HQ.out.2.1.g, HJE.out] at hc1
                    rcases A.g_end x with ⟨e1, _⟩ | ⟨e1, _⟩
                    · rw [e1] at hc1
                      cases hc1
                      cases hc2
                    · rw [e1] at hc1; cases hc1
                subst hks
                obtain ⟨va, vc, rfl⟩ := RowK.Own.shape k4
                exact ⟨va, vc, rfl, k5⟩)
              obtain ⟨nT, hnT⟩ : ∃ m, m = nF + j := ⟨_, rfl⟩
              have HSN : Hid (∀ u, Below wo3.heap.size wo3 u → Calls Try.prog 18 #[.pointer (some ⟨a.m.tb, 0, none⟩)] u fun e w' => e = .returned (.int .i64 nT) ∧ u = w') := Lib.hid (fun u hu => by
                have h := ocsteps_any (HAF.out.below hu).x.mm.t
                have e : (A.T j).n = nT := by rw [hnT, ← HAO.out.2.1]; rfl
                rw [e, HTB.out] at h
                exact h)
              have hJJ := HJ.out
              have t9 : ((nT : Int) == 2 * (nF : Int) + 2 * (i3 : Int) + 1) = true := by simp; omega
              have k1 : IntKind.i64.wrap (2 * (nF : Int)) = 2 * (nF : Int) := IntWalk.i64_in _ (by omega)
              have k2 : IntKind.i64.wrap (2 * (nF : Int) + 2 * (i3 : Int)) = 2 * (nF : Int) + 2 * (i3 : Int) := IntWalk.i64_in _ (by omega)
              have k3 : IntKind.i64.wrap (2 * (nF : Int) + 2 * (i3 : Int) + 1) = 2 * (nF : Int) + 2 * (i3 : Int) + 1 := IntWalk.i64_in _ (by omega)
              clear hm9 hT9 hnT hJJ
              go_wp2_with (first | (go_at_call 12; refine HP5.out.mono ?_; rintro e u8 ⟨rfl, rfl⟩) | (go_at_call 17; refine HHE.out.mono ?_; rintro e u9 ⟨va9, vc9, rfl, hb9⟩; have HB9 := Lib.hid hb9; clear hb9) | (go_at_call 18; refine (HSN.out _ HB9.out).mono ?_; rintro e u10 ⟨rfl, rfl⟩) | fail)
              go_ret
              exact ⟨rfl, (HAF.out.below HB9.out).bel⟩
end Go.Proofs.Ytonilojjahfboaa
