/- Free of cells of which none can be freed; acts in an argument's memory. Conditions: each contract's own premises. -/
import Derived.Test.YtaanohgkdpohhaaStays1
import Derived.Test.YtaanohgkdpohhaaKyMem
namespace Go.Proofs.Ytaanohgkdpohhaa
open Go.RowKit Go.Maps

set_option maxRecDepth 100000 in
set_option maxHeartbeats 1000000 in
theorem free_none (s : Sto) (b cap : Nat) (a : Option Addr) (ks : List Ky) (w : World) (h : StC w s) (hb : s.sb = b) (hks : KsV w (fun _ => False) a ks) (hl : ks.length ≤ 1000) (hno : ∀ (k : Ky) (x : Cl), k ∈ ks → s.g k = some x → (x.ab && !x.lk) = false) :
    Calls Try.prog 24 #[.pointer (some ⟨b, 0, none⟩), .slice a ks.length cap] w fun e w' => e = .returned (.int .i64 0) ∧ Below w.heap.size w w' := by
  have HB := Lib.hid hb
  have HNO := Lib.hid hno
  clear hb hno
  go_enter Try.func24, Try.ntmps24
  go_wp2_with fail
  go_loopw [5, 11] (fun n i wr => ∃ k : Nat, k ≤ ks.length ∧ i = .int .i64 k ∧ n = .int .i64 0 ∧ Below w.heap.size w wr) (fun _ i _ => ks.length - (intOf i).toNat)
  case atStart => exact ⟨0, Nat.zero_le _, rfl, rfl, Below.refl _ _⟩
  case round =>
    obtain ⟨k, hk, rfl, rfl, hbel⟩ := hrel
    by_cases hlt : k < ks.length
    · obtain ⟨kk, hkk⟩ : ∃ kk, ks[k]? = some kk := ⟨_, List.getElem?_eq_getElem hlt⟩
      obtain ⟨kb, off, rfl, kat, _⟩ := (hks.below hbel) (fun e => by rw [e] at hlt; simp at hlt)
      obtain ⟨q0, q1, q2, q3⟩ := kat.cells k kk hkk
      have hlb := kat.lt
      have kok := kat.ok kk (List.mem_of_getElem? hkk)
      have hn0 := HNO.out kk
      have hmem := List.mem_of_getElem? hkk
      have p := h.stay hbel
      obtain ⟨_, c1, hls, lk0⟩ := p.pre kok
      have lk := lk0 (.cells #[.int .i64 kk.kind, .int .i64 kk.a, .int .i64 kk.b, .string kk.s] 32)
      rw [HB.out] at c1 hls
      have fin := Lib.hid (fun nq => hbel.trans ((below_drewN ((Below.refl wr.heap.size wr).alloc (Nat.le_refl _) (.cells #[.int .i64 kk.kind, .int .i64 kk.a, .int .i64 kk.b, .string kk.s] 32)) nq).mono hbel.size))
      clear lk0 hkk kat hks hbel
      cases hx : s.f kk with
      | none =>
        rw [hx] at lk
        simp only [ptrOf, Option.map_none, Option.getD_none] at lk
        clear hx hn0
        go_wp2_with fail
        go_quiet (fail)
        go_wp2_with fail
        exact ⟨⟨k + 1, by omega, by go_num, rfl, fin.out _⟩, by simp [intOf]; omega⟩
      | some x =>
        rw [hx] at lk
        simp only [ptrOf, Option.map_some, Option.getD_some, Sl.ptr] at lk
        obtain ⟨_, _, c2, _, _, hxl⟩ := p.cells hx
        have hs := Lib.hid (p.slot kk x hx).2.1.st
        have hgx : s.g kk = some x.cl := by unfold Sto.g; rw [hx]; rfl
        have hv := hn0 _ hmem hgx
        clear hx hgx hn0
        obtain ⟨ad, xh, xg, st, lkx, ab, text, whx⟩ := x
        dsimp only [Sl.cl] at *
        cases ab
        · clear hv
          go_wp2_with fail
          go_quiet (fail)
          go_wp2_with (go_at_call 84; refine (absent_any _ _ _ _ _ hs.out (cell_box hxl c2 _)).mono ?_; rintro e w' ⟨rfl, dq, rfl⟩)
          exact ⟨⟨k + 1, by omega, by go_num, rfl, fin.out _⟩, by simp [intOf]; omega⟩
        · cases lkx
          · simp at hv
          · clear hv
            go_wp2_with fail
            go_quiet (fail)
            go_wp2_with (first | (go_at_call 84; refine (absent_any _ _ _ _ _ hs.out (cell_box hxl c2 _)).mono ?_; rintro e w' ⟨rfl, dq, rfl⟩) | (go_at_call 82; refine (locked_any _ _ _ _ _ hs.out (cell_box hxl c2 _)).mono ?_; rintro e w' ⟨rfl, rfl⟩))
            exact ⟨⟨k + 1, by omega, by go_num, rfl, fin.out _⟩, by simp [intOf]; omega⟩
    · go_wp2_with fail
      go_ret
      exact ⟨rfl, hbel⟩

/-- act i of an argument -/
def ActAt9 (w : World) (a : Option Addr) (i : Nat) : Prop := ∃ (x : A9) (b off : Nat), a = some ⟨b, off, none⟩ ∧ b < w.heap.size ∧ x.Ok w ∧
  w.cell? ⟨b, off + i * 11, none⟩ = some (.int .i64 x.kind) ∧ w.cell? ⟨b, off + i * 11 + 1, none⟩ = some (.int .i64 x.who) ∧ w.cell? ⟨b, off + i * 11 + 2, none⟩ = some (.int .i64 x.k.kind) ∧ w.cell? ⟨b, off + i * 11 + 3, none⟩ = some (.int .i64 x.k.a) ∧ w.cell? ⟨b, off + i * 11 + 4, none⟩ = some (.int .i64 x.k.b) ∧ w.cell? ⟨b, off + i * 11 + 5, none⟩ = some (.string x.k.s) ∧
  w.cell? ⟨b, off + i * 11 + 6, none⟩ = some (.slice x.ka x.ks.length x.kc) ∧ w.cell? ⟨b, off + i * 11 + 7, none⟩ = some (.int .u64 x.stamp) ∧ w.cell? ⟨b, off + i * 11 + 8, none⟩ = some (.int .u64 x.vw) ∧ w.cell? ⟨b, off + i * 11 + 9, none⟩ = some (.string x.vs) ∧ w.cell? ⟨b, off + i * 11 + 10, none⟩ = some (.bool x.vh)
theorem ActAt9.below {w w' : World} {a : Option Addr} {i : Nat} (h : ActAt9 w a i) (hb : Below w.heap.size w w') : ActAt9 w' a i := by
  obtain ⟨x, b, off, rfl, hl, ho, r⟩ := h
  have e : ∀ j, w'.cell? ⟨b, j, none⟩ = w.cell? ⟨b, j, none⟩ := fun j => hb.cell (p := ⟨b, j, none⟩) hl
  exact ⟨x, b, off, rfl, Nat.lt_of_lt_of_le hl hb.size, ho.below hb, by simpa only [e] using r⟩

set_option maxRecDepth 100000 in
theorem keys_at {w : World} {cs : List Value} (h : Mem Try.prog w 51 cs) : ∃ ka ks kc, cs = [.slice ka ks.length kc] ∧ KsV w (fun _ => False) ka ks ∧ ks.length ≤ kc ∧ kc ≤ maxLen := by
  obtain ⟨ha, n, hc, rfl, h1, h2, h3⟩ := h.slice Try.underlying51 (of_decide_eq_true (by kernel_rfl))
  rcases Nat.eq_zero_or_pos n with rfl | hn
  · exact ⟨ha, [], hc, rfl, fun e => absurd rfl e, h1, h2⟩
  · obtain ⟨b, off, rfl, hb, hat⟩ := h3 hn
    have hat' : ∀ i, i < n → ∃ k : Ky, k.Ok ∧ w.cell? ⟨b, off + i * 4, none⟩ = some (.int .i64 k.kind) ∧ w.cell? ⟨b, off + i * 4 + 1, none⟩ = some (.int .i64 k.a) ∧ w.cell? ⟨b, off + i * 4 + 2, none⟩ = some (.int .i64 k.b) ∧ w.cell? ⟨b, off + i * 4 + 3, none⟩ = some (.string k.s) := by
      intro i hi
      obtain ⟨es, hl, hc, hm⟩ := hat i hi
      rw [cellsKey] at hl hc
      obtain ⟨k, hk, rfl⟩ := key_at hm
      exact ⟨k, hk, hc 0 (by omega), hc 1 (by omega), hc 2 (by omega), hc 3 (by omega)⟩
    have : ∃ ks : List Ky, ks.length = n ∧ ∀ i k, ks[i]? = some k → k.Ok ∧ w.cell? ⟨b, off + i * 4, none⟩ = some (.int .i64 k.kind) ∧ w.cell? ⟨b, off + i * 4 + 1, none⟩ = some (.int .i64 k.a) ∧ w.cell? ⟨b, off + i * 4 + 2, none⟩ = some (.int .i64 k.b) ∧ w.cell? ⟨b, off + i * 4 + 3, none⟩ = some (.string k.s) := by
      clear hat h1 h2 h3 hn h
      induction n with
      | zero => exact ⟨[], rfl, by simp⟩
      | succ n ih =>
        obtain ⟨hs, hl, hh⟩ := ih (fun i hi => hat' i (by omega))
        obtain ⟨x, r⟩ := hat' n (by omega)
        refine ⟨hs ++ [x], by simp [hl], fun i p hp => ?_⟩
        rcases Nat.lt_or_ge i n with hi | hi
        · rw [List.getElem?_append_left (by omega)] at hp
          exact hh i p hp
        · rw [List.getElem?_append_right (by omega)] at hp
          have : i - hs.length = 0 := by
            rcases Nat.eq_zero_or_pos (i - hs.length) with h | h
            · exact h
            · rw [List.getElem?_eq_none (by simp; omega)] at hp; cases hp
          obtain rfl : i = n := by omega
          rw [this] at hp
          simp at hp
          subst hp
          exact r
    obtain ⟨ks, rfl, hh⟩ := this
    refine ⟨_, ks, hc, rfl, fun _ => ⟨b, off, rfl, ⟨fun k hk => ?_, fun i k hk => (hh i k hk).2, hb⟩, fun f => f⟩, h1, h2⟩
    obtain ⟨i, hi⟩ := List.getElem?_of_mem hk
    exact (hh i k hi).1
theorem U64.of_wf {x : Int} (h : (Lit.int .u64 x).wf = true) : 0 ≤ x ∧ x < 18446744073709551616 := by
  simp [Lit.wf, IntKind.min, IntKind.max, IntKind.bits, IntKind.signed] at h
  omega
set_option maxRecDepth 100000 in
theorem seen_at {w : World} {cs : List Value} (h : Mem Try.prog w 36 cs) : ∃ (vw : Int) (vs : ByteArray) (vh : Bool), cs = [.int .u64 vw, .string vs, .bool vh] ∧ (0 ≤ vw ∧ vw < 18446744073709551616) ∧ vs.size ≤ maxLen := by
  obtain ⟨hl, hf⟩ := h.struct Try.underlying36
  have e3 : Try.prog.cellsOf 36 = 3 := by kernel_rfl
  rw [e3] at hl
  obtain ⟨x, hx, wx⟩ := (hf 0 _ rfl).int Try.underlying28
  obtain ⟨s, hs, ws⟩ := (hf 1 _ rfl).string Try.underlying9
  obtain ⟨y, hy⟩ := (hf 2 _ rfl).bool Try.underlying4
  obtain ⟨p, q, r, rfl⟩ : ∃ p q r, cs = [p, q, r] := by
    match cs, hl with
    | [p, q, r], _ => exact ⟨p, q, r, rfl⟩
  have e1 : Try.prog.cellsOf 28 = 1 := by kernel_rfl
  have e2 : Try.prog.cellsOf 9 = 1 := by kernel_rfl
  have e4 : Try.prog.cellsOf 4 = 1 := by kernel_rfl
  simp [e1, e2, e4] at hx hs hy
  subst hx hs hy
  exact ⟨x, s, y, rfl, U64.of_wf wx, ws⟩
set_option maxRecDepth 100000 in
theorem acts9_at {w : World} {a : Option Addr} {n cap : Nat} (h : Mem Try.prog w 57 [.slice a n cap]) : n ≤ maxLen ∧ ∀ i, i < n → ActAt9 w a i := by
  obtain ⟨a', n', cap', e, h1, h2, h3⟩ := h.slice Try.underlying57 (of_decide_eq_true (by kernel_rfl))
  simp only [List.cons.injEq, Value.slice.injEq, and_true] at e
  obtain ⟨rfl, rfl, rfl⟩ := e
  refine ⟨by omega, fun i hi => ?_⟩
  obtain ⟨b, off, rfl, hb, hat⟩ := h3 (by omega)
  obtain ⟨es, hl, hc, hm⟩ := hat i hi
  have e3 : Try.prog.cellsOf 63 = 11 := by kernel_rfl
  rw [e3] at hl hc
  obtain ⟨_, hf⟩ := hm.struct Try.underlying63
  obtain ⟨x0, hx0, wx0⟩ := (hf 0 _ rfl).int Try.underlying3
  obtain ⟨x1, hx1, wx1⟩ := (hf 1 _ rfl).int Try.underlying3
  obtain ⟨k, hk, ek⟩ := key_at (hf 2 _ rfl)
  obtain ⟨ka, ks, kc, eks, hks, hkl, hkm⟩ := keys_at (hf 3 _ rfl)
  obtain ⟨x4, hx4, wx4⟩ := (hf 4 _ rfl).int Try.underlying28
  obtain ⟨vw, vs, vh, ev, hvw, hvs⟩ := seen_at (hf 5 _ rfl)
  obtain ⟨p0, p1, p2, p3, p4, p5, p6, p7, p8, p9, p10, rfl⟩ : ∃ p0 p1 p2 p3 p4 p5 p6 p7 p8 p9 p10, es = [p0, p1, p2, p3, p4, p5, p6, p7, p8, p9, p10] := by
    match es, hl with
    | [p0, p1, p2, p3, p4, p5, p6, p7, p8, p9, p10], _ => exact ⟨p0, p1, p2, p3, p4, p5, p6, p7, p8, p9, p10, rfl⟩
  have e1 : Try.prog.cellsOf 3 = 1 := by kernel_rfl
  have e4 : Try.prog.cellsOf 51 = 1 := by kernel_rfl
  have e5 : Try.prog.cellsOf 28 = 1 := by kernel_rfl
  have e6 : Try.prog.cellsOf 36 = 3 := by kernel_rfl
  simp [e1, e4, e5, e6, cellsKey] at hx0 hx1 ek eks hx4 ev
  obtain ⟨rfl, rfl, rfl, rfl⟩ := ek
  obtain ⟨rfl, rfl, rfl⟩ := ev
  subst hx0 hx1 eks hx4
  exact ⟨⟨x0, x1, k, ks, ka, kc, x4, vw, vs, vh⟩, b, off, rfl, hb, ⟨I64.of_wf wx0, I64.of_wf wx1, hk, hks, hkl, hkm, U64.of_wf wx4, hvw, hvs⟩, hc 0 (by omega), hc 1 (by omega), hc 2 (by omega), hc 3 (by omega), hc 4 (by omega), hc 5 (by omega), hc 6 (by omega), hc 7 (by omega), hc 8 (by omega), hc 9 (by omega), hc 10 (by omega)⟩
end Go.Proofs.Ytaanohgkdpohhaa
