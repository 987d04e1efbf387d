/- The store of package cell: Free, and that the handles of what is freed are live no more. Conditions: each contract's own premises. -/
import Derived.Test.YtaanohgkdpohhaaCell10
namespace Go.Proofs.Ytaanohgkdpohhaa
open Go.RowKit Go.Maps

theorem Ar.dead_put {s : Ar} {x y g : Int} (hl : (s.put x).live y g = true) : s.live y g = true ∧ y ≠ x := by
  have hl' := hl
  unfold Ar.live at hl
  rw [Ar.taken_put] at hl
  simp only [Bool.and_eq_true] at hl
  have hne : y ≠ x := by
    intro e
    subst e
    simp at hl
  refine ⟨?_, hne⟩
  unfold Ar.live
  simp only [Bool.and_eq_true]
  simp [hne, Ar.put] at hl
  exact ⟨hl.1, by simpa using hl.2⟩
/-- slots are as they were, or gone; of what is gone the handle is live no more -/
def Dead (s s' : Sto) : Prop := (∀ y, s'.f y = s.f y ∨ s'.f y = none) ∧ ∀ y x, s.f y = some x → s'.f y = none → s'.ar.live x.hs x.hg = false
theorem drop_at (s : Sto) (b : Nat) (k : Ky) (x : Sl) (w : World) (h : StC w s) (hb : s.sb = b) (hk : k.Ok) (hx : s.f k = some x) (hcn : s.c + 1 ≤ 1099511627776) :
    Calls Try.prog 85 #[.pointer (some ⟨b, 0, none⟩), .agg #[.int .i64 k.kind, .int .i64 k.a, .int .i64 k.b, .string k.s]] w fun e w' => e = .returned (.tuple #[]) ∧ ∃ s', GPost w s s' (setG s.g k none) (s.cnt - 1) (s.c + 1) w' ∧ ∃ v, s' = s.less k x v := by
  subst hb
  refine (drop_any s k x w h hk hx hcn).mono ?_
  rintro e w' ⟨v', he, hst, hch, hfp⟩
  refine ⟨he, _, ⟨hst, hch, hfp, rfl, rfl, ?_, ?_, rfl⟩, v', rfl⟩
  · rw [setF_g s k none _ rfl]; rfl
  · show s.ar.fresh - (s.ar.free ++ [x.hs]).length = s.ar.fresh - s.ar.free.length - 1
    simp; omega
def FdRel (w : World) (s : Sto) (ks : List Ky) (n i : Value) (wr : World) : Prop :=
  ∃ (k m : Nat) (g : Ky → Option Cl) (s' : Sto), k ≤ ks.length ∧ m ≤ k ∧ i = .int .i64 k ∧ n = .int .i64 m ∧ freeG s.g (ks.take k) = (g, m) ∧ GPost w s s' g (s.cnt - m) (s.c + m) wr ∧ Dead s s'
theorem FdRel.start {w : World} {s : Sto} (h : StC w s) (ks : List Ky) : FdRel w s ks (.int .i64 0) (.int .i64 0) w :=
  ⟨0, 0, s.g, s, Nat.zero_le _, Nat.le_refl _, rfl, rfl, rfl, GPost.refl h, fun _ => .inl rfl, fun y x h1 h2 => by rw [h1] at h2; cases h2⟩
theorem FdRel.skip {w wr w' : World} {s s' : Sto} {ks : List Ky} {k m : Nat} {g : Ky → Option Cl} {kk : Ky} (hk : ks[k]? = some kk) (hm : m ≤ k) (hG : freeG s.g (ks.take k) = (g, m)) (p : GPost w s s' g (s.cnt - m) (s.c + m) wr) (hD : Dead s s') (hb : Below wr.heap.size wr w')
    (hs : ∀ x, g kk = some x → (x.ab && !x.lk) = false) : FdRel w s ks (.int .i64 m) (.int .i64 ((k : Int) + 1)) w' := by
  refine ⟨k + 1, m, g, s', (List.getElem?_eq_some_iff.1 hk).1, by omega, by simp, rfl, ?_, p.below hb, hD⟩
  rw [freeG_snoc _ _ _ _ hk, hG]
  unfold freeStep
  dsimp only
  split
  · rfl
  · next x hx => rw [hs x hx]; rfl
theorem FdRel.take {w wr w1 w' : World} {s s' s2 : Sto} {ks : List Ky} {k m : Nat} {g : Ky → Option Cl} {kk : Ky} {x : Cl} {y : Sl} {v : Value} (hk : ks[k]? = some kk) (hm : m ≤ k) (hG : freeG s.g (ks.take k) = (g, m)) (p : GPost w s s' g (s.cnt - m) (s.c + m) wr) (hD : Dead s s') (hb : Below wr.heap.size wr w1)
    (hy : s'.f kk = some y) (hx : g kk = some x) (ha : x.ab = true) (hl : x.lk = false) (q : GPost w1 s' s2 (setG s'.g kk none) (s'.cnt - 1) (s'.c + 1) w') (hs2 : s2 = s'.less kk y v) : FdRel w s ks (.int .i64 ((m : Int) + 1)) (.int .i64 ((k : Int) + 1)) w' := by
  refine ⟨k + 1, m + 1, setG g kk none, s2, (List.getElem?_eq_some_iff.1 hk).1, by omega, by simp, by simp, ?_, ?_, ?_, ?_⟩
  · rw [freeG_snoc _ _ _ _ hk, hG]
    unfold freeStep
    dsimp only
    rw [hx]
    simp [ha, hl]
  · have := (p.below hb).trans q
    rw [p.g, p.cnt, p.c] at this
    have e : s.cnt - m - 1 = s.cnt - (m + 1) := by omega
    rw [e] at this
    exact this
  · intro z
    subst hs2
    by_cases e : z = kk
    · subst e; exact .inr (setF_same _ _ _)
    · show setF s'.f kk none z = _ ∨ setF s'.f kk none z = _
      rw [setF_other _ _ e]; exact hD.1 z
  · intro z u h1 h2
    subst hs2
    show (s'.ar.put y.hs).live u.hs u.hg = false
    refine Bool.eq_false_iff.2 fun hl => ?_
    obtain ⟨h3, h4⟩ := Ar.dead_put hl
    by_cases e : z = kk
    · subst e
      rcases hD.1 z with h5 | h5
      · rw [h5, h1] at hy
        cases hy
        exact h4 rfl
      · rw [h5] at hy; cases hy
    · have h2' : setF s'.f kk none z = none := h2
      rw [setF_other _ _ e] at h2'
      rw [hD.2 z u h1 h2'] at h3
      cases h3
def FdPost (w : World) (s : Sto) (ks : List Ky) (e : Ending) (w' : World) : Prop := e = .returned (.int .i64 ((freeG s.g ks).2 : Nat)) ∧ ∃ s', GPost w s s' (freeG s.g ks).1 (s.cnt - (freeG s.g ks).2) (s.c + (freeG s.g ks).2) w' ∧ Dead s s'

set_option maxRecDepth 100000 in
set_option maxHeartbeats 1000000 in
theorem free_dead (s : Sto) (b cap : Nat) (a : Option Addr) (ks : List Ky) (w : World) (h : StC w s) (hb : s.sb = b) (hks : KsV w s.fp a ks) (_hl : ks.length ≤ 1000) (hcn : s.c + ks.length ≤ 1099511627776) :
    Calls Try.prog 24 #[.pointer (some ⟨b, 0, none⟩), .slice a ks.length cap] w (FdPost w s ks) := by
  have HB := Lib.hid hb
  clear hb
  go_enter Try.func24, Try.ntmps24
  go_wp2_with fail
  go_loopw [5, 11] (fun n i wr => FdRel w s ks n i wr) (fun _ i _ => ks.length - (intOf i).toNat)
  case atStart => exact FdRel.start h ks
  case round =>
    obtain ⟨k, m, g, s', hk, hm, rfl, rfl, hG, p, hD⟩ := hrel
    have HD := Lib.hid hD
    clear hD
    have HG := Lib.hid hG
    clear hG
    by_cases hlt : k < ks.length
    · obtain ⟨kk, hkk⟩ : ∃ kk, ks[k]? = some kk := ⟨_, List.getElem?_eq_getElem hlt⟩
      obtain ⟨kb, off, rfl, kat, kout⟩ := hks (fun e => by rw [e] at hlt; simp at hlt)
      have ho := p.out kat.lt kout
      obtain ⟨q0, q1, q2, q3⟩ := (kat.of_block ho.1).cells k kk hkk
      have kok := kat.ok kk (List.mem_of_getElem? hkk)
      have hS' : s'.sb = b := p.sb.trans HB.out
      obtain ⟨_, c1, hls, lk0⟩ := p.st.pre kok
      have lk := lk0 (.cells #[.int .i64 kk.kind, .int .i64 kk.a, .int .i64 kk.b, .string kk.s] 32)
      rw [hS'] at c1 hls
      have HK := Lib.hid hkk
      have HS := Lib.hid hS'
      have PG : Hid (s'.g = g) := Lib.hid p.g
      clear lk0 hkk hS' kat ho hks
      cases hx : s'.f kk with
      | none =>
        rw [hx] at lk
        simp only [ptrOf, Option.map_none, Option.getD_none] at lk
        have hgx : g kk = none := by rw [← PG.out]; unfold Sto.g; rw [hx]; rfl
        have HGX := Lib.hid hgx
        clear hx hgx
        go_wp2_with fail
        go_quiet (fail)
        go_wp2_with fail
        exact ⟨FdRel.skip HK.out hm HG.out p HD.out (below_drewN ((Below.refl _ _).alloc (Nat.le_refl _) _) _) (fun x e => by rw [HGX.out] at e; cases e), by simp [intOf]; omega⟩
      | some x =>
        rw [hx] at lk
        simp only [ptrOf, Option.map_some, Option.getD_some, Sl.ptr] at lk
        obtain ⟨_, _, c2, _, _, hxl⟩ := p.st.cells hx
        have hs := Lib.hid (p.st.slot kk x hx).2.1.st
        have hgx : g kk = some x.cl := by rw [← PG.out]; unfold Sto.g; rw [hx]; rfl
        have HGX := Lib.hid hgx
        have HX := Lib.hid hx
        clear hx hgx
        obtain ⟨ad, xh, xg, st, lkx, ab, text, whx⟩ := x
        dsimp only [Sl.cl] at *
        cases ab
        · go_wp2_with fail
          go_quiet (fail)
          go_wp2_with (go_at_call 84; refine (absent_any _ _ _ _ _ hs.out (cell_box hxl c2 _)).mono ?_; rintro e w' ⟨rfl, dq, rfl⟩)
          exact ⟨FdRel.skip HK.out hm HG.out p HD.out (below_drewN ((Below.refl _ _).alloc (Nat.le_refl _) _) _) (fun x e => by rw [HGX.out] at e; cases e; rfl), by simp [intOf]; omega⟩
        · cases lkx
          · go_wp2_with fail
            go_quiet (fail)
            go_wp2_with (first | (go_at_call 84; refine (absent_any _ _ _ _ _ hs.out (cell_box hxl c2 _)).mono ?_; rintro e w' ⟨rfl, dq, rfl⟩) | (go_at_call 82; refine (locked_any _ _ _ _ _ hs.out (cell_box hxl c2 _)).mono ?_; rintro e w' ⟨rfl, rfl⟩))
            refine (drop_at s' b kk _ _ ((p.st.alloc _).drewN _) HS.out kok HX.out (by rw [p.c]; omega)).mono ?_
            rintro e w2 ⟨rfl, s2, q, v9, hs2⟩
            have HR := Lib.hid (FdRel.take HK.out hm HG.out p HD.out (below_drewN ((Below.refl _ _).alloc (Nat.le_refl _) _) _) HX.out HGX.out rfl rfl q hs2)
            go_wp2_with fail
            exact ⟨HR.out, by simp [intOf]; omega⟩
          · go_wp2_with fail
            go_quiet (fail)
            go_wp2_with (first | (go_at_call 84; refine (absent_any _ _ _ _ _ hs.out (cell_box hxl c2 _)).mono ?_; rintro e w' ⟨rfl, dq, rfl⟩) | (go_at_call 82; refine (locked_any _ _ _ _ _ hs.out (cell_box hxl c2 _)).mono ?_; rintro e w' ⟨rfl, rfl⟩))
            exact ⟨FdRel.skip HK.out hm HG.out p HD.out (below_drewN ((Below.refl _ _).alloc (Nat.le_refl _) _) _) (fun x e => by rw [HGX.out] at e; cases e; rfl), by simp [intOf]; omega⟩
    · obtain rfl : k = ks.length := by omega
      go_wp2_with fail
      go_ret
      rw [List.take_length] at HG
      unfold FdPost
      rw [HG.out]
      exact ⟨rfl, s', p, HD.out⟩
end Go.Proofs.Ytaanohgkdpohhaa
