/- The store of package cell: Unlock of cells that one holds. Conditions: each contract's own premises. -/
import Derived.Test.YtonilojjahfboaaCell9
namespace Go.Proofs.Ytonilojjahfboaa
open Go.RowKit Go.Maps

theorem setG_setG (f : Ky → Option Cl) (k : Ky) (o o' : Option Cl) : setG (setG f k o) k o' = setG f k o' := by
  funext x
  by_cases e : x = k
  · subst e; rw [setG_same, setG_same]
  · rw [setG_other _ _ e, setG_other _ _ e, setG_other _ _ e]
/-- Unlock of one key, plainly -/
noncomputable def unStep (p : (Ky → Option Cl) × Nat) (k : Ky) : (Ky → Option Cl) × Nat := match p.1 k with
  | none => p
  | some x => if x.st = 0 then (setG p.1 k none, p.2 + 1) else (setG p.1 k (some { x with lk := false }), p.2)
noncomputable def unG (g : Ky → Option Cl) (ks : List Ky) : (Ky → Option Cl) × Nat := ks.foldl unStep (g, 0)
theorem unG_snoc (g : Ky → Option Cl) (ks : List Ky) (i : Nat) (k : Ky) (h : ks[i]? = some k) : unG g (ks.take (i + 1)) = unStep (unG g (ks.take i)) k := by
  obtain ⟨hi, rfl⟩ := List.getElem?_eq_some_iff.1 h
  unfold unG
  rw [List.take_succ_eq_append_getElem hi, List.foldl_append]
  rfl
def UnRel2 (w : World) (s : Sto) (ks : List Ky) (i : Value) (wr : World) : Prop :=
  ∃ (j m : Nat) (g : Ky → Option Cl) (s' : Sto), j ≤ ks.length ∧ m ≤ j ∧ i = .int .i64 j ∧ unG s.g (ks.take j) = (g, m) ∧ (∀ k, k ∉ ks.take j → g k = s.g k) ∧ GPost w s s' g (s.cnt - m) (s.c + m) wr
theorem UnRel2.start {w wr : World} {s : Sto} (h : StC w s) (ks : List Ky) (hb : Below w.heap.size w wr) : UnRel2 w s ks (.int .i64 0) wr :=
  ⟨0, 0, s.g, s, Nat.zero_le _, Nat.le_refl _, rfl, rfl, fun _ _ => rfl, (GPost.refl h).below hb⟩
theorem not_mem_take_succ {ks : List Ky} {j : Nat} {k kk : Ky} (hk : ks[j]? = some kk) (h : k ∉ ks.take (j + 1)) : k ∉ ks.take j ∧ k ≠ kk := by
  obtain ⟨hi, rfl⟩ := List.getElem?_eq_some_iff.1 hk
  rw [List.take_succ_eq_append_getElem hi, List.mem_append] at h
  exact ⟨fun e => h (.inl e), fun e => h (.inr (by rw [e]; exact List.mem_singleton.2 rfl))⟩
theorem UnRel2.stay {w wr w' : World} {s s' s1 : Sto} {ks : List Ky} {j m : Nat} {g : Ky → Option Cl} {kk : Ky} {x : Cl} (hk : ks[j]? = some kk) (hm : m ≤ j) (hG : unG s.g (ks.take j) = (g, m)) (ho : ∀ k, k ∉ ks.take j → g k = s.g k) (p : GPost w s s' g (s.cnt - m) (s.c + m) wr)
    (hx : g kk = some x) (h0 : x.st ≠ 0) (q : GPost wr s' s1 (setG s'.g kk (some { x with lk := false })) s'.cnt s'.c w') : UnRel2 w s ks (.int .i64 ((j : Int) + 1)) w' := by
  refine ⟨j + 1, m, setG g kk (some { x with lk := false }), s1, (List.getElem?_eq_some_iff.1 hk).1, by omega, by simp, ?_, fun k hn => ?_, ?_⟩
  · rw [unG_snoc _ _ _ _ hk, hG]
    unfold unStep
    dsimp only
    rw [hx]
    simp [h0]
  · obtain ⟨h1, h2⟩ := not_mem_take_succ hk hn
    rw [setG_other _ _ h2]; exact ho k h1
  · have := p.trans q
    rw [p.g, p.cnt, p.c] at this
    exact this
theorem UnRel2.gone {w wr w1 w' : World} {s s' s1 s2 : Sto} {ks : List Ky} {j m : Nat} {g : Ky → Option Cl} {kk : Ky} {x : Cl} (hk : ks[j]? = some kk) (hm : m ≤ j) (hG : unG s.g (ks.take j) = (g, m)) (ho : ∀ k, k ∉ ks.take j → g k = s.g k) (p : GPost w s s' g (s.cnt - m) (s.c + m) wr)
    (hx : g kk = some x) (h0 : x.st = 0) (q : GPost wr s' s1 (setG s'.g kk (some { x with lk := false })) s'.cnt s'.c w1) (q2 : GPost w1 s1 s2 (setG s1.g kk none) (s1.cnt - 1) (s1.c + 1) w') : UnRel2 w s ks (.int .i64 ((j : Int) + 1)) w' := by
  refine ⟨j + 1, m + 1, setG g kk none, s2, (List.getElem?_eq_some_iff.1 hk).1, by omega, by simp, ?_, fun k hn => ?_, ?_⟩
  · rw [unG_snoc _ _ _ _ hk, hG]
    unfold unStep
    dsimp only
    rw [hx]
    simp [h0]
  · obtain ⟨h1, h2⟩ := not_mem_take_succ hk hn
    rw [setG_other _ _ h2]; exact ho k h1
  · have := (p.trans q).trans q2
    rw [q.g, q.cnt, q.c, p.g, p.cnt, p.c, setG_setG] at this
    have e : s.cnt - m - 1 = s.cnt - (m + 1) := by omega
    rw [e] at this
    exact this

/-- a slot whose word is written -/
theorem word_g {w w' : World} {s : Sto} (h : StC w s) {k : Ky} {ad st : Nat} {xh xg who : Int} {lk ab lk' : Bool} {text : ByteArray} (hx : s.f k = some ⟨ad, xh, xg, st, lk, ab, text, who⟩) (X : Obj) (n : Nat) (hw : w' = ((w.alloc X).drewN n).setCell ⟨ad, 2, none⟩ (.int .u64 (wd st lk' ab))) :
    ∃ s1, GPost w s s1 (setG s.g k (some ⟨st, lk', ab, text, who⟩)) s.cnt s.c w' := by
  subst hw
  have ho := (h.slot k _ hx).2.1
  have hb := (h.slot k _ hx).2.2.1
  have hp := h.put_post (x' := ⟨ad, xh, xg, st, lk', ab, text, who⟩) hx rfl rfl rfl ⟨ho.st, ho.text, ho.who⟩ ((chg_box w X n (fun i => i = ad)).setCell (fun _ => rfl) _) ((blk_setCell (i := 2) (blk_box hb n) _).trans rfl) (.int .i64 0)
  exact (put_g (y := ⟨ad, xh, xg, st, lk', ab, text, who⟩) hp rfl).2

set_option maxRecDepth 100000 in
set_option maxHeartbeats 1000000 in
theorem unlock_ok (s : Sto) (b cap : Nat) (who : Int) (a : Option Addr) (ks : List Ky) (w : World) (h : StC w s) (hb : s.sb = b) (hks : KsV w s.fp a ks) (hl : ks.length ≤ 1000) (hcap : ks.length ≤ cap) (hyes : unlockOk s.g who ks ks.length) (hcn : s.c + ks.length ≤ 1099511627776) :
    Calls Try.prog 70 #[.pointer (some ⟨b, 0, none⟩), .int .i64 who, .slice a ks.length cap] w (PostG w s (unG s.g ks).1 (s.cnt - (unG s.g ks).2) (s.c + (unG s.g ks).2) (.int .i64 0)) := by
  have HB := Lib.hid hb
  have HY := Lib.hid hyes
  clear hb hyes
  go_enter Try.func70, Try.ntmps70
  go_wp2_with fail
  go_loopw [14] (fun i wr => ∃ j : Nat, j ≤ ks.length ∧ i = .int .i64 j ∧ Below w.heap.size w wr) (fun i _ => ks.length - (intOf i).toNat)
  case atStart => exact ⟨0, Nat.zero_le _, rfl, Below.refl _ _⟩
  case round =>
    obtain ⟨j, hj, rfl, hbel⟩ := hrel
    by_cases hlt : j < ks.length
    · obtain ⟨kk, hkk⟩ : ∃ kk, ks[j]? = some kk := ⟨_, List.getElem?_eq_getElem hlt⟩
      obtain ⟨hh, hin⟩ := HY.out j kk hlt hkk
      have KV := Lib.hid (hks.below hbel)
      obtain ⟨kb, off, rfl, kat, _⟩ := KV.out (fun e => by rw [e] at hlt; simp at hlt)
      have kok := kat.ok kk (List.mem_of_getElem? hkk)
      obtain ⟨q0, q1, q2, q3⟩ := kat.cells j kk hkk
      have hlb := kat.lt
      have hSt : ∀ w', Below (wr.alloc (.cells #[.int .i64 kk.kind, .int .i64 kk.a, .int .i64 kk.b, .string kk.s] 35)).heap.size (wr.alloc (.cells #[.int .i64 kk.kind, .int .i64 kk.a, .int .i64 kk.b, .string kk.s] 35)) w' → StC w' s := fun w' hb' => ((h.stay hbel).alloc _).stay hb'
      have hKt : ∀ w', Below (wr.alloc (.cells #[.int .i64 kk.kind, .int .i64 kk.a, .int .i64 kk.b, .string kk.s] 35)).heap.size (wr.alloc (.cells #[.int .i64 kk.kind, .int .i64 kk.a, .int .i64 kk.b, .string kk.s] 35)) w' → KsV w' (fun _ => False) (some ⟨kb, off, none⟩) (ks.take j) := fun w' hb' => ((KV.out.take j).below ((Below.refl _ _).alloc (Nat.le_refl _) _)).below hb'
      have ks0 := BoxK.mk (k := kk) (heap_new wr (.cells #[.int .i64 kk.kind, .int .i64 kk.a, .int .i64 kk.b, .string kk.s] 35))
      unfold BoxK at ks0
      have KS := Lib.hid ks0
      have HS := Lib.hid hSt
      have HT := Lib.hid hKt
      have HK := Lib.hid hkk
      have hc1 : (0 : Int) ≤ (j : Int) := by omega
      have hc2 : (j : Int) ≤ (cap : Int) := by omega
      have hlen : Hid ((ks.take j).length = j) := Lib.hid (by simp; omega)
      have HH := Lib.hid hh
      clear hSt hKt hkk kat ks0 hks h hh
      go_wp2_with fail
      obtain ⟨W, hW⟩ : ∃ W, W = wr.alloc (.cells #[.int .i64 kk.kind, .int .i64 kk.a, .int .i64 kk.b, .string kk.s] 35) := ⟨_, rfl⟩
      rw [← hW] at KS HS HT ⊢
      have hBW : Below w.heap.size w W := by rw [hW]; exact hbel.alloc hbel.size _
      clear hW
      go_region_held3 (fun w' => Below W.heap.size W w' ∧ w'.cell? ⟨wr.heap.size, 0, none⟩ = some (.int .i64 kk.kind) ∧ w'.cell? ⟨wr.heap.size, 1, none⟩ = some (.int .i64 kk.a) ∧ w'.cell? ⟨wr.heap.size, 2, none⟩ = some (.int .i64 kk.b) ∧ w'.cell? ⟨wr.heap.size, 3, none⟩ = some (.string kk.s))
        (first | exact KS.out _ (Below.refl _ _).drew | (go_split_ands; refine KS.out _ (below_then ?_ hbc); assumption))
        (first | (go_at_call 71; go_split_ands; (with_reducible refine (holds_g s b kk _ _ (HS.out _ ?hbw) HB.out kok).mono ?_); (case hbw => assumption); rintro e wc ⟨rfl, hbc⟩; rw [HH.out]) | (go_at_call 83; go_split_ands; have hct := contains_no (some ⟨kb, off, none⟩) cap (ks.take j) kk _ (HT.out _ ‹_›) (by rw [hlen.out]; omega) hin; rw [hlen.out] at hct; (with_reducible refine hct.mono ?_); rintro e wc ⟨rfl, hbc⟩))
      go_split_ands
      go_wp2_with fail
      exact ⟨⟨j + 1, by omega, by go_num, hBW.trans (Below.mono (by assumption) hBW.size)⟩, by simp [intOf]; omega⟩
    · go_wp2_with fail
      go_loopw [34] (fun i wr => UnRel2 w s ks i wr) (fun i _ => ks.length - (intOf i).toNat)
      case atStart => exact UnRel2.start h ks hbel
      case round =>
        rename_i wo _
        obtain ⟨j', m, g, s', hj', hm, rfl, hG, ho, p⟩ := hrel
        clear hlt hj
        have HG := Lib.hid hG
        have HO := Lib.hid ho
        clear hG ho
        by_cases hlt : j' < ks.length
        · obtain ⟨kk, hkk⟩ : ∃ kk, ks[j']? = some kk := ⟨_, List.getElem?_eq_getElem hlt⟩
          obtain ⟨kb, off, rfl, kat, kout⟩ := hks (fun e => by rw [e] at hlt; simp at hlt)
          have ho := p.out kat.lt kout
          obtain ⟨q0, q1, q2, q3⟩ := (kat.of_block ho.1).cells j' kk hkk
          have kok := kat.ok kk (List.mem_of_getElem? hkk)
          obtain ⟨hh, hin⟩ := HY.out j' kk hlt hkk
          have hgk : g kk = s.g kk := HO.out kk hin
          have hS' : s'.sb = b := p.sb.trans HB.out
          obtain ⟨_, c1, hls, lk0⟩ := p.st.pre kok
          have lk := lk0 (.cells #[.int .i64 kk.kind, .int .i64 kk.a, .int .i64 kk.b, .string kk.s] 35)
          rw [hS'] at c1 hls
          obtain ⟨x, hx, hxl⟩ : ∃ x, s'.f kk = some x ∧ x.lk = true := by
            have e : holdsV (s'.g kk) who = true := by rw [p.g, hgk]; exact hh
            unfold Sto.g at e
            cases hf : s'.f kk with
            | none => rw [hf] at e; simp [holdsV] at e
            | some x => rw [hf] at e; simp [holdsV, Sl.cl] at e; exact ⟨x, rfl, e.1⟩
          have hgx : g kk = some x.cl := by rw [← p.g]; unfold Sto.g; rw [hx]; rfl
          rw [hx] at lk
          simp only [ptrOf, Option.map_some, Option.getD_some, Sl.ptr] at lk
          obtain ⟨_, _, c2, _, _, hxs⟩ := p.st.cells hx
          have hs := Lib.hid (p.st.slot kk x hx).2.1.st
          have f2 := frozen_of_blk (p.st.slot kk x hx).2.2.1 2
          have HX := Lib.hid hx
          have HGX := Lib.hid hgx
          have HK := Lib.hid hkk
          have HS := Lib.hid hS'
          clear lk0 hkk hS' kat ho hks hgk hh hin hx hgx
          obtain ⟨ad, xh, xg, st, lkx, ab, text, whx⟩ := x
          dsimp only [Sl.cl] at *
          subst hxl
          by_cases h0 : st = 0
          · have h0' : ((st : Int) == 0) = true := by simpa using h0
            have H0 := Lib.hid h0
            clear h0
            go_wp2_with fail
            go_quiet (fail)
            go_wp2_with (first | (go_at_call 84; refine (unlock_wd _ _ _ _ hs.out).mono ?_; rintro e w' ⟨rfl, rfl⟩) | (go_at_call 46; refine (stamp_wd _ _ _ _ hs.out).mono ?_; rintro e w' ⟨rfl, rfl⟩))
            obtain ⟨s1, q⟩ := word_g (lk' := false) p.st HX.out (.cells #[.int .i64 kk.kind, .int .i64 kk.a, .int .i64 kk.b, .string kk.s] 35) nq rfl
            refine (drop_g s1 b kk ⟨st, false, ab, text, whx⟩ _ q.st (q.sb.trans HS.out) kok (by rw [q.g, setG_same]) (by rw [q.c, p.c]; omega)).mono ?_
            rintro e w2 ⟨rfl, s2, q2⟩
            have HR := Lib.hid (UnRel2.gone HK.out hm HG.out HO.out p HGX.out H0.out q q2)
            go_wp2_with fail
            exact ⟨HR.out, by simp [intOf]; omega⟩
          · have h0' : ((st : Int) == 0) = false := by simpa using h0
            have H0 := Lib.hid h0
            clear h0
            go_wp2_with fail
            go_quiet (fail)
            go_wp2_with (first | (go_at_call 84; refine (unlock_wd _ _ _ _ hs.out).mono ?_; rintro e w' ⟨rfl, rfl⟩) | (go_at_call 46; refine (stamp_wd _ _ _ _ hs.out).mono ?_; rintro e w' ⟨rfl, rfl⟩))
            obtain ⟨s1, q⟩ := word_g (lk' := false) p.st HX.out (.cells #[.int .i64 kk.kind, .int .i64 kk.a, .int .i64 kk.b, .string kk.s] 35) nq rfl
            exact ⟨UnRel2.stay HK.out hm HG.out HO.out p HGX.out H0.out q, by simp [intOf]; omega⟩
        · go_wp2_with fail
          go_ret
          obtain rfl : j' = ks.length := by omega
          rw [List.take_length] at HG
          rw [HG.out]
          exact ⟨rfl, s', p⟩
end Go.Proofs.Ytonilojjahfboaa
