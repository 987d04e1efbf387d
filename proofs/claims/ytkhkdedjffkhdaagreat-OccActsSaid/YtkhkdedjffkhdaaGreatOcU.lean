/- A transaction's calls beside its store: Fetch, Put, Commit, Reads, Writes; the steps one by one. Conditions: each contract's own premises. A transaction's steps, one by one. Conditions: each contract's own premises. Layer 20: the document's example, its stages. Conditions: each lemma's own premises. Layer 20: the document's example. Conditions: the contract's own premises. -/
import Derived.Test.YtkhkdedjffkhdaaGreatOcS
import Derived.Test.YtkhkdedjffkhdaaGreatSxB
namespace Go.Proofs.YtkhkdedjffkhdaaGreat
open Go.RowKit Go.Maps

section
variable {w : World} {a : Ta} {T : Tn} {P : Ps} {s : Sto}
/-- the sets' maps alone have changed -/
theorem OcA.sets (h : OcA w a T P s) {w' : World} {P' : Ps} (hx : StX w' a.m.sb a.bs a.bw a.bm P'.ns P'.nw P'.nm P'.gs P'.gw P'.gm) {b : Nat} (hb : b = a.bs ∨ b = a.bw ∨ b = a.bm) (hc : Chg w w' (fun j => j = b)) : OcA w' a T P' s ∧ OcT w w' a a s s := by
  have hm : ∃ es ck, w.heap[b]? = some (.map es ck) := by
    rcases hb with rfl | rfl | rfl
    · exact h.mm.x.sm.map
    · exact h.mm.x.wm.map
    · exact h.mm.x.mm.map
  have hf : a.fp b := by
    rcases hb with rfl | rfl | rfl
    · exact .inr (.inr (.inl rfl))
    · exact .inr (.inr (.inr (.inl rfl)))
    · exact .inr (.inr (.inr (.inr (.inl rfl))))
  exact ⟨⟨⟨h.mm.t.turn hc hm, hx⟩, h.st.keep (fun i hi => hc.block i (h.st.lt hi) (fun e => h.ap b hf (by rw [← e]; exact hi))), h.cb, h.ap⟩, ⟨hc.mono (fun _ _ e => .inl (by rw [e]; exact hf)), fun _ h => .inl h, fun _ h => .inl h, rfl, rfl, rfl⟩⟩
/-- what Fetch leaves, where it sees the cell -/
def FtPost (w : World) (a : Ta) (T : Tn) (P : Ps) (s : Sto) (k : Ky) (e : Ending) (w' : World) : Prop :=
  (T.ph = 0 ∧ (P.gs k).isSome = true ∧ e = .returned (.int .i64 31) ∧ OcA w' a T P s ∧ OcT w w' a a s s) ∨
  (T.ph = 0 ∧ P.gs k = none ∧ lkOf (s.g k) = false ∧ e = .returned (.int .i64 0) ∧ ∃ ns', ns' ≤ P.ns + 1 ∧ OcA w' a { T with most := max T.most (snOf (s.g k)).word, n := T.n + 1 } { P with ns := ns', gs := updK P.gs k (some (snOf (s.g k))) } s ∧ OcT w w' a a s s) ∨
  (T.ph ≠ 0 ∧ e = .returned (.int .i64 200) ∧ OcA w' a T P s ∧ OcT w w' a a s s) ∨
  (T.ph = 0 ∧ P.gs k = none ∧ lkOf (s.g k) = true ∧ e = .returned (.int .i64 60) ∧ OcA w' a T P s ∧ OcT w w' a a s s)
theorem fetch_a (h : OcA w a T P s) {k : Ky} (hk : k.Ok) (hmo : Sm T.most) (hst : ∀ x, s.g k = some x → Sm x.st) (hn : T.n ≤ 1000000) (hns : P.ns ≤ 1000000) (hok : (snOf (s.g k)).val.size = 0 ∨ (snOf (s.g k)).has = true) :
    Calls Tryz.prog 18 #[.pointer (some ⟨a.m.tb, 0, none⟩), .agg #[.int .i64 k.kind, .int .i64 k.a, .int .i64 k.b, .string k.s]] w (FtPost w a T P s k) := by
  refine (fetch_any h.mm.t h.mm.x h.st h.cb hk hmo hst hn hns hok).mono ?_
  intro e w' hp
  rcases hp with ⟨h1, h2, h3⟩ | ⟨h1, h2, h3, h4⟩ | ⟨h1, h2, h3, h4, h5⟩ | ⟨h1, h2, h3, h4, ns', h5, h6, h7, h8⟩
  · exact .inr (.inr (.inl ⟨h1, h2, h.below h3, OcT.below h3 a s⟩))
  · exact .inl ⟨h1, h2, h3, h.below h4, OcT.below h4 a s⟩
  · exact .inr (.inr (.inr ⟨h1, h2, h3, h4, h.below h5, OcT.below h5 a s⟩))
  · refine .inr (.inl ⟨h1, h2, h3, h4, ns', h5, ⟨⟨h6, h7⟩, h.st.keep (fun i hi => h8.block i (h.st.lt hi) (fun e => ?_)), h.cb, h.ap⟩, ⟨h8.mono (fun _ _ e => .inl ?_), fun _ h => .inl h, fun _ h => .inl h, rfl, rfl, rfl⟩⟩)
    · rcases e with e | e
      · exact h.ap i (.inl e) hi
      · exact h.ap i (.inr (.inr (.inl e))) hi
    · rcases e with e | e
      · exact .inl e
      · exact .inr (.inr (.inl e))
def PtPost (w : World) (a : Ta) (T : Tn) (P : Ps) (s : Sto) (k : Ky) (t : Tx) (e : Ending) (w' : World) : Prop :=
  ((P.gs k).isSome = true ∧ e = .returned (.int .i64 0) ∧ ∃ nw', nw' ≤ P.nw + 1 ∧ OcA w' a T { P with nw := nw', gw := updK P.gw k (some t) } s ∧ OcT w w' a a s s) ∨
  (P.gs k = none ∧ e = .returned (.int .i64 101) ∧ OcA w' a T P s ∧ OcT w w' a a s s)
theorem put_a (h : OcA w a T P s) {k : Ky} (hk : k.Ok) (hnw : P.nw ≤ 1000000) (val : ByteArray) :
    Calls Tryz.prog 20 #[.pointer (some ⟨a.m.sb, 0, none⟩), .agg #[.int .i64 k.kind, .int .i64 k.a, .int .i64 k.b, .string k.s], .string val] w (PtPost w a T P s k ⟨val, true⟩) := by
  refine (sxPut_any h.mm.x hnw hk val).mono ?_
  intro e w' hp
  unfold PutPost at hp
  by_cases hg : (P.gs k).isSome = true
  · rw [if_pos hg] at hp
    obtain ⟨h1, nw', h2, h3, h4⟩ := hp
    exact .inl ⟨hg, h1, nw', h2, h.sets (P' := { P with nw := nw', gw := updK P.gw k (some ⟨val, true⟩) }) h3 (.inr (.inl rfl)) h4⟩
  · rw [if_neg hg] at hp
    exact .inr ⟨by cases h9 : P.gs k with | none => rfl | some x => rw [h9] at hg; exact absurd rfl hg, hp.1, h.below hp.2, OcT.below hp.2 a s⟩
def CtPost (w : World) (a : Ta) (T : Tn) (P : Ps) (s : Sto) (e : Ending) (w' : World) : Prop :=
  (T.ph ≠ 0 ∧ e = .returned (.int .i64 200) ∧ OcA w' a T P s ∧ OcT w w' a a s s) ∨
  (T.ph = 0 ∧ e = .returned (.int .i64 0) ∧ ∃ (kw kr : List Ky) (a' : Ta), KsG P.gw P.nw kw ∧ KsG P.gs P.ns kr ∧ a'.m.sb = a.m.sb ∧ OcA w' a' (toT { T with W := wrOut P.gs P.gw kw, L := lastW (wrOut P.gs P.gw kw), R := kr } 1) P s ∧ OcT w w' a a' s s)
theorem commit_a (h : OcA w a T P s) (hns : P.ns ≤ 20000) (hnw : P.nw ≤ 20000) : Calls Tryz.prog 21 #[.pointer (some ⟨a.m.tb, 0, none⟩)] w (CtPost w a T P s) := by
  refine (occommit_any h.mm.t h.mm.x hns hnw).mono ?_
  intro e w' hp
  rcases hp with ⟨h1, h2, h3⟩ | ⟨h1, h2, kw, kr, m', h3, h4, h5, h6, h7, h8, h9, h10⟩
  · exact .inl ⟨h1, h2, h.below h3, OcT.below h3 a s⟩
  · have hx := h.mm.x.txn h.mm.t h9
    have hst := h.st.keep (fun i hi => h9.block i (h.st.lt hi) (fun e => h.ap i (.inl e) hi))
    have hfp : ∀ j, Ta.fp { a with m := m' } j → a.fp j ∨ w.heap.size ≤ j := fun j hj => by
      rcases hj with e | e | e | e | e | e | e | e
      · exact .inl (.inl (e.trans h5))
      · exact .inl (.inr (.inl (e.trans h6)))
      · exact .inl (.inr (.inr (.inl e)))
      · exact .inl (.inr (.inr (.inr (.inl e))))
      · exact .inl (.inr (.inr (.inr (.inr (.inl e)))))
      · exact .inr (h10 j (.inl e))
      · exact .inr (h10 j (.inr (.inl e)))
      · exact .inr (h10 j (.inr (.inr e)))
    refine .inr ⟨h1, h2, kw, kr, { a with m := m' }, h3, h4, h6, ⟨⟨h8, by rw [show ({ a with m := m' } : Ta).m.sb = a.m.sb from h6]; exact hx⟩, hst, h.cb.trans h7.symm, fun j hj hf => ?_⟩, ⟨h9.mono (fun _ _ e => .inl (.inl e)), hfp, fun _ h => .inl h, h5, rfl, rfl⟩⟩
    rcases hfp j hj with e | e
    · exact h.ap j e hf
    · have := h.st.lt hf; omega
/-- a new transaction of a store -/
theorem new_a {m : Tm} {bs bw bm : Nat} {who : Int} {w' : World} (hs : StC w s) (h : TxC w' m (Tn.new who)) (hx : StX w' m.sb bs bw bm 0 0 0 (fun _ => none) (fun _ => none) (fun _ => none)) (hcb : m.cb = s.sb) (hb : Below w.heap.size w w') (h1 : w.heap.size ≤ m.tb) (h2 : w.heap.size ≤ m.sb) (h3 : w.heap.size ≤ bs) (h4 : w.heap.size ≤ bw) (h5 : w.heap.size ≤ bm)
    (hwa : m.wa = none) (hla : m.la = none) (hra : m.ra = none) : OcA w' ⟨m, bs, bw, bm⟩ (Tn.new who) ⟨0, 0, 0, fun _ => none, fun _ => none, fun _ => none⟩ s ∧ ∀ j, Ta.fp ⟨m, bs, bw, bm⟩ j → w.heap.size ≤ j := by
  have hf : ∀ j, Ta.fp ⟨m, bs, bw, bm⟩ j → w.heap.size ≤ j := fun j hj => by
    rcases hj with e | e | e | e | e | e | e | e
    · rw [e]; exact h1
    · rw [e]; exact h2
    · rw [e]; exact h3
    · rw [e]; exact h4
    · rw [e]; exact h5
    · unfold ownB at e; rw [hwa] at e; cases e
    · unfold ownB at e; rw [hla] at e; cases e
    · unfold ownB at e; rw [hra] at e; cases e
  exact ⟨⟨⟨h, hx⟩, hs.stay hb, hcb.symm, fun j hj hs' => by have := hf j hj; have := hs.lt hs'; omega⟩, hf⟩
end
end Go.Proofs.YtkhkdedjffkhdaaGreat
namespace Go.Proofs.YtkhkdedjffkhdaaGreat
open Go.RowKit Go.Maps

section
variable {w : World} {a : Ta} {T : Tn} {P : Ps} {s : Sto}
/-- what a step leaves -/
def SdPost (w : World) (a : Ta) (P : Ps) (s : Sto) (T' : Tn) (code : Int) (G : Sto → Prop) (e : Ending) (w' : World) : Prop :=
  e = .returned (.tuple #[.int .i64 T'.ph, .int .i64 code]) ∧ ∃ s', G s' ∧ OcA w' a T' P s' ∧ OcT w w' a a s s'
theorem upN_ph (code : Int) (T : Tn) : (upN code T).ph = T.ph := by unfold upN; split <;> rfl
theorem toT_n (T : Tn) (ph : Int) : (toT T ph).n = T.n := rfl
theorem doneT_n (T : Tn) (of : Nat) (nx : Int) : (doneT T of nx).n = T.n := by unfold doneT; split <;> rfl
theorem step_of (h : OcA w a T P s) (last : Nat) (ep : Int) {Q : Ending → World → Prop} (hi : InC T.ph a.m.tb last ep w Q) (code : Int) (TT : Tn) (G : Sto → Prop)
    (hQ : ∀ e w', Q e w' → e = .returned (.int .i64 code) ∧ ∃ s', G s' ∧ OcA w' a TT P s' ∧ OcT w w' a a s s') (hn : TT.n ≤ 1000000) :
    Calls Tryz.prog 22 #[.pointer (some ⟨a.m.tb, 0, none⟩), .int .u64 last, .int .i64 ep] w (SdPost w a P s (upN code TT) code G) := by
  refine (ocstep_go h last ep hi (R := fun c T' s' => c = code ∧ T' = TT ∧ G s') (fun e w' hq => ?_)).mono ?_
  · obtain ⟨h1, s', h2, h3, h4⟩ := hQ e w' hq
    exact ⟨code, TT, s', ⟨rfl, rfl, h2⟩, h1, h3, h4, hn⟩
  · rintro e w' ⟨c, T', s', ⟨rfl, rfl, h2⟩, h3, h4, h5⟩
    exact ⟨by rw [upN_ph]; exact h3, s', h2, h4, h5⟩
theorem step_lock (h : OcA w a T P s) (last : Nat) (ep : Int) (hp : T.ph = 1) {x : Wr} (hx : T.W[T.i]? = some x) (hk : x.k.Ok) (hw : I64 T.who) (hmo : Sm T.most) (hi : T.i ≤ 1000000) (hn : T.n ≤ 1000000) :
    (s.g x.k = none → s.cnt < s.ar.room → Calls Tryz.prog 22 #[.pointer (some ⟨a.m.tb, 0, none⟩), .int .u64 last, .int .i64 ep] w (SdPost w a P s (upN 0 (doneT { T with most := max T.most 0 } T.W.length 2)) 0 (fun s' => s'.g = setG s.g x.k (some ⟨0, true, true, ⟨#[]⟩, T.who⟩) ∧ s'.cnt = s.cnt + 1 ∧ s'.c = s.c))) ∧
    (∀ y, s.g x.k = some y → y.lk = false → Sm y.st → Calls Tryz.prog 22 #[.pointer (some ⟨a.m.tb, 0, none⟩), .int .u64 last, .int .i64 ep] w (SdPost w a P s (upN 0 (doneT { T with most := max T.most y.st } T.W.length 2)) 0 (fun s' => s'.g = setG s.g x.k (some { y with lk := true, who := T.who }) ∧ s'.cnt = s.cnt ∧ s'.c = s.c))) := by
  refine ⟨fun hg hc => ?_, fun y hg hl hst => ?_⟩
  · refine step_of h last ep (.inl ⟨hp, oclock_ok h hx 0 ⟨0, true, true, ⟨#[]⟩, T.who⟩ (s.cnt + 1) (by show 0 < _; decide) hmo hi (fun u hu => lock_new_g s a.m.cb x.k T.who u hu h.cb hk hw hg hc)⟩) 0 _ _ (fun e w' hq => ?_) (by rw [doneT_n]; exact hn)
    obtain ⟨h1, s', h2, h3, h4, h5, h6⟩ := hq
    exact ⟨h1, s', ⟨h4, h5, h6⟩, h2, h3⟩
  · refine step_of h last ep (.inl ⟨hp, oclock_ok h hx y.st { y with lk := true, who := T.who } s.cnt hst hmo hi (fun u hu => lock_free_g s a.m.cb x.k y T.who u hu h.cb hk hw hg hl)⟩) 0 _ _ (fun e w' hq => ?_) (by rw [doneT_n]; exact hn)
    obtain ⟨h1, s', h2, h3, h4, h5, h6⟩ := hq
    exact ⟨h1, s', ⟨h4, h5, h6⟩, h2, h3⟩
theorem step_take (h : OcA w a T P s) (last : Nat) (ep : Int) (hp : T.ph = 2) (hl : last < 18446744073709551616) (hmo : Sm T.most) (hn : T.n ≤ 1000000) :
    ((stN T last ep).2 = 0 → Calls Tryz.prog 22 #[.pointer (some ⟨a.m.tb, 0, none⟩), .int .u64 last, .int .i64 ep] w (SdPost w a P s (upN 0 (toT { T with st := (stN T last ep).1 } 3)) 0 (fun s' => s' = s))) ∧
    (∀ code, (stN T last ep).2 = code → code ≠ 0 → s.cnt ≤ 1000 → s.c ≤ 1000000 → Calls Tryz.prog 22 #[.pointer (some ⟨a.m.tb, 0, none⟩), .int .u64 last, .int .i64 ep] w (SdPost w a P s (upN code { T with ph := 6 }) code (fun _ => True))) := by
  refine ⟨fun hc => ?_, fun code hc h0 hcn hcc => ?_⟩
  · refine step_of h last ep (.inr (.inl ⟨hp, octake_ok h last ep hl hmo hc⟩)) 0 _ _ (fun e w' hq => ?_) (by rw [toT_n]; exact hn)
    exact ⟨hq.1, s, rfl, hq.2.1, hq.2.2⟩
  · refine step_of h last ep (.inr (.inl ⟨hp, octake_bad h last ep hl hmo hc h0 hcn hcc⟩)) code _ _ (fun e w' hq => ?_) hn
    obtain ⟨h1, _, ks, s', _, _, _, h5, h6, _⟩ := hq
    exact ⟨h1, s', trivial, h5, h6⟩
theorem step_check (h : OcA w a T P s) (last : Nat) (ep : Int) (hp : T.ph = 3) {k : Ky} {x : Sn} (hx : T.R[T.i]? = some k) (hk : k.Ok) (hs : P.gs k = some x) (hi : T.i ≤ 1000000) (hn : T.n ≤ 1000000) (hcn : s.cnt ≤ 1000) (hcc : s.c ≤ 1000000) :
    (stillV (s.g k) T.who x.word x.has = true → Calls Tryz.prog 22 #[.pointer (some ⟨a.m.tb, 0, none⟩), .int .u64 last, .int .i64 ep] w (SdPost w a P s (upN 0 (doneT T T.R.length 4)) 0 (fun s' => s' = s))) ∧
    (stillV (s.g k) T.who x.word x.has = false → Calls Tryz.prog 22 #[.pointer (some ⟨a.m.tb, 0, none⟩), .int .u64 last, .int .i64 ep] w (SdPost w a P s (upN 201 { T with ph := 6 }) 201 (fun s' => ∃ ks, KySorted ks ∧ (∀ k, k ∈ ks ↔ ∃ c, s.g k = some c ∧ heldC T.who c = true) ∧ s'.g = (unG s.g ks).1 ∧ s'.cnt = s.cnt - (unG s.g ks).2))) := by
  have hc := occheck_any h hx hk hs hi hcn hcc
  refine ⟨fun hq => ?_, fun hq => ?_⟩
  · rw [hq] at hc
    refine step_of h last ep (.inr (.inr (.inl ⟨hp, hc⟩))) 0 _ _ (fun e w' hq => ?_) (by rw [doneT_n]; exact hn)
    rcases hq with ⟨_, h1, h2, h3⟩ | ⟨h0, _⟩
    · exact ⟨h1, s, rfl, h2, h3⟩
    · cases h0
  · rw [hq] at hc
    refine step_of h last ep (.inr (.inr (.inl ⟨hp, hc⟩))) 201 _ _ (fun e w' hq => ?_) hn
    rcases hq with ⟨h0, _⟩ | ⟨_, h1, _, ks, s', h2, h3, _, h5, h6, h7, h8, _⟩
    · cases h0
    · exact ⟨h1, s', ⟨ks, h2, h3, h7, h8⟩, h5, h6⟩
theorem step_install (h : OcA w a T P s) (last : Nat) (ep : Int) (hp : T.ph = 4) {x : Wr} (hx : T.L[T.i]? = some x) (hk : x.k.Ok) {y : Cl} (hg : s.g x.k = some y) (hlk : y.lk = true) (hwho : y.who = T.who) (ht : Sm T.st) (hst : y.st < T.st) (hv : x.has = true ∨ (x.has = false ∧ x.val = ⟨#[]⟩)) (hvs : x.val.size ≤ maxLen) (hi : T.i ≤ 1000000) (hn : T.n ≤ 1000000) :
    Calls Tryz.prog 22 #[.pointer (some ⟨a.m.tb, 0, none⟩), .int .u64 last, .int .i64 ep] w (SdPost w a P s (upN 0 (doneT T T.W.length 5)) 0 (fun s' => s'.g = setG s.g x.k (some { y with st := T.st, lk := false, ab := !x.has, text := x.val }) ∧ s'.cnt = s.cnt ∧ s'.c = s.c)) := by
  refine step_of h last ep (.inr (.inr (.inr ⟨hp, ocinstall_ok h hx { y with st := T.st, lk := false, ab := !x.has, text := x.val } hi (fun u hu => install_g s a.m.cb x.k y T.who T.st 0 x.val x.has u hu h.cb hk hg hlk hwho ht hst hv hvs)⟩))) 0 _ _ (fun e w' hq => ?_) (by rw [doneT_n]; exact hn)
  obtain ⟨h1, s', h2, h3, h4, h5, h6⟩ := hq
  exact ⟨h1, s', ⟨h4, h5, h6⟩, h2, h3⟩
end
end Go.Proofs.YtkhkdedjffkhdaaGreat
namespace Go.Proofs.YtkhkdedjffkhdaaGreat
open Go.RowKit Go.Maps

def k20 (n : Int) : Ky := ⟨1, n, 0, ⟨#[]⟩⟩
theorem k20_ok (n : Int) (h : I64 n) : (k20 n).Ok := ⟨⟨by show (-9223372036854775808 : Int) ≤ 1; decide, by show (1 : Int) ≤ 9223372036854775807; decide⟩, h, ⟨by show (-9223372036854775808 : Int) ≤ 0; decide, by show (0 : Int) ≤ 9223372036854775807; decide⟩, Nat.zero_le _⟩
theorem key20_any (n : Int) (w : World) : Calls Tryz.prog 19 #[.int .i64 n] w fun e w' => e = .returned (.agg #[.int .i64 1, .int .i64 n, .int .i64 0, .string ⟨#[]⟩]) ∧ Below w.heap.size w w' := by
  go_enter Tryz.func19, Tryz.ntmps19
  go_wp2_with fail
  exact bodyPost_ret (v := .agg #[.int .i64 1, .int .i64 n, .int .i64 0, .string ⟨#[]⟩]) (by simp [results, Tryz.results19, go_sem]) rfl ⟨rfl, below_box _ _⟩
theorem i64_1 : I64 1 := ⟨by decide, by decide⟩
theorem i64_2 : I64 2 := ⟨by decide, by decide⟩
/-- two transactions of one store -/
structure AX (w0 u : World) (a b : Ta) (TA TB : Tn) (PA PB : Ps) (s : Sto) : Prop where
  x : OcA u a TA PA s
  y : OcA u b TB PB s
  d : ∀ j, b.fp j → ¬ a.fp j
  bel : Below w0.heap.size w0 u
  fr : ∀ j, (a.fp j ∨ b.fp j ∨ s.fp j) → w0.heap.size ≤ j
section
variable {w0 u u' : World} {a b a' b' : Ta} {TA TB TA' TB' : Tn} {PA PB PA' PB' : Ps} {s s' : Sto}
theorem AX.below (h : AX w0 u a b TA TB PA PB s) (hb : Below u.heap.size u u') : AX w0 u' a b TA TB PA PB s := ⟨h.x.below hb, h.y.below hb, h.d, below_then h.bel hb, h.fr⟩
theorem AX.turnA (h : AX w0 u a b TA TB PA PB s) (hA : OcA u' a' TA' PA' s') (hT : OcT u u' a a' s s') : AX w0 u' a' b TA' TB PA' PB s' := by
  obtain ⟨o, d⟩ := h.y.other hA.st hT h.d
  have hz := h.bel.size
  refine ⟨hA, o, d, chg_fresh hT.chg h.bel (Nat.le_refl _) (fun j hj => h.fr j (by rcases hj with e | e; exact .inl e; exact .inr (.inr e))), fun j hj => ?_⟩
  rcases hj with e | e | e
  · rcases hT.af j e with e | e
    · exact h.fr j (.inl e)
    · omega
  · exact h.fr j (.inr (.inl e))
  · rcases hT.sf j e with e | e
    · exact h.fr j (.inr (.inr e))
    · omega
theorem AX.turnB (h : AX w0 u a b TA TB PA PB s) (hA : OcA u' b' TB' PB' s') (hT : OcT u u' b b' s s') : AX w0 u' a b' TA TB' PA PB' s' := by
  obtain ⟨o, d⟩ := h.x.other hA.st hT (fun j hj hf => h.d j hf hj)
  have hz := h.bel.size
  refine ⟨o, hA, fun j hj hf => d j hf hj, chg_fresh hT.chg h.bel (Nat.le_refl _) (fun j hj => h.fr j (by rcases hj with e | e; exact .inr (.inl e); exact .inr (.inr e))), fun j hj => ?_⟩
  rcases hj with e | e | e
  · exact h.fr j (.inl e)
  · rcases hT.af j e with e | e
    · exact h.fr j (.inr (.inl e))
    · omega
  · rcases hT.sf j e with e | e
    · exact h.fr j (.inr (.inr e))
    · omega
theorem TxC.s0 {w : World} {m : Tm} {T : Tn} (h : TxC w m T) : w.cell? ⟨m.tb, 0, none⟩ = some (.pointer (some ⟨m.sb, 0, none⟩)) ∧ m.tb < w.heap.size := ⟨h.cell.1, h.lt⟩
def P00 : Ps := ⟨0, 0, 0, fun _ => none, fun _ => none, fun _ => none⟩
def FP1 (P : Ps) : Prop := (∀ j, (P.gs j).isSome = true ↔ j = k20 1) ∧ P.gs (k20 1) = some ⟨0, ⟨#[]⟩, false⟩ ∧ P.gw = (fun _ => none) ∧ P.ns ≤ 1 ∧ P.nw = 0
def FP2 (v : ByteArray) (P : Ps) : Prop := (∀ j, (P.gs j).isSome = true ↔ j = k20 1) ∧ P.gs (k20 1) = some ⟨0, ⟨#[]⟩, false⟩ ∧ (∀ j, (P.gw j).isSome = true ↔ j = k20 1) ∧ P.gw (k20 1) = some ⟨v, true⟩ ∧ P.ns ≤ 1 ∧ P.nw ≤ 1
def Tq1 (who : Int) : Tn := ⟨who, 0, [], [], [], 0, 0, 0, 1⟩
def TqC (who : Int) (v : ByteArray) (ph : Int) (most st n : Nat) : Tn := ⟨who, ph, [⟨k20 1, v, true⟩], [⟨k20 1, v, true⟩], [k20 1], 0, most, st, n⟩
theorem aw_fetch {who : Int} (h : OcA u a (Tn.new who) P00 s) (hg : s.g = fun _ => none) :
    Calls Tryz.prog 18 #[.pointer (some ⟨a.m.tb, 0, none⟩), .agg #[.int .i64 1, .int .i64 1, .int .i64 0, .string ⟨#[]⟩]] u fun e w' => e = .returned (.int .i64 0) ∧ ∃ P', FP1 P' ∧ OcA w' a (Tq1 who) P' s ∧ OcT u w' a a s s := by
  have hgk : s.g (k20 1) = none := by rw [hg]
  refine (fetch_a h (k20_ok 1 i64_1) (by show (0 : Nat) < _; decide) (fun x hx => by rw [hgk] at hx; cases hx) (by show (0 : Nat) ≤ _; omega) (by show (0 : Nat) ≤ _; omega) (.inl (by rw [hgk]; rfl))).mono ?_
  intro e w' hp
  rcases hp with ⟨_, h2, _⟩ | ⟨_, _, _, h4, ns', h5, h6, h7⟩ | ⟨h1, _⟩ | ⟨_, _, h3, _⟩
  · cases h2
  · rw [hgk] at h6
    refine ⟨h4, _, ⟨fun j => ?_, ?_, rfl, h5, rfl⟩, h6, h7⟩
    · exact updK_one (fun j hj => by cases hj) j
    · exact updK_at
  · exact absurd rfl h1
  · rw [hgk] at h3; cases h3
theorem aw_put {who : Int} {P : Ps} (h : OcA u a (Tq1 who) P s) (hP : FP1 P) (v : ByteArray) :
    Calls Tryz.prog 20 #[.pointer (some ⟨a.m.sb, 0, none⟩), .agg #[.int .i64 1, .int .i64 1, .int .i64 0, .string ⟨#[]⟩], .string v] u fun e w' => e = .returned (.int .i64 0) ∧ ∃ P', FP2 v P' ∧ OcA w' a (Tq1 who) P' s ∧ OcT u w' a a s s := by
  obtain ⟨p1, p2, p3, p4, p5⟩ := hP
  refine (put_a h (k20_ok 1 i64_1) (by omega) v).mono ?_
  intro e w' hp
  rcases hp with ⟨_, h2, nw', h3, h4, h5⟩ | ⟨h1, _⟩
  · refine ⟨h2, { P with nw := nw', gw := updK P.gw (k20 1) (some ⟨v, true⟩) }, ⟨p1, p2, fun j => ?_, ?_, p4, by show nw' ≤ 1; omega⟩, h4, h5⟩
    · exact updK_one (fun j hj => by rw [p3] at hj; cases hj) j
    · exact updK_at
  · have h1' : P.gs (k20 1) = none := h1
    rw [p2] at h1'; cases h1'
theorem aw_commit {who : Int} {P : Ps} {v : ByteArray} (h : OcA u a (Tq1 who) P s) (hP : FP2 v P) :
    Calls Tryz.prog 21 #[.pointer (some ⟨a.m.tb, 0, none⟩)] u fun e w' => e = .returned (.int .i64 0) ∧ ∃ a', a'.m.sb = a.m.sb ∧ OcA w' a' (TqC who v 1 0 0 1) P s ∧ OcT u w' a a' s s := by
  obtain ⟨p1, p2, p3, p4, p5, p6⟩ := hP
  refine (commit_a h (by omega) (by omega)).mono ?_
  intro e w' hp
  rcases hp with ⟨h1, _⟩ | ⟨_, h2, kw, kr, a', h3, h4, h5, h6, h7⟩
  · exact absurd rfl h1
  · obtain rfl := ks_one (k20_ok 1 i64_1) p3 h3
    obtain rfl := ks_one (k20_ok 1 i64_1) p1 h4
    have hw : wrOut P.gs P.gw [k20 1] = [⟨k20 1, v, true⟩] := by
      rw [wrOut_one P.gs P.gw _ _ _ p2 p4, if_neg]
      intro he
      have := (txB_iff _ _).1 he
      injection this with _ h9
      cases h9
    rw [hw] at h6
    exact ⟨h2, a', h5, h6, h7⟩
def stA : Nat := 2147483649
def c0A : Cl := ⟨0, true, true, ⟨#[]⟩, 1⟩
def c1A (v : ByteArray) : Cl := ⟨stA, false, false, v, 1⟩
def Gn (s : Sto) : Prop := s.g = (fun _ => none) ∧ s.cnt = 0 ∧ s.ar.room = 9 ∧ s.c = 0
def G1 (c : Cl) (s : Sto) : Prop := s.g (k20 1) = some c ∧ (∀ j, j ≠ k20 1 → s.g j = none) ∧ s.cnt = 1 ∧ s.c = 0
/-- how far the first one is -/
def TqA (v : ByteArray) : Nat → Tn
  | 0 => TqC 1 v 1 0 0 1
  | 1 => TqC 1 v 2 0 0 2
  | 2 => TqC 1 v 3 0 stA 3
  | 3 => TqC 1 v 4 0 stA 4
  | _ => TqC 1 v 5 0 stA 5
def GqA (v : ByteArray) : Nat → Sto → Prop
  | 0 => Gn
  | 1 => G1 c0A
  | 2 => G1 c0A
  | 3 => G1 c0A
  | _ => G1 (c1A v)
theorem setG_none {g : Ky → Option Cl} {k : Ky} {o : Option Cl} (hg : ∀ j, j ≠ k → g j = none) : setG g k o k = o ∧ ∀ j, j ≠ k → setG g k o j = none := ⟨setG_same _ _ _, fun j hj => by rw [setG_other _ _ hj]; exact hg j hj⟩
theorem aw_stepA {v : ByteArray} {P : Ps} (hv : v.size ≤ maxLen) (hP : FP2 v P) {i : Nat} (hi : i < 4) (h : OcA u a (TqA v i) P s) (hG : GqA v i s) :
    Calls Tryz.prog 22 #[.pointer (some ⟨a.m.tb, 0, none⟩), .int .u64 0, .int .i64 1] u fun e w' => ∃ ph : Int, e = .returned (.tuple #[.int .i64 ph, .int .i64 0]) ∧ ∃ s', GqA v (i + 1) s' ∧ OcA w' a (TqA v (i + 1)) P s' ∧ OcT u w' a a s s' := by
  have hi4 : i = 0 ∨ i = 1 ∨ i = 2 ∨ i = 3 := by omega
  rcases hi4 with rfl | rfl | rfl | rfl
  · obtain ⟨g1, g2, g3, g4⟩ : Gn s := hG
    refine ((step_lock (x := ⟨k20 1, v, true⟩) h 0 1 rfl rfl (k20_ok 1 i64_1) i64_1 (by show (0 : Nat) < _; decide) (by show (0 : Nat) ≤ _; omega) (by show (1 : Nat) ≤ _; omega)).1 (by rw [g1]) (by rw [g2, g3]; decide)).mono ?_
    rintro e w' ⟨h1, s', ⟨h2, h3, h4⟩, h5, h6⟩
    refine ⟨_, h1, s', ?_, h5, h6⟩
    have hs := setG_none (g := s.g) (k := k20 1) (o := some c0A) (fun j _ => by rw [g1])
    exact ⟨by rw [h2]; exact hs.1, fun j hj => by rw [h2]; exact hs.2 j hj, by rw [h3, g2], by rw [h4, g4]⟩
  · have hG1 : G1 c0A s := hG
    refine ((step_take h 0 1 rfl (by decide) (by show (0 : Nat) < _; decide) (by show (2 : Nat) ≤ _; omega)).1 (by show (nextW (max (mo 0) 0) 1).2 = 0; decide)).mono ?_
    rintro e w' ⟨h1, s', rfl, h5, h6⟩
    exact ⟨_, h1, s', hG1, h5, h6⟩
  · obtain ⟨g1, g2, g3, g4⟩ : G1 c0A s := hG
    refine ((step_check (k := k20 1) h 0 1 rfl rfl (k20_ok 1 i64_1) hP.2.1 (by show (0 : Nat) ≤ _; omega) (by show (3 : Nat) ≤ _; omega) (by omega) (by omega)).1 (by rw [g1]; rfl)).mono ?_
    rintro e w' ⟨h1, s', rfl, h5, h6⟩
    exact ⟨_, h1, s', ⟨g1, g2, g3, g4⟩, h5, h6⟩
  · obtain ⟨g1, g2, g3, g4⟩ : G1 c0A s := hG
    refine (step_install (x := ⟨k20 1, v, true⟩) h 0 1 rfl rfl (k20_ok 1 i64_1) g1 rfl rfl (by show (2147483649 : Nat) < _; decide) (by show (0 : Nat) < 2147483649; decide) (.inl rfl) hv (by show (0 : Nat) ≤ _; omega) (by show (4 : Nat) ≤ _; omega)).mono ?_
    rintro e w' ⟨h1, s', ⟨h2, h3, h4⟩, h5, h6⟩
    refine ⟨_, h1, s', ?_, h5, h6⟩
    have hs := setG_none (g := s.g) (k := k20 1) (o := some (c1A v)) g2
    exact ⟨by rw [h2]; exact hs.1, fun j hj => by rw [h2]; exact hs.2 j hj, by rw [h3, g3], by rw [h4, g4]⟩
/-- how far the second one is, as it begins late -/
def TqB (v : ByteArray) : Nat → Tn
  | 0 => TqC 2 v 1 0 0 1
  | 1 => TqC 2 v 2 stA 0 2
  | 2 => TqC 2 v 3 stA (stA + 1) 3
  | _ => TqC 2 v 6 stA (stA + 1) 3
def c2A (x : ByteArray) : Cl := ⟨stA, true, false, x, 2⟩
def G9 (c : Cl) (s : Sto) : Prop := s.g (k20 1) = some c ∧ (∀ j, j ≠ k20 1 → s.g j = none) ∧ s.cnt = 1
def GqB (x : ByteArray) : Nat → Sto → Prop
  | 0 => G1 (c1A x)
  | 1 => G1 (c2A x)
  | 2 => G1 (c2A x)
  | _ => G9 { c2A x with lk := false }
def codeB : Nat → Int
  | 2 => 201
  | _ => 0
theorem aw_stepB {v x : ByteArray} {P : Ps} (hP : FP2 v P) {i : Nat} (hi : i < 3) (h : OcA u a (TqB v i) P s) (hG : GqB x i s) :
    Calls Tryz.prog 22 #[.pointer (some ⟨a.m.tb, 0, none⟩), .int .u64 2147483649, .int .i64 1] u fun e w' => e = .returned (.tuple #[.int .i64 (TqB v (i + 1)).ph, .int .i64 (codeB i)]) ∧ ∃ s', GqB x (i + 1) s' ∧ OcA w' a (TqB v (i + 1)) P s' ∧ OcT u w' a a s s' := by
  have hi4 : i = 0 ∨ i = 1 ∨ i = 2 := by omega
  rcases hi4 with rfl | rfl | rfl
  · obtain ⟨g1, g2, g3, g4⟩ : G1 (c1A x) s := hG
    refine ((step_lock (x := ⟨k20 1, v, true⟩) h 2147483649 1 rfl rfl (k20_ok 1 i64_1) i64_2 (by show (0 : Nat) < _; decide) (by show (0 : Nat) ≤ _; omega) (by show (1 : Nat) ≤ _; omega)).2 (c1A x) g1 rfl (by show (2147483649 : Nat) < _; decide)).mono ?_
    rintro e w' ⟨h1, s', ⟨h2, h3, h4⟩, h5, h6⟩
    refine ⟨h1, s', ?_, h5, h6⟩
    have hs := setG_none (g := s.g) (k := k20 1) (o := some (c2A x)) g2
    exact ⟨by rw [h2]; exact hs.1, fun j hj => by rw [h2]; exact hs.2 j hj, by rw [h3, g3], by rw [h4, g4]⟩
  · have hG1 : G1 (c2A x) s := hG
    refine ((step_take h 2147483649 1 rfl (by decide) (by show (2147483649 : Nat) < _; decide) (by show (2 : Nat) ≤ _; omega)).1 (by show (nextW (max (mo 2147483649) 2147483649) 1).2 = 0; decide)).mono ?_
    rintro e w' ⟨h1, s', rfl, h5, h6⟩
    exact ⟨h1, s', hG1, h5, h6⟩
  · obtain ⟨g1, g2, g3, g4⟩ : G1 (c2A x) s := hG
    refine ((step_check (k := k20 1) h 2147483649 1 rfl rfl (k20_ok 1 i64_1) hP.2.1 (by show (0 : Nat) ≤ _; omega) (by show (3 : Nat) ≤ _; omega) (by omega) (by omega)).2 (by rw [g1]; rfl)).mono ?_
    rintro e w' ⟨h1, s', ⟨ks, q1, q2, q3, q4⟩, h5, h6⟩
    have hks : ks = [k20 1] := sorted_unique _ _ q1 (List.pairwise_singleton _ _) (fun j => by
      rw [List.mem_singleton, q2]
      constructor
      · rintro ⟨c, hc, _⟩
        exact Classical.byContradiction fun hj => by rw [g2 j hj] at hc; cases hc
      · rintro rfl
        exact ⟨c2A x, g1, rfl⟩)
    subst hks
    have hu : unG s.g [k20 1] = (setG s.g (k20 1) (some { c2A x with lk := false }), 0) := by
      show unStep (s.g, 0) (k20 1) = _
      unfold unStep
      simp only [g1]
      rfl
    rw [hu] at q3 q4
    refine ⟨h1, s', ?_, h5, h6⟩
    have hs := setG_none (g := s.g) (k := k20 1) (o := some { c2A x with lk := false }) g2
    exact ⟨by rw [q3]; exact hs.1, fun j hj => by rw [q3]; exact hs.2 j hj, by rw [q4, g3]; rfl⟩
end
end Go.Proofs.YtkhkdedjffkhdaaGreat
namespace Go.Proofs.YtkhkdedjffkhdaaGreat
open Go.RowKit Go.Maps

def Aw20 (w : World) (e : Ending) (w' : World) : Prop := e = .returned (.bool true) ∧ Below w.heap.size w w'
set_option maxRecDepth 100000 in
set_option maxHeartbeats 8000000 in
theorem awake20_any (w : World) : Calls Tryz.prog 4 #[] w (Aw20 w) := by
  go_enter Tryz.func4, Tryz.ntmps4
  go_wp2_with fail
  refine (new_g 9 w (by decide)).mono ?_
  rintro e w1 ⟨s, rfl, hS, hg, hcnt, hc, hroom⟩
  have HS := Lib.hid hS
  have HG : Hid (Gn s) := Lib.hid ⟨hg, hcnt, hroom, hc⟩
  clear hS hg hcnt hc hroom
  go_wp2_with fail
  refine (ocnew_any s.sb 1 w1).mono ?_
  rintro e w2 ⟨m, bs, bw, bm, rfl, h1, h2, h3, h4, h5, h6, h7, h8, h9, h10, h11, h12⟩
  have hA := new_a HS.out.st h2 h3 h1 h9 h4 h5 h6 h7 h8 h10 h11 h12
  have HB2 := Lib.hid h9
  have HA := Lib.hid hA
  obtain ⟨a, ha⟩ : ∃ a : Ta, a = ⟨m, bs, bw, bm⟩ := ⟨_, rfl⟩
  rw [← ha] at HA
  have hma : m = a.m := by rw [ha]
  rw [hma]
  clear hA ha hma h1 h2 h3 h4 h5 h6 h7 h8 h9 h10 h11 h12
  go_wp2_with fail
  refine (ocnew_any s.sb 2 w2).mono ?_
  rintro e w3 ⟨m2, bs2, bw2, bm2, rfl, h1, h2, h3, h4, h5, h6, h7, h8, h9, h10, h11, h12⟩
  have hB := new_a (HS.out.st.stay HB2.out) h2 h3 h1 h9 h4 h5 h6 h7 h8 h10 h11 h12
  obtain ⟨b, hb⟩ : ∃ a : Ta, a = ⟨m2, bs2, bw2, bm2⟩ := ⟨_, rfl⟩
  rw [← hb] at hB
  have hmb : m2 = b.m := by rw [hb]
  rw [hmb]
  have H3 : Hid (AX w w3 a b (Tn.new 1) (Tn.new 2) P00 P00 s) := Lib.hid (by
    have hs1 := HS.out.bel.size
    have hs2 := HB2.out.size
    refine ⟨HA.out.1.below h9, hB.1, fun j hj hf => ?_, below_then (below_then HS.out.bel HB2.out) h9, fun j hj => ?_⟩
    · have e1 := hB.2 j hj
      have e2 := HA.out.1.mm.lt hf
      omega
    · rcases hj with e | e | e
      · have := HA.out.2 j e; omega
      · have := hB.2 j e; omega
      · exact HS.out.own j e)
  clear hB hb hmb h1 h2 h3 h4 h5 h6 h7 h8 h9 h10 h11 h12
  go_upto_region 6 with fail
  go_cut [67] from 28 to 67 (fun s67 wc => ∃ (u : World) (a2 : Ta) (PA PB : Ps), u = wc ∧ s67 = .bool false ∧ Hid (AX w u a2 b (TqA ⟨#[120]⟩ 0) (Tq1 2) PA PB s ∧ FP2 ⟨#[120]⟩ PA ∧ FP1 PB ∧ a2.m.tb = a.m.tb))
  case first =>
    go_region_held3 (fun u => u.cell? ⟨a.m.tb, 0, none⟩ = some (.pointer (some ⟨a.m.sb, 0, none⟩)) ∧ a.m.tb < u.heap.size)
      (first | exact (H3.out.x.mm.t.below (Below.refl _ _).drew).s0 | exact H4.out.x.mm.t.s0 | exact H5.out.x.mm.t.s0 | exact H6.out.x.mm.t.s0 | exact H7.out.x.mm.t.s0 | exact H8.out.x.mm.t.s0 | exact H9.out.x.mm.t.s0 | (have h := H10.out.x.mm.t.s0; rw [HA10.out.1, HA10.out.2] at h; exact h))
      (first
        | (go_at_call 19; refine (key20_any 1 _).mono ?_; rintro e u4 ⟨rfl, hb⟩; first | (have H8 := Lib.hid (H7.out.below hb); clear hb) | (have H6 := Lib.hid (H5.out.below hb); clear hb) | (have H4 := Lib.hid ((H3.out.below (Below.refl _ _).drew).below hb); clear hb))
        | (go_at_call 18; first
            | (refine (aw_fetch H6.out.x HG.out.1).mono ?_; rintro e u7 ⟨rfl, PA1, hf, hA, hT⟩; have H7 := Lib.hid (H6.out.turnA hA hT); have HFA := Lib.hid hf; clear hf hA hT)
            | (refine (aw_fetch H4.out.y HG.out.1).mono ?_; rintro e u5 ⟨rfl, PB1, hf, hA, hT⟩; have H5 := Lib.hid (H4.out.turnB hA hT); have HFB := Lib.hid hf; clear hf hA hT))
        | (go_at_call 20; refine (aw_put H8.out.x HFA.out ⟨#[120]⟩).mono ?_; rintro e u9 ⟨rfl, PA2, hf, hA, hT⟩; have H9 := Lib.hid (H8.out.turnA hA hT); have HF2 := Lib.hid hf; clear hf hA hT)
        | (go_at_call 21; refine (aw_commit H9.out.x HF2.out).mono ?_; rintro e u10 ⟨rfl, a2, hsb, hA, hT⟩; have H10 := Lib.hid (H9.out.turnA hA hT); have HA10 : Hid (a2.m.tb = a.m.tb ∧ a2.m.sb = a.m.sb) := Lib.hid ⟨hT.tb, hsb⟩; clear hsb hA hT))
    all_goals
      go_wp2_with fail
      go_meet
      exact ⟨_, a2, _, _, rfl, rfl, Lib.hid ⟨H10.out, HF2.out, HFB.out, HA10.out.1⟩⟩
  case rest =>
  obtain ⟨u, a2, PA, PB, rfl, rfl, HU⟩ := hcut
  apply_assumption
  have HTA : Hid (a2.m.tb = a.m.tb) := Lib.hid HU.out.2.2.2
  obtain ⟨ta, hta⟩ : ∃ b, b = a.m.tb := ⟨_, rfl⟩
  have HTE : Hid (a2.m.tb = ta) := Lib.hid (by rw [hta]; exact HTA.out)
  rw [← hta]
  clear hta
  go_wp2_with fail
  go_loopw [7] (fun iv wr => ∃ (i : Nat) (s2 : Sto), iv = .int .i64 i ∧ i ≤ 4 ∧ Hid (AX w wr a2 b (TqA ⟨#[120]⟩ i) (Tq1 2) PA PB s2 ∧ GqA ⟨#[120]⟩ i s2 ∧ s2.sb = s.sb)) (fun iv _ => 4 - (intOf iv).toNat)
  case atStart => exact ⟨0, s, rfl, by omega, Lib.hid ⟨HU.out.1, HG.out, rfl⟩⟩
  case round =>
    obtain ⟨i, s2, rfl, hi, HR⟩ := hrel
    obtain ⟨wo, rfl⟩ : ∃ wo : World, wo = wr := ⟨_, rfl⟩
    by_cases hlt : i < 4
    · have hst := aw_stepA (by decide) HU.out.2.1 hlt HR.out.1.x HR.out.2.1
      rw [HTE.out] at hst
      have HST := Lib.hid hst
      have HLT := Lib.hid hlt
      have hi4 : (i : Int) < 4 := by omega
      clear hst hlt
      go_wp2_with fail
      refine HST.out.mono ?_
      rintro e u5 ⟨ph, rfl, s3, hG3, hA3, hT3⟩
      have H5 : Hid (AX w u5 a2 b (TqA ⟨#[120]⟩ (i + 1)) (Tq1 2) PA PB s3 ∧ GqA ⟨#[120]⟩ (i + 1) s3 ∧ s3.sb = s.sb) := Lib.hid ⟨HR.out.1.turnA hA3 hT3, hG3, hT3.sb.trans HR.out.2.2⟩
      clear hG3 hA3 hT3
      go_wp2_with fail
      exact ⟨⟨i + 1, s3, by go_num, HLT.out, H5⟩, by simp [intOf]; have := HLT.out; omega⟩
    · obtain rfl : i = 4 := by omega
      clear hlt hi
      go_upto_region 14 with fail
      go_region_held3 (fun u => u.cell? ⟨b.m.tb, 0, none⟩ = some (.pointer (some ⟨b.m.sb, 0, none⟩)) ∧ b.m.tb < u.heap.size)
        (first | exact (HR.out.1.y.mm.t.below (Below.refl _ _).drew).s0 | exact H6.out.y.mm.t.s0 | exact H7.out.y.mm.t.s0)
        (first
          | (go_at_call 19; refine (key20_any 1 _).mono ?_; rintro e u6 ⟨rfl, hb⟩; have H6 := Lib.hid ((HR.out.1.below (Below.refl _ _).drew).below hb); clear hb)
          | (go_at_call 20; refine (aw_put H6.out.y HU.out.2.2.1 ⟨#[121]⟩).mono ?_; rintro e u7 ⟨rfl, PB2, hf, hA, hT⟩; have H7 := Lib.hid (H6.out.turnB hA hT); have HF7 := Lib.hid hf; clear hf hA hT))
      all_goals (
        go_wp2_with fail
        refine (aw_commit H7.out.y HF7.out).mono ?_
        rintro e u8 ⟨rfl, b2, hsb, hA, hT⟩
        have H8 : Hid (AX w u8 a2 b2 (TqA ⟨#[120]⟩ 4) (TqB ⟨#[121]⟩ 0) PA PB2 s2 ∧ GqB ⟨#[120]⟩ 0 s2 ∧ s2.sb = s.sb) := Lib.hid ⟨H7.out.turnB hA hT, HR.out.2.1, HR.out.2.2⟩
        have HTB : Hid (b2.m.tb = b.m.tb) := Lib.hid hT.tb
        clear hsb hA hT
        have hst0 := aw_stepB (x := ⟨#[120]⟩) HF7.out (i := 0) (by omega) H8.out.1.y H8.out.2.1
        rw [HTB.out] at hst0
        have HST0 := Lib.hid hst0
        clear hst0
        go_wp2_with fail
        refine HST0.out.mono ?_
        rintro e u9 ⟨rfl, s4, hG, hA, hT⟩
        have H9 : Hid (AX w u9 a2 b2 (TqA ⟨#[120]⟩ 4) (TqB ⟨#[121]⟩ (0 + 1)) PA PB2 s4 ∧ GqB ⟨#[120]⟩ (0 + 1) s4 ∧ s4.sb = s.sb) := Lib.hid ⟨H8.out.1.turnB hA hT, hG, hT.sb.trans H8.out.2.2⟩
        clear hG hA hT
        have hst1 := aw_stepB (x := ⟨#[120]⟩) HF7.out (i := 1) (by omega) H9.out.1.y H9.out.2.1
        rw [HTB.out] at hst1
        have HST1 := Lib.hid hst1
        clear hst1
        go_wp2_with fail
        refine HST1.out.mono ?_
        rintro e u10 ⟨rfl, s5, hG, hA, hT⟩
        have H10 : Hid (AX w u10 a2 b2 (TqA ⟨#[120]⟩ 4) (TqB ⟨#[121]⟩ (1 + 1)) PA PB2 s5 ∧ GqB ⟨#[120]⟩ (1 + 1) s5 ∧ s5.sb = s.sb) := Lib.hid ⟨H9.out.1.turnB hA hT, hG, hT.sb.trans H9.out.2.2⟩
        clear hG hA hT
        have hst2 := aw_stepB (x := ⟨#[120]⟩) HF7.out (i := 2) (by omega) H10.out.1.y H10.out.2.1
        rw [HTB.out] at hst2
        have HST2 := Lib.hid hst2
        clear hst2
        go_wp2_with fail
        refine HST2.out.mono ?_
        rintro e u11 ⟨rfl, s6, hG, hA, hT⟩
        have H11 : Hid (AX w u11 a2 b2 (TqA ⟨#[120]⟩ 4) (TqB ⟨#[121]⟩ (2 + 1)) PA PB2 s6 ∧ GqB ⟨#[120]⟩ (2 + 1) s6 ∧ s6.sb = s.sb) := Lib.hid ⟨H10.out.1.turnB hA hT, hG, hT.sb.trans H10.out.2.2⟩
        clear hG hA hT
        have hph := ocphase_any H11.out.1.x.mm.t
        have hsp := ocstamp_any H11.out.1.x.mm.t
        rw [HTE.out] at hph hsp
        have HPH : Hid (Calls Tryz.prog 13 #[.pointer (some ⟨ta, 0, none⟩)] u11 fun e w' => e = .returned (.int .i64 5) ∧ u11 = w') := Lib.hid hph
        have HSP : Hid (Calls Tryz.prog 14 #[.pointer (some ⟨ta, 0, none⟩)] u11 fun e w' => e = .returned (.int .u64 2147483649) ∧ u11 = w') := Lib.hid hsp
        have HHE : Hid (Calls Tryz.prog 23 #[.pointer (some ⟨s.sb, 0, none⟩), .int .i64 2] u11 fun e w' => ∃ va vc, e = .returned (.slice va 0 vc) ∧ Below u11.heap.size u11 w') := Lib.hid (by
          obtain ⟨g1, g2, g3⟩ : G9 { c2A ⟨#[120]⟩ with lk := false } s6 := H11.out.2.1
          refine (held_g s6 s.sb 2 u11 H11.out.1.x.st H11.out.2.2 (by omega)).mono ?_
          rintro e w' ⟨v, ks, rfl, _, _, k3, k4, k5⟩
          have hks : ks = [] := by
            cases ks with
            | nil => rfl
            | cons j l =>
              obtain ⟨c, hc1, hc2⟩ := (k3 j).1 (List.mem_cons_self)
              by_cases hj : j = k20 1
              · rw [hj, g1] at hc1
                cases hc1
                cases hc2
              · rw [g2 j hj] at hc1; cases hc1
          subst hks
          obtain ⟨va, vc, rfl⟩ := RowK.Own.shape k4
          exact ⟨va, vc, rfl, k5⟩)
        have HB11 : Hid (Below w.heap.size w u11) := Lib.hid H11.out.1.bel
        clear hph hsp
        go_wp2_with (first | (go_at_call 13; refine HPH.out.mono ?_; rintro e u12 ⟨rfl, rfl⟩) | (go_at_call 14; refine HSP.out.mono ?_; rintro e u13 ⟨rfl, rfl⟩) | (go_at_call 23; refine HHE.out.mono ?_; rintro e u14 ⟨va, vc, rfl, hb14⟩; have HB14 := Lib.hid (below_then HB11.out hb14); clear hb14) | fail)
        go_ret
        exact ⟨rfl, HB14.out⟩)
end Go.Proofs.YtkhkdedjffkhdaaGreat
