/- Sets and the reference side by side, where the reference only sees. Conditions: each lemma's own premises. -/
import Derived.Test.YtcghgnncmnoalaaSx23
namespace Go.Proofs.Ytcghgnncmnoalaa
open Go.RowKit Go.Maps

/-- one answer, and what both are then -/
structure SeeP (B sb bs bw bm nw nm rb : Nat) (gs : Ky → Option Sn) (gw gm pw pm : Ky → Option Tx) (L : List Rx) (k : Ky) (v : Sn) (c : Int) (gs' : Ky → Option Sn) (L' : List Rx) : Prop where
  x : PX L' gs' pw pm
  e : gs' = gs ∨ (gs k = none ∧ gs' = updK gs k (some v))
  o : WOk L'
  n : L'.length ≤ L.length + 1
  p : ∀ u ns, StX u sb bs bw bm ns nw nm gs gw gm → ns ≤ 1000000 → Calls Try.prog 33 #[.pointer (some ⟨sb, 0, none⟩), .agg #[.int .i64 k.kind, .int .i64 k.a, .int .i64 k.b, .string k.s], .agg #[.int .u64 v.word, .string v.val, .bool v.has]] u fun e u' => e = .returned (.int .i64 c) ∧ ∃ ns', ns' ≤ ns + 1 ∧ StX u' sb bs bw bm ns' nw nm gs' gw gm ∧ Chg u u' (fun j => j = bs)
  r : ∀ u, SrX u rb B L → B ≤ u.heap.size → Calls Try.prog 34 #[.pointer (some ⟨rb, 0, none⟩), .agg #[.int .i64 k.kind, .int .i64 k.a, .int .i64 k.b, .string k.s], .agg #[.int .u64 v.word, .string v.val, .bool v.has]] u fun e u' => e = .returned (.int .i64 c) ∧ SrX u' rb B L' ∧ Chg u u' (fun j => j = rb)
theorem see_bothP (B sb bs bw bm nw nm rb : Nat) {gs : Ky → Option Sn} (gw gm : Ky → Option Tx) {pw pm : Ky → Option Tx} {L : List Rx} (hx : PX L gs pw pm) (ho : WOk L) (hL : L.length < 1000000) {k : Ky} (hk : k.Ok) (v : Sn) : ∃ c gs' L', SeeP B sb bs bw bm nw nm rb gs gw gm pw pm L k v c gs' L' := by
  by_cases hbad : v.val.size ≠ 0 ∧ v.has = false
  · refine ⟨2, gs, L, hx, .inl rfl, ho, by omega, fun u ns h hn => (sxSee_any h hn hk v).mono ?_, fun u h hB => (r13See_any h hB hL (fun x hx' => hx.ok x hx') k v).mono ?_⟩
    · intro e u' h3
      unfold SeePost at h3
      rw [if_pos hbad] at h3
      exact ⟨h3.1, ns, by omega, h.below h3.2, Chg.of_below h3.2 _⟩
    · intro e u' h3
      unfold See13 at h3
      rw [if_pos hbad] at h3
      obtain ⟨a, cap, e1, e2, e3⟩ := h.ex
      exact ⟨h3.1, h.rows (h3.2.block _ (Array.getElem?_eq_some_iff.1 e1).1) (fun g _ ⟨c, z, hg⟩ => h3.2.block _ (Array.getElem?_eq_some_iff.1 hg).1), Chg.of_below h3.2 _⟩
  · by_cases hin : ∃ x ∈ L, x.k = k
    · refine ⟨31, gs, L, hx, .inl rfl, ho, by omega, fun u ns h hn => (sxSee_any h hn hk v).mono ?_, fun u h hB => (r13See_any h hB hL (fun x hx' => hx.ok x hx') k v).mono ?_⟩
      · intro e u' h3
        unfold SeePost at h3
        rw [if_neg hbad, if_pos ((hx.isSome k).2 hin)] at h3
        exact ⟨h3.1, ns, by omega, h.below h3.2, Chg.of_below h3.2 _⟩
      · intro e u' h3
        unfold See13 at h3
        rw [if_neg hbad] at h3
        rcases h3 with ⟨_, he, hb⟩ | ⟨hno, _⟩
        · obtain ⟨a, cap, e1, e2, e3⟩ := h.ex
          exact ⟨he, h.rows (hb.block _ (Array.getElem?_eq_some_iff.1 e1).1) (fun g _ ⟨c, z, hg⟩ => hb.block _ (Array.getElem?_eq_some_iff.1 hg).1), Chg.of_below hb _⟩
        · obtain ⟨x, hx1, hx2⟩ := hin
          exact absurd hx2 (hno x hx1)
    · have hno : ∀ x ∈ L, x.k ≠ k := fun x hx1 e => hin ⟨x, hx1, e⟩
      -- the place is the reference's: one for all worlds
      obtain ⟨n, hn⟩ : ∃ n, AtX L k n := by
        have hs : L.Pairwise (fun a b => a.k.cmp b.k < 0) := by
          have h3 : (L.map Rx.k).Pairwise (fun a b => a.cmp b < 0) := hx.sorted
          rwa [List.pairwise_map] at h3
        clear hin hno hbad ho hL
        have : ∀ M : List Rx, ∃ n, AtX M k n := by
          intro M
          induction M with
          | nil => exact ⟨0, Nat.le_refl _, fun j x hj => absurd hj (Nat.not_lt_zero _), fun x hx => by simp at hx⟩
          | cons y M ih =>
            by_cases hy : y.k.cmp k < 0
            · obtain ⟨n, h1, h2, h3⟩ := ih
              refine ⟨n + 1, by simpa using h1, fun j x hj hxj => ?_, fun x hxn => h3 x (by simpa using hxn)⟩
              cases j with
              | zero => simp at hxj; subst hxj; exact hy
              | succ j => exact h2 j x (by omega) (by simpa using hxj)
            · exact ⟨0, Nat.zero_le _, fun j x hj => absurd hj (Nat.not_lt_zero _), fun x hx => by simp at hx; subst hx; omega⟩
        exact this L
      have huniq : ∀ m, AtX L k m → m = n := by
        intro m ⟨m1, m2, m3⟩
        obtain ⟨n1, n2, n3⟩ := hn
        rcases Nat.lt_trichotomy m n with h | h | h
        · have hl : m < L.length := by omega
          have a1 := m3 L[m] (List.getElem?_eq_getElem hl)
          have a2 := n2 m L[m] h (List.getElem?_eq_getElem hl)
          omega
        · exact h
        · have hl : n < L.length := by omega
          have a1 := n3 L[n] (List.getElem?_eq_getElem hl)
          have a2 := m2 n L[n] h (List.getElem?_eq_getElem hl)
          omega
      refine ⟨0, updK gs k (some v), insX L n (Rx.of k v), hx.see hk hno hn v, .inr ⟨(hx.no k hno).1, rfl⟩, ho.ins n k v, ?_, fun u ns h hn' => (sxSee_any h hn' hk v).mono ?_, fun u h hB => (r13See_any h hB hL (fun x hx' => hx.ok x hx') k v).mono ?_⟩
      · unfold insX
        simp only [List.length_append, List.length_take, List.length_drop, List.length_cons, List.length_nil]
        omega
      · intro e u' h3
        unfold SeePost at h3
        rw [if_neg hbad, if_neg (fun h => hin ((hx.isSome k).1 h))] at h3
        exact h3
      · intro e u' h3
        unfold See13 at h3
        rw [if_neg hbad] at h3
        rcases h3 with ⟨hin', _⟩ | ⟨_, he, m, hm, hs, hc⟩
        · exact absurd hin' hin
        · rw [huniq m hm] at hs
          exact ⟨he, hs, hc⟩
/-- what is put, or isn't -/
def PutQ (u : World) (sb bs bw bm ns nw nm : Nat) (gs : Ky → Option Sn) (gw gm : Ky → Option Tx) (k : Ky) (t : Tx) (e : Ending) (u' : World) : Prop :=
  ∃ c nw' gw', e = .returned (.int .i64 c) ∧ nw' ≤ nw + 1 ∧ StX u' sb bs bw bm ns nw' nm gs gw' gm ∧ Chg u u' (fun j => j = bw) ∧ (gw' = gw ∨ ((gs k).isSome = true ∧ gw' = updK gw k (some t)))
theorem putQ_any {w : World} {sb bs bw bm ns nw nm : Nat} {gs : Ky → Option Sn} {gw gm : Ky → Option Tx} (h : StX w sb bs bw bm ns nw nm gs gw gm) (hnw : nw ≤ 1000000) {k : Ky} (hk : k.Ok) (val : ByteArray) :
    Calls Try.prog 35 #[.pointer (some ⟨sb, 0, none⟩), .agg #[.int .i64 k.kind, .int .i64 k.a, .int .i64 k.b, .string k.s], .string val] w (PutQ w sb bs bw bm ns nw nm gs gw gm k ⟨val, true⟩) :=
  (sxPut_any h hnw hk val).mono fun e u' h4 => by
    unfold PutPost at h4
    by_cases hq : (gs k).isSome = true
    · rw [if_pos hq] at h4
      obtain ⟨he, nw', h1, h2, h3⟩ := h4
      exact ⟨0, nw', _, he, h1, h2, h3, .inr ⟨hq, rfl⟩⟩
    · rw [if_neg hq] at h4
      exact ⟨101, nw, gw, h4.1, by omega, h.below h4.2, Chg.of_below h4.2 _, .inl rfl⟩
theorem dropQ_any {w : World} {sb bs bw bm ns nw nm : Nat} {gs : Ky → Option Sn} {gw gm : Ky → Option Tx} (h : StX w sb bs bw bm ns nw nm gs gw gm) (hnw : nw ≤ 1000000) {k : Ky} (hk : k.Ok) (ka : Option Addr) (cap : Nat) (hv : kK.V w ka [k]) :
    Calls Try.prog 37 #[.pointer (some ⟨sb, 0, none⟩), .slice ka 1 cap] w (PutQ w sb bs bw bm ns nw nm gs gw gm k ⟨⟨#[]⟩, false⟩) :=
  (sxDrop_any h hnw ka cap [k] hv (fun j hj => by rw [List.mem_singleton.1 hj]; exact hk) (by simp)).mono fun e u' h4 => by
    unfold DropPost at h4
    by_cases hq : (gs k).isSome = true
    · rw [if_neg (by show ¬((!(gs k).isSome || false) = true); rw [hq]; decide)] at h4
      obtain ⟨he, nw', h1, h2, h3⟩ := h4
      exact ⟨0, nw', _, he, h1, h2, h3, .inr ⟨hq, rfl⟩⟩
    · have hq' : (gs k).isSome = false := Bool.eq_false_iff.2 hq
      rw [if_pos (by show (!(gs k).isSome || false) = true; rw [hq']; rfl)] at h4
      exact ⟨101, nw, gw, h4.1, by omega, h.below h4.2, Chg.of_below h4.2 _, .inl rfl⟩
def PXs (L : List Rx) (gs : Ky → Option Sn) : Prop := PX L gs (fun _ => none) (fun _ => none)
/-- before the mark -/
structure JB1 (w u : World) (sb rb i : Nat) : Prop where
  ex : ∃ bs bw bm ns nw gs gw L, MA w u sb bs bw bm ns nw 0 gs gw (fun _ => none) rb L ∧ PXs L gs ∧ WOk L ∧ ns ≤ i ∧ nw ≤ i ∧ L.length ≤ i ∧ (∀ k, (gw k).isSome = true → (gs k).isSome = true) ∧ (∀ k t, gw k = some t → t.val.size ≤ 1000)
/-- behind it: what was marked, what was told then -/
structure JB2 (w u : World) (sb rb bm i nm : Nat) (gsM : Ky → Option Sn) (gM : Ky → Option Tx) (wv : Value) (W : List Wr) : Prop where
  ex : ∃ bs bw ns nw gs gw L, MA w u sb bs bw bm ns nw nm gs gw gM rb L ∧ PXs L gs ∧ WOk L ∧ ns ≤ 100 + i ∧ nw ≤ 100 + i ∧ L.length ≤ 100 + i ∧ (∀ k, (gsM k).isSome = true → gs k = gsM k)
  o : kW.Own u w.heap.size wv W
/-- what stays -/
def KeepT (u u' : World) : Prop := ∀ (b : Nat) (c : Array Value) (t : TypeId) (z : Nat × Nat), u.heap[b]? = some (.cells c t z) → t ≠ 156 → t ≠ 60 → t ≠ 82 → u'.heap[b]? = some (.cells c t z)
theorem own_keepT {u u' : World} {B : Nat} {v : Value} {l : List Wr} (h : kW.Own u B v l) (hk : KeepT u u') : kW.Own u' B v l := by
  refine ownsRow_of_block h (fun j hj => ?_)
  rcases h.2 with ⟨rfl, _⟩ | ⟨g, cap, cur, rfl, hB, hg, _⟩
  · cases hj
  · injection hj with hj
    subst hj
    exact (hk _ _ _ _ hg (by decide) (by decide) (by decide)).trans hg.symm
theorem keepT_below {u u' : World} (hb : Below u.heap.size u u') : KeepT u u' := fun b _ _ _ h _ _ _ => (hb.block b (Array.getElem?_eq_some_iff.1 h).1).trans h
theorem KeepT.trans {a b c : World} (h : KeepT a b) (k : KeepT b c) : KeepT a c := fun _ _ _ _ hb h1 h2 h3 => k _ _ _ _ (h _ _ _ _ hb h1 h2 h3) h1 h2 h3
/-- what is written at a mark is what is written behind it -/
theorem writes_same {gsM gs : Ky → Option Sn} {gM : Ky → Option Tx} {n n' : Nat} {ks ks' : List Ky} (h1 : KsG gM n ks) (h2 : KsG gM n' ks') (he : ∀ k, (gsM k).isSome = true → gs k = gsM k) (hw : ∀ k, (gM k).isSome = true → (gsM k).isSome = true) : wrOut gs gM ks' = wrOut gsM gM ks := by
  have hk : ks' = ks := sorted_unique _ _ h2.1 h1.1 (fun k => by
    constructor
    · intro h
      exact (h1.2.2.2 k (h2.2.1 k h)).2 ((h2.2.2.2 k (h2.2.1 k h)).1 h)
    · intro h
      exact (h2.2.2.2 k (h1.2.1 k h)).2 ((h1.2.2.2 k (h1.2.1 k h)).1 h))
  subst hk
  have : ∀ l : List Ky, (∀ k ∈ l, (gM k).isSome = true) → wrOut gs gM l = wrOut gsM gM l := by
    intro l hl
    induction l with
    | nil => rfl
    | cons k l ih =>
      show wrAt gs gM k ++ wrOut gs gM l = wrAt gsM gM k ++ wrOut gsM gM l
      rw [ih (fun j hj => hl j (by simp [hj]))]
      congr 1
      unfold wrAt
      rw [he k (hw k (hl k (by simp)))]
  exact this ks' (fun k hk => (h2.2.2.2 k (h2.2.1 k hk)).1 hk)
theorem ws_outM {w : World} {B n m cap : Nat} {a : Option Addr} {gs : Ky → Option Sn} {gM : Ky → Option Tx} {ks : List Ky} (hk : KsG gM m ks) (hs : ∀ k t, gM k = some t → t.val.size ≤ 1000) (h : kW.Own w B (.slice a n cap) (wrOut gs gM ks)) : WsV w a (wrOut gs gM ks) :=
  ws_of_row h.toV (fun y hy => by
    obtain ⟨k, hk1, hy⟩ := List.mem_flatMap.1 hy
    unfold wrAt at hy
    split at hy
    · simp at hy
    · rw [List.mem_singleton.1 hy]
      refine ⟨hk.2.1 k hk1, ?_⟩
      show (txD (gM k)).val.size ≤ maxLen
      cases hq : gM k with
      | none => exact Nat.zero_le _
      | some t => have := hs k t hq; show t.val.size ≤ maxLen; unfold maxLen; omega)
theorem ext_see {gsM gs gs' : Ky → Option Sn} {k : Ky} {v : Sn} (h : ∀ j, (gsM j).isSome = true → gs j = gsM j) (he : gs' = gs ∨ (gs k = none ∧ gs' = updK gs k (some v))) : ∀ j, (gsM j).isSome = true → gs' j = gsM j := fun j hj => by
  rcases he with rfl | ⟨h0, rfl⟩
  · exact h j hj
  · unfold updK
    by_cases e : j = k
    · subst e
      have := h j hj
      rw [h0] at this
      rw [← this] at hj
      cases hj
    · rw [if_neg e]; exact h j hj
theorem some_see {gs gs' : Ky → Option Sn} {gw : Ky → Option Tx} {k : Ky} {v : Sn} (h : ∀ j, (gw j).isSome = true → (gs j).isSome = true) (he : gs' = gs ∨ (gs k = none ∧ gs' = updK gs k (some v))) : ∀ j, (gw j).isSome = true → (gs' j).isSome = true := fun j hj => by
  rcases he with rfl | ⟨h0, rfl⟩
  · exact h j hj
  · unfold updK
    by_cases e : j = k
    · rw [if_pos e]; rfl
    · rw [if_neg e]; exact h j hj
theorem some_put {gs : Ky → Option Sn} {gw gw' : Ky → Option Tx} {k : Ky} {t : Tx} (h : ∀ j, (gw j).isSome = true → (gs j).isSome = true) (he : gw' = gw ∨ ((gs k).isSome = true ∧ gw' = updK gw k (some t))) : ∀ j, (gw' j).isSome = true → (gs j).isSome = true := fun j hj => by
  rcases he with rfl | ⟨h0, rfl⟩
  · exact h j hj
  · by_cases e : j = k
    · rw [e]; exact h0
    · unfold updK at hj
      rw [if_neg e] at hj
      exact h j hj
theorem size_put {gs : Ky → Option Sn} {gw gw' : Ky → Option Tx} {k : Ky} {t : Tx} (h : ∀ j x, gw j = some x → x.val.size ≤ 1000) (ht : t.val.size ≤ 1000) (he : gw' = gw ∨ ((gs k).isSome = true ∧ gw' = updK gw k (some t))) : ∀ j x, gw' j = some x → x.val.size ≤ 1000 := fun j x hj => by
  rcases he with rfl | ⟨_, rfl⟩
  · exact h j x hj
  · unfold updK at hj
    by_cases e : j = k
    · rw [if_pos e] at hj; injection hj with hj; rw [← hj]; exact ht
    · rw [if_neg e] at hj; exact h j x hj
end Go.Proofs.Ytcghgnncmnoalaa
