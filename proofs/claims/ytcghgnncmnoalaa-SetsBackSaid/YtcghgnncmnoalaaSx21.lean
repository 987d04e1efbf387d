/- Sets and the reference side by side. Conditions: each lemma's own premises. -/
import Derived.Test.YtcghgnncmnoalaaSx19
namespace Go.Proofs.Ytcghgnncmnoalaa
open Go.RowKit Go.Maps

/-- both in memory, of the call's own -/
structure MA (w u : World) (sb bs bw bm ns nw nm : Nat) (gs : Ky → Option Sn) (gw gm : Ky → Option Tx) (rb : Nat) (L : List Rx) : Prop where
  p : SP w u sb bs bw bm ns nw nm gs gw gm
  r : SrX u rb w.heap.size L
  g : w.heap.size ≤ rb
theorem SrX.rows {w : World} {rb B : Nat} {L : List Rx} (h : SrX w rb B L) {w' : World} (hr : w'.heap[rb]? = w.heap[rb]?) (hk : ∀ g, B ≤ g → RX w g → w'.heap[g]? = w.heap[g]?) : SrX w' rb B L := by
  obtain ⟨a, cap, e1, e2, e3⟩ := h.ex
  refine ⟨⟨a, cap, hr.trans e1, ownsRow_of_block e2 (fun j hj => ?_), e3⟩, h.n⟩
  cases a with
  | none => cases hj
  | some x =>
    obtain ⟨g, cp, hv, hBg, _, _⟩ | h0 : (∃ b cp, (Value.slice (some x) L.length cap) = .slice (some ⟨b, 0, none⟩) L.length cp ∧ B ≤ b ∧ L.length ≤ cp ∧ kX.At w b 0 L) ∨ L = [] := by
      by_cases hl : L = []
      · exact .inr hl
      · exact .inl (RowK.Own.at' e2 hl)
    · injection hv with hv1
      injection hv1 with hv1
      subst hv1
      obtain ⟨cur, hg, _⟩ := RowK.Own.blk e2
      injection hj with hj
      subst hj
      exact hk g hBg ⟨cur, _, hg⟩
    · rcases e2.2 with ⟨h1, _⟩ | ⟨g, cp, cur, h1, hBg, hg, _⟩
      · injection h1 with h1; cases h1
      · injection h1 with h1
        injection h1 with h1
        subst h1
        injection hj with hj
        subst hj
        exact hk g hBg ⟨cur, _, hg⟩
theorem MA.prog {w u u' : World} {sb bs bw bm ns nw nm bw' bm' ns' nw' nm' rb : Nat} {gs gs' : Ky → Option Sn} {gw gm gw' gm' : Ky → Option Tx} {L : List Rx} (h : MA w u sb bs bw bm ns nw nm gs gw gm rb L) (h2 : StX u' sb bs bw' bm' ns' nw' nm' gs' gw' gm') {S : Nat → Prop} (hc : Chg u u' S) (hS : ∀ j, S j → j = sb ∨ j = bs ∨ j = bw ∨ j = bm) (k1 : w.heap.size ≤ bw') (k2 : w.heap.size ≤ bm') :
    MA w u' sb bs bw' bm' ns' nw' nm' gs' gw' gm' rb L ∧ ∀ (b : Nat) (c : Array Value) (t : TypeId) (z : Nat × Nat), u.heap[b]? = some (.cells c t z) → t ≠ 156 → u'.heap[b]? = some (.cells c t z) := by
  have hk : ∀ (b : Nat) (c : Array Value) (t : TypeId) (z : Nat × Nat), u.heap[b]? = some (.cells c t z) → t ≠ 156 → u'.heap[b]? = some (.cells c t z) := fun b c t z hb ht => by
    refine (hc.block b (Array.getElem?_eq_some_iff.1 hb).1 (fun hj => ?_)).trans hb
    have t1 := h.p.p.typed hb ht
    rcases hS _ hj with e | e | e | e
    · exact t1.1 e
    · exact t1.2.1 e
    · exact t1.2.2.1 e
    · exact t1.2.2.2 e
  refine ⟨⟨h.p.step h2 hc (fun j hj => ?_) k1 k2, ?_, h.g⟩, hk⟩
  · rcases hS j hj with rfl | rfl | rfl | rfl
    · exact h.p.g0
    · exact h.p.g1
    · exact h.p.g2
    · exact h.p.g3
  · obtain ⟨a, cap, e1, _, _⟩ := h.r.ex
    exact h.r.rows ((hk _ _ _ _ e1 (by decide)).trans e1.symm) (fun g _ ⟨c, z, hg⟩ => (hk _ _ _ _ hg (by decide)).trans hg.symm)
theorem MA.ref {w u u' : World} {sb bs bw bm ns nw nm rb : Nat} {gs : Ky → Option Sn} {gw gm : Ky → Option Tx} {L L' : List Rx} (h : MA w u sb bs bw bm ns nw nm gs gw gm rb L) (h2 : SrX u' rb w.heap.size L') {S : Nat → Prop} (hc : Chg u u' S) (hS : ∀ j, S j → j = rb ∨ (w.heap.size ≤ j ∧ RX u j)) :
    MA w u' sb bs bw bm ns nw nm gs gw gm rb L' ∧ ∀ (b : Nat) (c : Array Value) (t : TypeId) (z : Nat × Nat), u.heap[b]? = some (.cells c t z) → t ≠ 60 → t ≠ 82 → u'.heap[b]? = some (.cells c t z) := by
  obtain ⟨a, cap, e1, _, _⟩ := h.r.ex
  have hk : ∀ (b : Nat) (c : Array Value) (t : TypeId) (z : Nat × Nat), u.heap[b]? = some (.cells c t z) → t ≠ 60 → t ≠ 82 → u'.heap[b]? = some (.cells c t z) := fun b c t z hb h1 h3 => by
    refine (hc.block b (Array.getElem?_eq_some_iff.1 hb).1 (fun hj => ?_)).trans hb
    rcases hS _ hj with rfl | ⟨_, c', z', hr⟩
    · rw [e1] at hb
      injection hb with hb
      injection hb with _ q _
      exact h1 q.symm
    · rw [hr] at hb
      injection hb with hb
      injection hb with _ q _
      exact h3 q.symm
  have hm : ∀ (b : Nat) es ck, u.heap[b]? = some (Obj.map es ck) → u'.heap[b]? = u.heap[b]? := fun b es ck hb => by
    refine hc.block b (Array.getElem?_eq_some_iff.1 hb).1 (fun hj => ?_)
    rcases hS _ hj with rfl | ⟨_, c', z', hr⟩
    · rw [e1] at hb; cases hb
    · rw [hr] at hb; cases hb
  have hsb := hk _ _ _ _ h.p.p.blk (by decide) (by decide)
  obtain ⟨m1, k1, q1⟩ := h.p.p.sm.map
  obtain ⟨m2, k2, q2⟩ := h.p.p.wm.map
  obtain ⟨m3, k3, q3⟩ := h.p.p.mm.map
  refine ⟨⟨⟨⟨hsb, h.p.p.sm.of_block (hm _ _ _ q1), h.p.p.wm.of_block (hm _ _ _ q2), h.p.p.mm.of_block (hm _ _ _ q3), h.p.p.n1, h.p.p.n2, h.p.p.n3⟩, h.p.b.trans (hc.below h.p.b.size (fun j hj => ?_)), h.p.g0, h.p.g1, h.p.g2, h.p.g3⟩, h2, h.g⟩, hk⟩
  rcases hS _ hj with rfl | ⟨q, _⟩
  · exact h.g
  · exact q
theorem MA.below {w u u' : World} {sb bs bw bm ns nw nm rb : Nat} {gs : Ky → Option Sn} {gw gm : Ky → Option Tx} {L : List Rx} (h : MA w u sb bs bw bm ns nw nm gs gw gm rb L) (hb : Below u.heap.size u u') : MA w u' sb bs bw bm ns nw nm gs gw gm rb L := by
  obtain ⟨a, cap, e1, e2, e3⟩ := h.r.ex
  exact ⟨h.p.below hb, h.r.rows (hb.block _ (Array.getElem?_eq_some_iff.1 e1).1) (fun g _ ⟨c, z, hg⟩ => hb.block _ (Array.getElem?_eq_some_iff.1 hg).1), h.g⟩
theorem MA.drew {w u : World} {sb bs bw bm ns nw nm rb : Nat} {gs : Ky → Option Sn} {gw gm : Ky → Option Tx} {L : List Rx} (h : MA w u sb bs bw bm ns nw nm gs gw gm rb L) : MA w u.drew sb bs bw bm ns nw nm gs gw gm rb L := h.below (below_drewN (Below.refl _ _) 1)
/-- texts not too long -/
def WOk (L : List Rx) : Prop := ∀ x ∈ L, (x.wrote = true → x.w.val.size ≤ 1000) ∧ (x.marked = true → x.m.val.size ≤ 1000)
theorem WOk.ins {L : List Rx} (h : WOk L) (n : Nat) (k : Ky) (v : Sn) : WOk (insX L n (Rx.of k v)) := fun x hx => by
  rcases insX_mem.1 hx with rfl | hx
  · exact ⟨fun h => (by cases h), fun h => (by cases h)⟩
  · exact h x hx
theorem WOk.set {L : List Rx} (h : WOk L) (k : Ky) {t : Tx} (ht : t.val.size ≤ 1000) : WOk (L.map (setX k t)) := fun y hy => by
  obtain ⟨x, hx, rfl⟩ := List.mem_map.1 hy
  unfold setX
  split
  · exact ⟨fun _ => ht, (h x hx).2⟩
  · exact h x hx
theorem WOk.sets {t : Tx} (ht : t.val.size ≤ 1000) : ∀ (ks : List Ky) {L : List Rx}, WOk L → WOk (setXs t ks L)
  | [], _, h => h
  | k :: ks, _, h => WOk.sets ht ks (h.set k ht)
theorem WOk.mb {L : List Rx} (h : WOk L) (back : Bool) : WOk (L.map (mbX back)) := fun y hy => by
  obtain ⟨x, hx, rfl⟩ := List.mem_map.1 hy
  cases back
  · exact ⟨(h x hx).1, (h x hx).1⟩
  · exact ⟨(h x hx).2, (h x hx).2⟩
theorem setXs_len (t : Tx) (ks : List Ky) (L : List Rx) : (setXs t ks L).length = L.length := by
  have := congrArg List.length (setXs_keys t ks L)
  simpa using this
/-- one answer, and what both are then -/
structure SeeB (B sb bs bw bm nw nm rb : Nat) (gs : Ky → Option Sn) (gw gm : Ky → Option Tx) (L : List Rx) (k : Ky) (v : Sn) (c : Int) (gs' : Ky → Option Sn) (L' : List Rx) : Prop where
  x : PX L' gs' gw gm
  o : WOk L'
  n : L'.length ≤ L.length + 1
  p : ∀ u ns, StX u sb bs bw bm ns nw nm gs gw gm → ns ≤ 1000000 → Calls Try.prog 33 #[.pointer (some ⟨sb, 0, none⟩), .agg #[.int .i64 k.kind, .int .i64 k.a, .int .i64 k.b, .string k.s], .agg #[.int .u64 v.word, .string v.val, .bool v.has]] u fun e u' => e = .returned (.int .i64 c) ∧ ∃ ns', ns' ≤ ns + 1 ∧ StX u' sb bs bw bm ns' nw nm gs' gw gm ∧ Chg u u' (fun j => j = bs)
  r : ∀ u, SrX u rb B L → B ≤ u.heap.size → Calls Try.prog 34 #[.pointer (some ⟨rb, 0, none⟩), .agg #[.int .i64 k.kind, .int .i64 k.a, .int .i64 k.b, .string k.s], .agg #[.int .u64 v.word, .string v.val, .bool v.has]] u fun e u' => e = .returned (.int .i64 c) ∧ SrX u' rb B L' ∧ Chg u u' (fun j => j = rb)
theorem see_both (B sb bs bw bm nw nm rb : Nat) {gs : Ky → Option Sn} {gw gm : Ky → Option Tx} {L : List Rx} (hx : PX L gs gw gm) (ho : WOk L) (hL : L.length < 1000000) {k : Ky} (hk : k.Ok) (v : Sn) : ∃ c gs' L', SeeB B sb bs bw bm nw nm rb gs gw gm L k v c gs' L' := by
  by_cases hbad : v.val.size ≠ 0 ∧ v.has = false
  · refine ⟨2, gs, L, hx, ho, by omega, fun u ns h hn => (sxSee_any h hn hk v).mono ?_, fun u h hB => (r13See_any h hB hL (fun x hx' => hx.ok x hx') k v).mono ?_⟩
    · intro e u' h3
      unfold SeePost at h3
      rw [if_pos hbad] at h3
      exact ⟨h3.1, ns, by omega, h.below h3.2, Chg.of_below h3.2 _⟩
    · intro e u' h3
      unfold See13 at h3
      rw [if_pos hbad] at h3
      obtain ⟨a, cap, e1, e2, e3⟩ := h.ex
      exact ⟨h3.1, h.rows (h3.2.block _ (Array.getElem?_eq_some_iff.1 e1).1) (fun g _ ⟨c, z, hg⟩ => h3.2.block _ (Array.getElem?_eq_some_iff.1 hg).1), Chg.of_below h3.2 _⟩
  · by_cases hin : ∃ x ∈ L, x.k = k
    · refine ⟨31, gs, L, hx, ho, by omega, fun u ns h hn => (sxSee_any h hn hk v).mono ?_, fun u h hB => (r13See_any h hB hL (fun x hx' => hx.ok x hx') k v).mono ?_⟩
      · intro e u' h3
        unfold SeePost at h3
        rw [if_neg hbad, if_pos ((hx.isSome k).2 hin)] at h3
        exact ⟨h3.1, ns, by omega, h.below h3.2, Chg.of_below h3.2 _⟩
      · intro e u' h3
        unfold See13 at h3
        rw [if_neg hbad] at h3
        rcases h3 with ⟨_, he, hb⟩ | ⟨hno, _⟩
        · obtain ⟨a, cap, e1, e2, e3⟩ := h.ex
          exact ⟨he, h.rows (hb.block _ (Array.getElem?_eq_some_iff.1 e1).1) (fun g _ ⟨c, z, hg⟩ => hb.block _ (Array.getElem?_eq_some_iff.1 hg).1), Chg.of_below hb _⟩
        · obtain ⟨x, hx1, hx2⟩ := hin
          exact absurd hx2 (hno x hx1)
    · have hno : ∀ x ∈ L, x.k ≠ k := fun x hx1 e => hin ⟨x, hx1, e⟩
      -- the place is the reference's: one for all worlds
      obtain ⟨n, hn⟩ : ∃ n, AtX L k n := by
        have hs : L.Pairwise (fun a b => a.k.cmp b.k < 0) := by
          have h3 : (L.map Rx.k).Pairwise (fun a b => a.cmp b < 0) := hx.sorted
          rwa [List.pairwise_map] at h3
        clear hin hno hbad ho hL
        have : ∀ M : List Rx, ∃ n, AtX M k n := by
          intro M
          induction M with
          | nil => exact ⟨0, Nat.le_refl _, fun j x hj => absurd hj (Nat.not_lt_zero _), fun x hx => by simp at hx⟩
          | cons y M ih =>
            by_cases hy : y.k.cmp k < 0
            · obtain ⟨n, h1, h2, h3⟩ := ih
              refine ⟨n + 1, by simpa using h1, fun j x hj hxj => ?_, fun x hxn => h3 x (by simpa using hxn)⟩
              cases j with
              | zero => simp at hxj; subst hxj; exact hy
              | succ j => exact h2 j x (by omega) (by simpa using hxj)
            · exact ⟨0, Nat.zero_le _, fun j x hj => absurd hj (Nat.not_lt_zero _), fun x hx => by simp at hx; subst hx; omega⟩
        exact this L
      have huniq : ∀ m, AtX L k m → m = n := by
        intro m ⟨m1, m2, m3⟩
        obtain ⟨n1, n2, n3⟩ := hn
        rcases Nat.lt_trichotomy m n with h | h | h
        · have hl : m < L.length := by omega
          have a1 := m3 L[m] (List.getElem?_eq_getElem hl)
          have a2 := n2 m L[m] h (List.getElem?_eq_getElem hl)
          omega
        · exact h
        · have hl : n < L.length := by omega
          have a1 := n3 L[n] (List.getElem?_eq_getElem hl)
          have a2 := m2 n L[n] h (List.getElem?_eq_getElem hl)
          omega
      refine ⟨0, updK gs k (some v), insX L n (Rx.of k v), hx.see hk hno hn v, ho.ins n k v, ?_, fun u ns h hn' => (sxSee_any h hn' hk v).mono ?_, fun u h hB => (r13See_any h hB hL (fun x hx' => hx.ok x hx') k v).mono ?_⟩
      · unfold insX
        simp only [List.length_append, List.length_take, List.length_drop, List.length_cons, List.length_nil]
        omega
      · intro e u' h3
        unfold SeePost at h3
        rw [if_neg hbad, if_neg (fun h => hin ((hx.isSome k).1 h))] at h3
        exact h3
      · intro e u' h3
        unfold See13 at h3
        rw [if_neg hbad] at h3
        rcases h3 with ⟨hin', _⟩ | ⟨_, he, m, hm, hs, hc⟩
        · exact absurd hin' hin
        · rw [huniq m hm] at hs
          exact ⟨he, hs, hc⟩
structure WrB (B sb bs bw bm ns nm rb : Nat) (gs : Ky → Option Sn) (gw gm : Ky → Option Tx) (L : List Rx) (ks : List Ky) (t : Tx) (c : Int) (gw' : Ky → Option Tx) (L' : List Rx) : Prop where
  x : PX L' gs gw' gm
  o : WOk L'
  n : L'.length = L.length
  r : ∀ u ka kcap, SrX u rb B L → kK.V u ka ks → (ks ≠ [] → ∀ b off, ka = some ⟨b, off, none⟩ → b < B ∨ ¬ RX u b) → Calls Try.prog 36 #[.pointer (some ⟨rb, 0, none⟩), .slice ka ks.length kcap, .string t.val, .bool t.has] u fun e u' => e = .returned (.int .i64 c) ∧ SrX u' rb B L' ∧ Chg u u' (fun j => B ≤ j ∧ RX u j)
theorem SrX.below {w w' : World} {rb B : Nat} {L : List Rx} (h : SrX w rb B L) (hb : Below w.heap.size w w') : SrX w' rb B L := by
  obtain ⟨a, cap, e1, e2, e3⟩ := h.ex
  exact h.rows (hb.block _ (Array.getElem?_eq_some_iff.1 e1).1) (fun g _ ⟨c, z, hg⟩ => hb.block _ (Array.getElem?_eq_some_iff.1 hg).1)
theorem put_both (B sb bs bw bm ns nm rb : Nat) {gs : Ky → Option Sn} {gw gm : Ky → Option Tx} {L : List Rx} (hx : PX L gs gw gm) (ho : WOk L) {k : Ky} (hk : k.Ok) {val : ByteArray} (hv : val.size ≤ 1000) : ∃ c gw' L', WrB B sb bs bw bm ns nm rb gs gw gm L [k] ⟨val, true⟩ c gw' L' ∧
    ∀ u nw, StX u sb bs bw bm ns nw nm gs gw gm → nw ≤ 1000000 → Calls Try.prog 35 #[.pointer (some ⟨sb, 0, none⟩), .agg #[.int .i64 k.kind, .int .i64 k.a, .int .i64 k.b, .string k.s], .string val] u fun e u' => e = .returned (.int .i64 c) ∧ ∃ nw', nw' ≤ nw + 1 ∧ StX u' sb bs bw bm ns nw' nm gs gw' gm ∧ Chg u u' (fun j => j = bw) := by
  by_cases hin : ∃ x ∈ L, x.k = k
  · refine ⟨0, updK gw k (some ⟨val, true⟩), L.map (setX k ⟨val, true⟩), ⟨hx.set hin _, ho.set k hv, List.length_map _, fun u ka kcap h h2 h3 => (r13Write_any h hx.sorted ka kcap [k] h2 (by simp) h3 ⟨val, true⟩).mono ?_⟩, fun u nw h hn => (sxPut_any h hn hk val).mono ?_⟩
    · intro e u' h4
      rcases h4 with ⟨⟨j, hj, hno⟩, _⟩ | ⟨_, he, hs, hc⟩
      · rw [List.mem_singleton.1 hj] at hno
        obtain ⟨x, hx1, hx2⟩ := hin
        exact absurd hx2 (hno x hx1)
      · exact ⟨he, hs, hc⟩
    · intro e u' h4
      unfold PutPost at h4
      rw [if_pos ((hx.isSome k).2 hin)] at h4
      exact h4
  · have hno : ∀ x ∈ L, x.k ≠ k := fun x hx1 e => hin ⟨x, hx1, e⟩
    refine ⟨101, gw, L, ⟨hx, ho, rfl, fun u ka kcap h h2 h3 => (r13Write_any h hx.sorted ka kcap [k] h2 (by simp) h3 ⟨val, true⟩).mono ?_⟩, fun u nw h hn => (sxPut_any h hn hk val).mono ?_⟩
    · intro e u' h4
      rcases h4 with ⟨_, he, hb⟩ | ⟨hall, _⟩
      · exact ⟨he, h.below hb, Chg.of_below hb _⟩
      · exact absurd (hall k (by simp)) hin
    · intro e u' h4
      unfold PutPost at h4
      rw [if_neg (fun h => hin ((hx.isSome k).1 h))] at h4
      exact ⟨h4.1, nw, by omega, h.below h4.2, Chg.of_below h4.2 _⟩
theorem drop_both (B sb bs bw bm ns nm rb : Nat) {gs : Ky → Option Sn} {gw gm : Ky → Option Tx} {L : List Rx} (hx : PX L gs gw gm) (ho : WOk L) {ks : List Ky} (hk : ∀ k ∈ ks, k.Ok) (hl : ks.length ≤ 1000000) : ∃ c gw' L', WrB B sb bs bw bm ns nm rb gs gw gm L ks ⟨⟨#[]⟩, false⟩ c gw' L' ∧
    ∀ u nw ka kcap, StX u sb bs bw bm ns nw nm gs gw gm → kK.V u ka ks → nw ≤ 1000000 → Calls Try.prog 37 #[.pointer (some ⟨sb, 0, none⟩), .slice ka ks.length kcap] u fun e u' => e = .returned (.int .i64 c) ∧ ∃ nw', nw' ≤ nw + ks.length ∧ StX u' sb bs bw bm ns nw' nm gs gw' gm ∧ Chg u u' (fun j => j = bw) := by
  by_cases hall : ∀ k ∈ ks, ∃ x ∈ L, x.k = k
  · have hany : ks.any (fun k => !(gs k).isSome) = false := by
      rw [List.any_eq_false]
      intro k hk1
      rw [(hx.isSome k).2 (hall k hk1)]
      decide
    refine ⟨0, updKs ⟨⟨#[]⟩, false⟩ ks gw, setXs ⟨⟨#[]⟩, false⟩ ks L, ⟨hx.sets _ ks L gw hall, ho.sets (by decide) ks, setXs_len _ _ _, fun u ka kcap h h2 h3 => (r13Write_any h hx.sorted ka kcap ks h2 hl h3 ⟨⟨#[]⟩, false⟩).mono ?_⟩, fun u nw ka kcap h h2 hn => (sxDrop_any h hn ka kcap ks h2 hk hl).mono ?_⟩
    · intro e u' h4
      rcases h4 with ⟨⟨j, hj, hno⟩, _⟩ | ⟨_, he, hs, hc⟩
      · obtain ⟨x, hx1, hx2⟩ := hall j hj
        exact absurd hx2 (hno x hx1)
      · exact ⟨he, hs, hc⟩
    · intro e u' h4
      unfold DropPost at h4
      rw [if_neg (by rw [hany]; decide)] at h4
      exact h4
  · obtain ⟨k, hk1, hk2⟩ : ∃ k ∈ ks, ¬ ∃ x ∈ L, x.k = k := Classical.byContradiction fun hn => hall (fun k hk1 => Classical.byContradiction fun h2 => hn ⟨k, hk1, h2⟩)
    have hany : ks.any (fun k => !(gs k).isSome) = true := by
      rw [List.any_eq_true]
      refine ⟨k, hk1, ?_⟩
      rw [hx.unseen (fun x hx1 e => hk2 ⟨x, hx1, e⟩)]
      rfl
    refine ⟨101, gw, L, ⟨hx, ho, rfl, fun u ka kcap h h2 h3 => (r13Write_any h hx.sorted ka kcap ks h2 hl h3 ⟨⟨#[]⟩, false⟩).mono ?_⟩, fun u nw ka kcap h h2 hn => (sxDrop_any h hn ka kcap ks h2 hk hl).mono ?_⟩
    · intro e u' h4
      rcases h4 with ⟨_, he, hb⟩ | ⟨hall', _⟩
      · exact ⟨he, h.below hb, Chg.of_below hb _⟩
      · exact absurd (hall' k hk1) hk2
    · intro e u' h4
      unfold DropPost at h4
      rw [if_pos hany] at h4
      exact ⟨h4.1, nw, by omega, h.below h4.2, Chg.of_below h4.2 _⟩
end Go.Proofs.Ytcghgnncmnoalaa
