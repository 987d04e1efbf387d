/- CellActs: a store and the reference's store side by side in memory; what each call leaves. Conditions: each lemma's own premises. -/
import Derived.Test.YtaanohgkdpohhaaCa1
namespace Go.Proofs.Ytaanohgkdpohhaa
open Go.RowKit Go.Maps

theorem StC.notT {w : World} {s : Sto} (h : StC w s) {i : Nat} {cs : Array Value} {t : TypeId} {z : Nat × Nat} (hb : w.heap[i]? = some (.cells cs t z)) (h1 : t ≠ 42) (h2 : t ≠ 156) (h3 : t ≠ 3) (h4 : t ≠ 148) : ¬ s.fp i := by
  rintro (e | e | e | ⟨k, x, hx, e⟩)
  · rw [e, h.blk] at hb; injection hb with hb; injection hb with _ e2 _; exact h1 e2.symm
  · obtain ⟨_, _, ⟨_, ⟨_, _, hm, _⟩, _⟩, _⟩ := h.map; rw [e, hm] at hb; cases hb
  · rcases e with e | e | e | e
    · rw [e, h.ar.blk] at hb; injection hb with hb; injection hb with _ e2 _; exact h2 e2.symm
    · obtain ⟨_, _, ⟨_, ⟨_, _, hm, _⟩, _⟩, _⟩ := h.ar.gens; rw [e, hm] at hb; cases hb
    · obtain ⟨_, _, ⟨_, ⟨_, _, hm, _⟩, _⟩, _⟩ := h.ar.taken; rw [e, hm] at hb; cases hb
    · rcases h.ar.row.2 with ⟨h0, _⟩ | ⟨g, cap, cur, h0, _, hg, _⟩
      · rw [h0] at e; simp [Value.ownBlock] at e
      · rw [h0] at e
        simp [Value.ownBlock] at e
        rw [← e, hg] at hb
        injection hb with hb
        injection hb with _ e2 _
        exact h3 e2.symm
  · rw [← e, (h.slot k x hx).2.2.1] at hb
    unfold Sl.blk at hb
    injection hb with hb
    injection hb with _ e2 _
    exact h4 e2.symm
theorem own_cells {w : World} {B : Nat} {v : Value} {L : List (Ky × Cl)} (h : kC.Own w B v L) {j : Nat} (hj : v.ownBlock = some j) : ∃ cs z, w.heap[j]? = some (.cells cs 71 z) := by
  rcases h.2 with ⟨h1, _⟩ | ⟨g, cp, cur, h1, _, hg, _⟩
  · rw [h1] at hj; simp [Value.ownBlock] at hj
  · rw [h1] at hj
    simp [Value.ownBlock] at hj
    subst hj
    exact ⟨cur, _, hg⟩
theorem RO.chg {w w' : World} {rb D room : Nat} {v : Value} {L : List (Ky × Cl)} {S : Nat → Prop} (h : RO w rb D room v L) (hc : Chg w w' S) (h1 : ¬ S rb) (h2 : ∀ j, v.ownBlock = some j → ¬ S j) : RO w' rb D room v L :=
  ⟨(hc.block rb h.lt h1).trans h.blk, h.o.chg hc h2, h.len⟩
/-- blocks that neither store writes to -/
def Keep (w w' : World) : Prop := ∀ (j : Nat) (cs : Array Value) (t : TypeId) (z : Nat × Nat), t ∈ [63, 36, 44, 32] → w.heap[j]? = some (.cells cs t z) → w'.heap[j]? = some (.cells cs t z)
theorem Keep.of_below {w w' : World} (hb : Below w.heap.size w w') : Keep w w' := fun j _ _ _ _ h => (hb.block j (Array.getElem?_eq_some_iff.1 h).1).trans h
theorem Keep.trans {a b c : World} (h : Keep a b) (k : Keep b c) : Keep a c := fun j cs t z ht e => k j cs t z ht (h j cs t z ht e)
theorem types9 : 63 ≠ 42 ∧ 63 ≠ 156 ∧ 63 ≠ 3 ∧ 63 ≠ 148 ∧ 63 ≠ 61 ∧ 63 ≠ 71 := by decide
/-- both stores in memory, made since W -/
structure CM (W w : World) (s : Sto) (sb rb room : Nat) (v : Value) (M : List (Ky × Cl)) : Prop where
  st : StS W w s
  hsb : s.sb = sb
  hroom : s.ar.room = room
  ro : RO w rb W.heap.size room v M
  hrb : W.heap.size ≤ rb
section
variable {W w w' : World} {s s' : Sto} {sb rb room n c N : Nat} {v : Value} {M M' L L' : List (Ky × Cl)} {g : Ky → Option Cl} {r : Value}
theorem CM.nrb (h : CM W w s sb rb room v M) : ¬ s.fp rb := h.st.st.notT h.ro.blk (by decide) (by decide) (by decide) (by decide)
theorem CM.nown (h : CM W w s sb rb room v M) : ∀ j, v.ownBlock = some j → ¬ s.fp j := fun j hj => by
  obtain ⟨cs, z, hb⟩ := own_cells h.ro.o hj
  exact h.st.st.notT hb (by decide) (by decide) (by decide) (by decide)
theorem CM.below (h : CM W w s sb rb room v M) (hb : Below w.heap.size w w') : CM W w' s sb rb room v M := ⟨h.st.below hb, h.hsb, h.hroom, h.ro.below hb, h.hrb⟩
theorem CM.prog (h : CM W w s sb rb room v M) (p : GPost w s s' g n c w') : CM W w' s' sb rb room v M ∧ Keep w w' := by
  refine ⟨⟨h.st.gpost p, p.sb.trans h.hsb, p.room.trans h.hroom, h.ro.chg p.chg h.nrb h.nown, h.hrb⟩, fun j cs t z ht e => ?_⟩
  refine (p.chg.block j (Array.getElem?_eq_some_iff.1 e).1 (h.st.st.notT e ?_ ?_ ?_ ?_)).trans e
  all_goals
    rintro rfl
    exact absurd ht (by decide)
theorem CM.ref (h : CM W w s sb rb room v M) (p : RPost w rb W.heap.size room v M' w') : (∃ v', CM W w' s sb rb room v' M') ∧ Keep w w' := by
  obtain ⟨v', hv, _⟩ := p.ex
  have hrf : ∀ i, RF rb v i → W.heap.size ≤ i := by
    rintro i (e | e)
    · rw [e]; exact h.hrb
    · exact (h.ro.o.lt i e).1
  refine ⟨⟨v', ⟨h.st.st.keep (fun i hi => p.chg.block i (h.st.st.lt hi) ?_), h.st.bel.trans (p.chg.below h.st.bel.size hrf), h.st.own⟩, h.hsb, h.hroom, hv, h.hrb⟩, fun j cs t z ht e => ?_⟩
  · rintro (e | e)
    · exact h.nrb (e ▸ hi)
    · exact h.nown i e hi
  · refine (p.chg.block j (Array.getElem?_eq_some_iff.1 e).1 ?_).trans e
    rintro (e' | e')
    · rw [e', h.ro.blk] at e
      injection e with e
      injection e with _ e2 _
      subst e2
      exact absurd ht (by decide)
    · obtain ⟨cs', z', hb⟩ := own_cells h.ro.o e'
      rw [hb] at e
      injection e with e
      injection e with _ e2 _
      subst e2
      exact absurd ht (by decide)
/-- what a call of the program leaves -/
def PP (W w : World) (sb rb room : Nat) (v : Value) (M L' : List (Ky × Cl)) (N : Nat) (r : Value) (e : Ending) (w' : World) : Prop :=
  e = .returned r ∧ Keep w w' ∧ ∃ s', CM W w' s' sb rb room v M ∧ SR s'.g s'.cnt L' ∧ s'.c ≤ N
/-- what a call of the reference leaves -/
def PR (W w : World) (s : Sto) (sb rb room : Nat) (M' : List (Ky × Cl)) (r : Value) (e : Ending) (w' : World) : Prop :=
  e = .returned r ∧ Keep w w' ∧ ∃ v', CM W w' s sb rb room v' M'
theorem PP.same (h : CM W w s sb rb room v M) (hr : SR s.g s.cnt L) (hn : s.c ≤ N) (hb : Below w.heap.size w w') : PP W w sb rb room v M L N r (.returned r) w' :=
  ⟨rfl, Keep.of_below hb, s, h.below hb, hr, hn⟩
theorem PP.step (h : CM W w s sb rb room v M) (p : GPost w s s' g n c w') (hr : SR g n L') (hn : c ≤ N) : PP W w sb rb room v M L' N r (.returned r) w' := by
  obtain ⟨h1, h2⟩ := h.prog p
  exact ⟨rfl, h2, s', h1, by rw [p.g, p.cnt]; exact hr, by rw [p.c]; exact hn⟩
theorem PR.step (h : CM W w s sb rb room v M) (p : RPost w rb W.heap.size room v M' w') : PR W w s sb rb room M' r (.returned r) w' := by
  obtain ⟨h1, h2⟩ := h.ref p
  exact ⟨rfl, h2, h1⟩
end
section
variable {W w : World} {s : Sto} {sb rb room : Nat} {v : Value} {M L : List (Ky × Cl)}
theorem plock (h : CM W w s sb rb room v M) (hr : SR s.g s.cnt L) (k : Ky) (who : Int) (hk : k.Ok) (hw : I64 who) :
    Calls Try.prog 17 #[.pointer (some ⟨sb, 0, none⟩), .agg #[.int .i64 k.kind, .int .i64 k.a, .int .i64 k.b, .string k.s], .int .i64 who] w (PP W w sb rb room v M (lockL room L k who).2.2 s.c (.tuple #[.int .u64 (lockL room L k who).1, .int .i64 (lockL room L k who).2.1])) := by
  have hg : s.g k = lookL L k := by rw [hr.g]
  have hc := h.st.st.cnt_le.1
  rw [h.hroom] at hc
  unfold lockL
  cases hl : lookL L k with
  | none =>
    rw [hl] at hg
    simp only
    by_cases hf : room ≤ L.length
    · rw [if_pos hf]
      refine (lock_full_g s sb k who w h.st.st h.hsb hk hg (by rw [h.hroom]; have := hr.cnt; omega)).mono ?_
      rintro e w' ⟨rfl, hb⟩
      exact PP.same h hr (Nat.le_refl _) hb
    · rw [if_neg hf]
      refine (lock_new_g s sb k who w h.st.st h.hsb hk hw hg (by rw [h.hroom]; have := hr.cnt; omega)).mono ?_
      rintro e w' ⟨rfl, s', p⟩
      exact PP.step h p (hr.app hl) (Nat.le_refl _)
  | some x =>
    rw [hl] at hg
    simp only
    cases hx : x.lk
    · rw [if_neg (by decide)]
      refine (lock_free_g s sb k x who w h.st.st h.hsb hk hw hg hx).mono ?_
      rintro e w' ⟨rfl, s', p⟩
      exact PP.step h p (hr.upd hl) (Nat.le_refl _)
    · rw [if_pos rfl]
      refine (lock_busy_g s sb k x who w h.st.st h.hsb hk hg hx).mono ?_
      rintro e w' ⟨rfl, hb⟩
      exact PP.same h hr (Nat.le_refl _) hb
theorem pinst (h : CM W w s sb rb room v M) (hr : SR s.g s.cnt L) (k : Ky) (who : Int) (t : Nat) (vw : Int) (vs : ByteArray) (vh : Bool) (hk : k.Ok) (ht : t < 18446744073709551616) (hvs : vs.size ≤ maxLen) :
    Calls Try.prog 19 #[.pointer (some ⟨sb, 0, none⟩), .agg #[.int .i64 k.kind, .int .i64 k.a, .int .i64 k.b, .string k.s], .int .i64 who, .int .u64 t, .agg #[.int .u64 vw, .string vs, .bool vh]] w (PP W w sb rb room v M (instL L k who t vs vh).2 s.c (.int .i64 (instL L k who t vs vh).1)) := by
  have hg : s.g k = lookL L k := by rw [hr.g]
  have hsame : ∀ z : Int, holdsV (s.g k) who = false → instL L k who t vs vh = (51, L) → Calls Try.prog 19 #[.pointer (some ⟨sb, 0, none⟩), .agg #[.int .i64 k.kind, .int .i64 k.a, .int .i64 k.b, .string k.s], .int .i64 who, .int .u64 t, .agg #[.int .u64 vw, .string vs, .bool vh]] w (PP W w sb rb room v M (instL L k who t vs vh).2 s.c (.int .i64 (instL L k who t vs vh).1)) := by
    intro _ hh he
    rw [he]
    refine (install_stale_g s sb k who t vw vs vh w h.st.st h.hsb hk hh).mono ?_
    rintro e w' ⟨rfl, hb⟩
    exact PP.same h hr (Nat.le_refl _) hb
  cases hl : lookL L k with
  | none => exact hsame 0 (by rw [hg, hl]; rfl) (by unfold instL; rw [hl])
  | some x =>
    rw [hl] at hg
    by_cases hh : holdsV (some x) who = true
    · have hh2 : x.lk = true ∧ x.who = who := by
        unfold holdsV at hh
        simpa using hh
      by_cases hb : 4611686018427387904 ≤ t ∨ t ≤ x.st ∨ (vs.toList ≠ [] ∧ vh = false)
      · have he : instL L k who t vs vh = (2, L) := by unfold instL; rw [hl]; simp only; rw [if_pos hh, if_pos hb]
        rw [he]
        refine (install_bad_g s sb k x who t vw vs vh w h.st.st h.hsb hk hg hh2.1 hh2.2 ht hb).mono ?_
        rintro e w' ⟨rfl, hb⟩
        exact PP.same h hr (Nat.le_refl _) hb
      · have he : instL L k who t vs vh = (0, updL k ⟨t, false, !vh, vs, x.who⟩ L) := by unfold instL; rw [hl]; simp only; rw [if_pos hh, if_neg hb]
        rw [he]
        have hv : vh = true ∨ (vh = false ∧ vs = ⟨#[]⟩) := by
          cases vh with
          | true => exact .inl rfl
          | false =>
            refine .inr ⟨rfl, ?_⟩
            by_cases e : vs.toList = []
            · rw [ByteArray.toList_eq] at e
              apply ByteArray.ext
              apply Array.ext'
              exact e
            · exact absurd (.inr (.inr ⟨e, rfl⟩)) hb
        refine (install_g s sb k x who t vw vs vh w h.st.st h.hsb hk hg hh2.1 hh2.2 (by unfold Sm; omega) (by omega) hv hvs).mono ?_
        rintro e w' ⟨rfl, s', p⟩
        exact PP.step h p (hr.upd hl) (Nat.le_refl _)
    · exact hsame 0 (by rw [hg]; simpa using hh) (by unfold instL; rw [hl]; simp only; rw [if_neg hh])
theorem punlock (h : CM W w s sb rb room v M) (hr : SR s.g s.cnt L) (who : Int) (ka : Option Addr) (kc : Nat) (ks : List Ky) (hks : KsV W (fun _ => False) ka ks) (hl : ks.length ≤ 1000) (hcap : ks.length ≤ kc) (hc : s.c ≤ 1000000) :
    Calls Try.prog 27 #[.pointer (some ⟨sb, 0, none⟩), .int .i64 who, .slice ka ks.length kc] w (PP W w sb rb room v M (unlL L who ks).2 (s.c + ks.length) (.int .i64 (unlL L who ks).1)) := by
  have hksS : KsV w s.fp ka ks := fun e => by
    obtain ⟨b, off, e1, e2, _⟩ := hks e
    have hlt : b < W.heap.size := e2.lt
    exact ⟨b, off, e1, e2.of_block (h.st.bel.block b hlt), fun hf => by have := h.st.own b hf; omega⟩
  unfold unlL
  by_cases hy : unlockOk (lookL L) who ks ks.length
  · rw [if_pos hy]
    have hle : (unG s.g ks).2 ≤ ks.length := by
      have : ∀ (t : List Ky) (p : (Ky → Option Cl) × Nat), (t.foldl unStep p).2 ≤ p.2 + t.length := by
        intro t
        induction t with
        | nil => exact fun p => Nat.le_refl _
        | cons a t ih =>
          intro p
          have h1 := ih (unStep p a)
          have h2 : (unStep p a).2 ≤ p.2 + 1 := by
            unfold unStep
            split
            · omega
            · split <;> simp
          show (t.foldl unStep (unStep p a)).2 ≤ p.2 + (t.length + 1)
          omega
      have := this ks (s.g, 0)
      simpa [unG] using this
    refine (unlock_ok s sb kc who ka ks w h.st.st h.hsb hksS hl hcap (by rw [hr.g]; exact hy) (by omega)).mono ?_
    rintro e w' ⟨rfl, s', p⟩
    exact PP.step h p (hr.un ks) (by omega)
  · rw [if_neg hy]
    refine (unlock_stale s sb kc who ka ks w h.st.st h.hsb hksS hl hcap (by rw [hr.g]; exact hy)).mono ?_
    rintro e w' ⟨rfl, hb⟩
    exact PP.same h hr (by omega) hb
theorem pfree (h : CM W w s sb rb room v M) (hr : SR s.g s.cnt L) (ka : Option Addr) (kc : Nat) (ks : List Ky) (hks : KsV W (fun _ => False) ka ks) (hl : ks.length ≤ 1000) (hc : s.c ≤ 1000000) :
    Calls Try.prog 24 #[.pointer (some ⟨sb, 0, none⟩), .slice ka ks.length kc] w (PP W w sb rb room v M (frL (0, L) ks).2 (s.c + ks.length) (.int .i64 (frL (0, L) ks).1)) := by
  have hksS : KsV w s.fp ka ks := fun e => by
    obtain ⟨b, off, e1, e2, _⟩ := hks e
    have hlt : b < W.heap.size := e2.lt
    exact ⟨b, off, e1, e2.of_block (h.st.bel.block b hlt), fun hf => by have := h.st.own b hf; omega⟩
  obtain ⟨h1, h2⟩ := hr.free ks
  have h3 := (frL_le ks (0, L)).2
  rw [← h2] at h3 ⊢
  refine (free_list s sb kc ka ks w h.st.st h.hsb hksS hl (by omega)).mono ?_
  rintro e w' ⟨rfl, s', p⟩
  exact PP.step h p h1 (by simp at h3; omega)
theorem qlock (h : CM W w s sb rb room v M) (k : Ky) (who : Int) (hl : M.length < 1048576) :
    Calls Try.prog 92 #[.pointer (some ⟨rb, 0, none⟩), .agg #[.int .i64 k.kind, .int .i64 k.a, .int .i64 k.b, .string k.s], .int .i64 who] w (PR W w s sb rb room (lockL room M k who).2.2 (.tuple #[.int .u64 (lockL room M k who).1, .int .i64 (lockL room M k who).2.1])) := by
  refine (rlock_any rb W.heap.size room v M k who w h.ro h.st.bel.size hl).mono ?_
  rintro e w' ⟨rfl, p⟩
  exact PR.step h p
theorem qinst (h : CM W w s sb rb room v M) (k : Ky) (who : Int) (t : Nat) (vw : Int) (vs : ByteArray) (vh : Bool) :
    Calls Try.prog 94 #[.pointer (some ⟨rb, 0, none⟩), .agg #[.int .i64 k.kind, .int .i64 k.a, .int .i64 k.b, .string k.s], .int .i64 who, .int .u64 (t : Int), .agg #[.int .u64 vw, .string vs, .bool vh]] w (PR W w s sb rb room (instL M k who t vs vh).2 (.int .i64 (instL M k who t vs vh).1)) := by
  refine (rinst_any rb W.heap.size room v M k who t vw vs vh w h.ro).mono ?_
  rintro e w' ⟨rfl, p⟩
  exact PR.step h p
theorem qunlock (h : CM W w s sb rb room v M) (who : Int) (ka : Option Addr) (kc : Nat) (ks : List Ky) (hks : KsV W (fun _ => False) ka ks) (hl : ks.length ≤ 1000) :
    Calls Try.prog 93 #[.pointer (some ⟨rb, 0, none⟩), .int .i64 who, .slice ka ks.length kc] w (PR W w s sb rb room (unlL M who ks).2 (.int .i64 (unlL M who ks).1)) := by
  refine (runlock_any rb W.heap.size room v M who ka kc ks w h.ro h.st.bel.size h.hrb (fun e => ?_) hl).mono ?_
  · obtain ⟨b, off, e1, e2, _⟩ := hks e
    have hlt : b < W.heap.size := e2.lt
    exact ⟨b, off, e1, e2.of_block (h.st.bel.block b hlt), hlt⟩
  · rintro e w' ⟨rfl, p⟩
    exact PR.step h p
theorem qfree (h : CM W w s sb rb room v M) (k : Ky) :
    Calls Try.prog 96 #[.pointer (some ⟨rb, 0, none⟩), .agg #[.int .i64 k.kind, .int .i64 k.a, .int .i64 k.b, .string k.s]] w (PR W w s sb rb room (freeL M k).2 (.int .i64 (freeL M k).1)) := by
  refine (rfree_any rb W.heap.size room v M k w h.ro h.st.bel.size).mono ?_
  rintro e w' ⟨rfl, p⟩
  exact PR.step h p
end
end Go.Proofs.Ytaanohgkdpohhaa
