/- Install of what may not be; the plain law of CellActs: a store's cells and the reference's list. Conditions: each lemma's own premises. -/
import Derived.Test.YtaanohgkdpohhaaRc8
namespace Go.Proofs.Ytaanohgkdpohhaa
open Go.RowKit Go.Maps

set_option maxRecDepth 100000 in
set_option maxHeartbeats 2000000 in
theorem install_bad (s : Sto) (k : Ky) (x : Sl) (who : Int) (t : Nat) (vw : Int) (vs : ByteArray) (vh : Bool) (w : World) (h : StC w s) (hk : k.Ok) (hx : s.f k = some x) (hlk : x.lk = true) (hwho : x.who = who) (ht : t < 18446744073709551616) (hbad : 4611686018427387904 ≤ t ∨ t ≤ x.st ∨ (vs.toList ≠ [] ∧ vh = false)) :
    Calls Try.prog 19 #[.pointer (some ⟨s.sb, 0, none⟩), .agg #[.int .i64 k.kind, .int .i64 k.a, .int .i64 k.b, .string k.s], .int .i64 who, .int .u64 t, .agg #[.int .u64 vw, .string vs, .bool vh]] w fun e w' => e = .returned (.int .i64 2) ∧ Below w.heap.size w w' := by
  have hW := fun X Y => (h.alloc X).alloc Y
  have HH : Hid (s.holds k who = true) := Lib.hid (by unfold Sto.holds; rw [hx]; simp [hlk, hwho])
  have HX := Lib.hid hx
  have HT := Lib.hid ht
  have HL := Lib.hid hlk
  have HSm := Lib.hid (h.slot k x hx).2.1.st
  have HBAD := Lib.hid hbad
  clear hlk ht hx hbad
  go_enter Try.func19, Try.ntmps19
  go_wp2_with fail
  refine (holds_any s k who _ (hW _ _) hk).mono ?_
  rintro e w1 ⟨rfl, hb⟩
  rw [HH.out]
  have hS1 : StC w1 s := (hW _ _).stay hb
  obtain ⟨d0, d1, hl1, _⟩ := hS1.pre hk
  have lk : ∀ nq, (Instr.lookup 40 (.map (some s.mb)) (.agg #[.int .i64 k.kind, .int .i64 k.a, .int .i64 k.b, .string k.s]) false).run Try.prog (w1.drewN nq) = .ok (ptrOf (s.f k)) (w1.drewN nq) := fun nq => hS1.look hk rfl
  rw [HX.out] at lk
  simp only [ptrOf, Option.map_some, Option.getD_some, Sl.ptr] at lk
  have hK : w1.heap[w.heap.size]? = some (.cells #[.int .i64 k.kind, .int .i64 k.a, .int .i64 k.b, .string k.s] 32) := (hb.block _ (by simp; omega)).trans ((Below.heap_alloc _ _ _ (by simp)).trans (heap_new w _))
  have hV : w1.heap[w.heap.size + 1]? = some (.cells #[.int .u64 vw, .string vs, .bool vh] 36) := by
    have e := heap_new (w.alloc (.cells #[.int .i64 k.kind, .int .i64 k.a, .int .i64 k.b, .string k.s] 32)) (.cells #[.int .u64 vw, .string vs, .bool vh] 36)
    rw [size_alloc] at e
    exact (hb.block _ (by simp)).trans e
  have k0 := cell_of_blk hK 0
  have k1 := cell_of_blk hK 1
  have k2 := cell_of_blk hK 2
  have k3 := cell_of_blk hK 3
  have v1 := cell_of_blk hV 1
  have v2 := cell_of_blk hV 2
  simp at k0 k1 k2 k3 v1 v2
  obtain ⟨_, _, c2, c3, c4, hxl⟩ := hS1.cells HX.out
  rw [HL.out] at c2
  have hz1 : w.heap.size + 1 < w1.heap.size := (Array.getElem?_eq_some_iff.1 hV).1
  have HBW : Hid (Below w.heap.size w w1) := Lib.hid ((below_box2 w _ _ 0).trans (hb.mono (by simp; omega)))
  clear hK hV hb d0
  by_cases hs : t < 4611686018427387904
  · have HSt : Hid (Sm t) := Lib.hid hs
    have HB2 : Hid (t ≤ x.st ∨ (vs.toList ≠ [] ∧ vh = false)) := Lib.hid (HBAD.out.elim (fun h => absurd hs (by omega)) id)
    clear hs
    by_cases hst : t ≤ x.st
    · have t2 : decide (t ≤ x.st) = true := decide_eq_true hst
      have t2' : decide ((t : Int) ≤ (x.st : Int)) = true := decide_eq_true (by omega)
      clear hst
      go_wp2_with fail
      go_quiet (fail)
      go_wp2_with (go_at_call 80; (first | (refine (stamp_wd x.st true x.ab _ HSm.out).mono ?_; rintro e w' ⟨rfl, rfl⟩) | (refine (stamp_sm t _ HSt.out).mono ?_; rintro e w' ⟨rfl, rfl⟩)))
      all_goals go_ret
      all_goals exact ⟨rfl, below_drewN HBW.out _⟩
    · have t2 : decide (t ≤ x.st) = false := decide_eq_false hst
      have t2' : decide ((t : Int) ≤ (x.st : Int)) = false := decide_eq_false (by omega)
      obtain ⟨hv1, hv2⟩ := HB2.out.elim (fun h => absurd h hst) id
      have t3 : vs.toList.isEmpty = false := by simpa using hv1
      subst hv2
      clear hst hv1
      go_wp2_with fail
      go_quiet (fail)
      go_wp2_with (go_at_call 80; (first | (refine (stamp_wd x.st true x.ab _ HSm.out).mono ?_; rintro e w' ⟨rfl, rfl⟩) | (refine (stamp_sm t _ HSt.out).mono ?_; rintro e w' ⟨rfl, rfl⟩)))
      all_goals go_ret
      all_goals exact ⟨rfl, below_drewN HBW.out _⟩
  · obtain ⟨q, hq⟩ : ∃ q, q = t % 4611686018427387904 := ⟨_, rfl⟩
    have HQ := Lib.hid hq.symm
    have t1 : ((t : Int) == (q : Int)) = false := by
      have : (t : Int) ≠ (q : Int) := by omega
      simpa using this
    have t1' : (t == q) = false := by
      have : t ≠ q := by omega
      simpa using this
    have t1n : ((t : Int) != (q : Int)) = true := by rw [bne, t1]; rfl
    clear hs hq
    go_wp2_with fail
    go_quiet (fail)
    go_wp2_with (go_at_call 80; (first | (refine (stamp_num t _ HT.out).mono ?_; rintro e w' ⟨rfl, rfl⟩; rw [HQ.out])))
    all_goals go_ret
    all_goals exact ⟨rfl, below_drewN HBW.out _⟩
theorem install_bad_g (s : Sto) (b : Nat) (k : Ky) (x : Cl) (who : Int) (t : Nat) (vw : Int) (vs : ByteArray) (vh : Bool) (w : World) (h : StC w s) (hb : s.sb = b) (hk : k.Ok) (hg : s.g k = some x) (hlk : x.lk = true) (hwho : x.who = who) (ht : t < 18446744073709551616) (hbad : 4611686018427387904 ≤ t ∨ t ≤ x.st ∨ (vs.toList ≠ [] ∧ vh = false)) :
    Calls Try.prog 19 #[.pointer (some ⟨b, 0, none⟩), .agg #[.int .i64 k.kind, .int .i64 k.a, .int .i64 k.b, .string k.s], .int .i64 who, .int .u64 t, .agg #[.int .u64 vw, .string vs, .bool vh]] w fun e w' => e = .returned (.int .i64 2) ∧ Below w.heap.size w w' := by
  subst hb
  obtain ⟨y, hy, rfl⟩ := Sto.g_some hg
  exact install_bad s k y who t vw vs vh w h hk hy hlk hwho ht hbad

/-! the reference's list -/
theorem fst_upd {k : Ky} {y : Cl} : ∀ L : List (Ky × Cl), (updL k y L).map (·.1) = L.map (·.1)
  | [] => rfl
  | (k', x) :: t => by
    unfold updL
    split
    · rfl
    · simp [fst_upd t]
theorem len_upd {k : Ky} {y : Cl} (L : List (Ky × Cl)) : (updL k y L).length = L.length := by
  have := congrArg List.length (fst_upd (k := k) (y := y) L)
  simpa using this
theorem sub_del {k : Ky} : ∀ L : List (Ky × Cl), (delL k L).Sublist L
  | [] => List.Sublist.refl _
  | (k', x) :: t => by
    unfold delL
    split
    · exact List.sublist_cons_self _ _
    · exact (sub_del t).cons_cons _
theorem len_del {k : Ky} {x : Cl} : ∀ {L : List (Ky × Cl)}, lookL L k = some x → (delL k L).length + 1 = L.length
  | [], h => by simp [lookL] at h
  | (k', x') :: t, h => by
    unfold lookL at h
    unfold delL
    split at h
    · rename_i e; rw [if_pos e]; rfl
    · rename_i e; rw [if_neg e]; simp [len_del (L := t) h]
theorem look_mem {k : Ky} {x : Cl} : ∀ {L : List (Ky × Cl)}, lookL L k = some x → (k, x) ∈ L
  | [], h => by simp [lookL] at h
  | (k', x') :: t, h => by
    unfold lookL at h
    split at h
    · rename_i e
      have := (Ky.eqB_iff _ _).1 e
      subst this
      cases h
      exact List.mem_cons_self
    · exact List.mem_cons_of_mem _ (look_mem h)
theorem mem_look {k : Ky} {x : Cl} : ∀ {L : List (Ky × Cl)}, (L.map (·.1)).Nodup → (k, x) ∈ L → lookL L k = some x
  | [], _, h => by cases h
  | (k', x') :: t, hn, h => by
    rw [List.map_cons] at hn
    have hn2 := List.nodup_cons.1 hn
    unfold lookL
    rcases List.mem_cons.1 h with e | e
    · cases e
      rw [if_pos (Ky.eqB_true rfl)]
    · by_cases ek : k = k'
      · subst ek
        exact absurd (List.mem_map.2 ⟨(k, x), e, rfl⟩) hn2.1
      · rw [if_neg (by rw [Ky.eqB_false ek]; decide)]
        exact mem_look hn2.2 e
theorem look_not {k : Ky} {L : List (Ky × Cl)} (h : k ∉ L.map (·.1)) : lookL L k = none := by
  cases hl : lookL L k with
  | none => rfl
  | some x => exact absurd (List.mem_map.2 ⟨(k, x), look_mem hl, rfl⟩) h
theorem del_none {k : Ky} : ∀ {L : List (Ky × Cl)}, (L.map (·.1)).Nodup → lookL (delL k L) k = none
  | [], _ => rfl
  | (k', x') :: t, hn => by
    rw [List.map_cons] at hn
    have hn2 := List.nodup_cons.1 hn
    unfold delL
    by_cases ek : k = k'
    · subst ek
      rw [if_pos (Ky.eqB_true rfl)]
      exact look_not hn2.1
    · rw [if_neg (by rw [Ky.eqB_false ek]; decide)]
      unfold lookL
      rw [if_neg (by rw [Ky.eqB_false ek]; decide)]
      exact del_none hn2.2
theorem look_app {k k' : Ky} {y : Cl} : ∀ {L : List (Ky × Cl)}, lookL (L ++ [(k, y)]) k' = match lookL L k' with | some x => some x | none => if k'.eqB k then some y else none
  | [] => by simp [lookL]
  | (k1, x1) :: t => by
    simp only [List.cons_append]
    unfold lookL
    split
    · rfl
    · exact look_app
/-- a store's cells and the reference's list say the same -/
structure SR (g : Ky → Option Cl) (cnt : Nat) (L : List (Ky × Cl)) : Prop where
  g : g = lookL L
  cnt : cnt = L.length
  nd : (L.map (·.1)).Nodup
section
variable {g : Ky → Option Cl} {cnt : Nat} {L : List (Ky × Cl)} {k : Ky} {x y : Cl}
theorem SR.app (h : SR g cnt L) (hk : lookL L k = none) : SR (setG g k (some y)) (cnt + 1) (L ++ [(k, y)]) := by
  refine ⟨?_, by rw [h.cnt]; simp, ?_⟩
  · funext k'
    rw [look_app]
    by_cases e : k' = k
    · subst e
      rw [setG_same, hk]
      simp [Ky.eqB_true rfl]
    · rw [setG_other _ _ e, h.g]
      cases hl : lookL L k' <;> simp [Ky.eqB_false e]
  · rw [List.map_append, List.nodup_append]
    refine ⟨h.nd, by simp, fun a ha b hb => ?_⟩
    simp at hb
    subst hb
    intro e
    subst e
    obtain ⟨q, hq, e⟩ := List.mem_map.1 ha
    exact lookL_out hk q hq e
theorem SR.upd (h : SR g cnt L) (hk : lookL L k = some x) : SR (setG g k (some y)) cnt (updL k y L) := by
  refine ⟨?_, by rw [h.cnt, len_upd], by rw [fst_upd]; exact h.nd⟩
  funext k'
  by_cases e : k' = k
  · subst e
    rw [setG_same, look_upd_eq, hk]
    rfl
  · rw [setG_other _ _ e, look_upd_ne e, h.g]
theorem SR.del (h : SR g cnt L) (hk : lookL L k = some x) : SR (setG g k none) (cnt - 1) (delL k L) := by
  refine ⟨?_, by have := len_del hk; rw [h.cnt]; omega, ((sub_del L).map _).nodup h.nd⟩
  funext k'
  by_cases e : k' = k
  · subst e
    rw [setG_same, del_none h.nd]
  · rw [setG_other _ _ e, look_del e, h.g]
theorem SR.unStep {p : (Ky → Option Cl) × Nat} (h : SR p.1 (cnt - p.2) L) (k : Ky) : SR (unStep p k).1 (cnt - (unStep p k).2) (unStepL L k) := by
  unfold Go.Proofs.Ytaanohgkdpohhaa.unStep unStepL
  rw [h.g]
  cases hl : lookL L k with
  | none => rw [← h.g]; exact h
  | some x =>
    rw [← h.g]
    simp only
    by_cases e : x.st = 0
    · rw [if_pos e, if_pos e]
      have := h.del hl
      rw [Nat.sub_sub] at this
      exact this
    · rw [if_neg e, if_neg e]
      exact h.upd hl
theorem SR.un' : ∀ (ks : List Ky) {p : (Ky → Option Cl) × Nat} {L : List (Ky × Cl)}, SR p.1 (cnt - p.2) L → SR (ks.foldl Go.Proofs.Ytaanohgkdpohhaa.unStep p).1 (cnt - (ks.foldl Go.Proofs.Ytaanohgkdpohhaa.unStep p).2) (ks.foldl unStepL L)
  | [], _, _, h => h
  | k :: t, _, _, h => SR.un' t (h.unStep k)
theorem SR.un (h : SR g cnt L) (ks : List Ky) : SR (unG g ks).1 (cnt - (unG g ks).2) (unL L ks) := SR.un' ks (p := (g, 0)) h
/-- Free of keys, one by one -/
def frL (p : Int × List (Ky × Cl)) (ks : List Ky) : Int × List (Ky × Cl) := ks.foldl (fun p k => (p.1 + (freeL p.2 k).1, (freeL p.2 k).2)) p
theorem frL_snoc (p : Int × List (Ky × Cl)) (ks : List Ky) (k : Ky) : frL p (ks ++ [k]) = ((frL p ks).1 + (freeL (frL p ks).2 k).1, (freeL (frL p ks).2 k).2) := by unfold frL; rw [List.foldl_append]; rfl
theorem SR.freeStep {p : (Ky → Option Cl) × Nat} (h : SR p.1 (cnt - p.2) L) (k : Ky) : SR (freeStep p k).1 (cnt - (freeStep p k).2) (freeL L k).2 ∧ ((freeStep p k).2 : Int) = p.2 + (freeL L k).1 := by
  unfold Go.Proofs.Ytaanohgkdpohhaa.freeStep freeL
  rw [h.g]
  cases hl : lookL L k with
  | none => rw [← h.g]; exact ⟨h, by simp⟩
  | some x =>
    rw [← h.g]
    simp only
    cases ha : x.ab <;> cases hk : x.lk
    · simpa using h
    · simpa using h
    · have := h.del hl
      rw [Nat.sub_sub] at this
      simpa using this
    · simpa using h
theorem SR.free' : ∀ (ks : List Ky) {p : (Ky → Option Cl) × Nat} {q : Int × List (Ky × Cl)}, SR p.1 (cnt - p.2) q.2 → (p.2 : Int) = q.1 → SR (ks.foldl Go.Proofs.Ytaanohgkdpohhaa.freeStep p).1 (cnt - (ks.foldl Go.Proofs.Ytaanohgkdpohhaa.freeStep p).2) (frL q ks).2 ∧ ((ks.foldl Go.Proofs.Ytaanohgkdpohhaa.freeStep p).2 : Int) = (frL q ks).1
  | [], _, _, h, e => ⟨h, e⟩
  | k :: t, p, q, h, e => by
    obtain ⟨h1, h2⟩ := h.freeStep k
    exact SR.free' t (q := (q.1 + (freeL q.2 k).1, (freeL q.2 k).2)) h1 (by rw [h2, e])
theorem SR.free (h : SR g cnt L) (ks : List Ky) : SR (freeG g ks).1 (cnt - (freeG g ks).2) (frL (0, L) ks).2 ∧ ((freeG g ks).2 : Int) = (frL (0, L) ks).1 := SR.free' ks (p := (g, 0)) (q := (0, L)) h rfl
theorem len_unL : ∀ (ks : List Ky) (L : List (Ky × Cl)), (unL L ks).length ≤ L.length := by
  intro ks
  induction ks with
  | nil => exact fun _ => Nat.le_refl _
  | cons k t ih =>
    intro L
    refine Nat.le_trans (ih (unStepL L k)) ?_
    unfold unStepL
    split
    · exact Nat.le_refl _
    · split
      · exact (sub_del L).length_le
      · rw [len_upd]; exact Nat.le_refl _
theorem len_freeL (L : List (Ky × Cl)) (k : Ky) : (freeL L k).2.length ≤ L.length := by
  unfold freeL
  split
  · exact Nat.le_refl _
  · split
    · exact Nat.le_refl _
    · exact (sub_del L).length_le
theorem len_frL : ∀ (ks : List Ky) (p : Int × List (Ky × Cl)), (frL p ks).2.length ≤ p.2.length := by
  intro ks
  induction ks with
  | nil => exact fun _ => Nat.le_refl _
  | cons k t ih => exact fun p => Nat.le_trans (ih _) (len_freeL p.2 k)
theorem frL_le : ∀ (ks : List Ky) (p : Int × List (Ky × Cl)), p.1 ≤ (frL p ks).1 ∧ (frL p ks).1 ≤ p.1 + ks.length := by
  intro ks
  induction ks with
  | nil => exact fun p => ⟨Int.le_refl _, by simp [frL]⟩
  | cons k t ih =>
    intro p
    have h1 : 0 ≤ (freeL p.2 k).1 ∧ (freeL p.2 k).1 ≤ 1 := by
      unfold freeL
      split
      · simp
      · split <;> simp
    have := ih (p.1 + (freeL p.2 k).1, (freeL p.2 k).2)
    show p.1 ≤ (frL (p.1 + (freeL p.2 k).1, (freeL p.2 k).2) t).1 ∧ (frL (p.1 + (freeL p.2 k).1, (freeL p.2 k).2) t).1 ≤ p.1 + ((t.length + 1 : Nat) : Int)
    simp only at this
    omega
/-- keys in order: the store's and the reference's -/
theorem SR.keys (h : SR g cnt L) {p : Cl → Bool} {ks : List Ky} (hs : KySorted ks) (hm : ∀ k, k ∈ ks ↔ ∃ c, g k = some c ∧ p c = true) : ks = keysL p L := by
  refine KySorted.uniq hs (sorted_keysL p L h.nd) (fun k => ?_)
  rw [hm, mem_keysL, h.g]
  constructor
  · rintro ⟨c, hc, hp⟩
    exact ⟨(k, c), look_mem hc, rfl, hp⟩
  · rintro ⟨⟨k', c⟩, hq, rfl, hp⟩
    exact ⟨c, mem_look h.nd hq, hp⟩
end
end Go.Proofs.Ytaanohgkdpohhaa
