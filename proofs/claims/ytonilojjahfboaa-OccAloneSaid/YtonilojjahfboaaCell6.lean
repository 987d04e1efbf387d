/- The store of package cell: drop. Conditions: each contract's own premises. -/
import Derived.Test.YtonilojjahfboaaCeA
namespace Go.Proofs.Ytonilojjahfboaa
open Go.RowKit Go.Maps

/-- the store without the cell of a key -/
noncomputable def Sto.less (s : Sto) (k : Ky) (x : Sl) (v : Value) : Sto := { s with v := v, ar := s.ar.put x.hs, c := s.c + 1, f := setF s.f k none }
def DropPost (w : World) (s : Sto) (k : Ky) (x : Sl) (e : Ending) (w' : World) : Prop :=
  ∃ v' : Value, StPost w s (s.less k x v') (.tuple #[]) e w'

theorem Ar.live_put {s : Ar} {x y g : Int} (hl : s.live y g = true) (hne : y ≠ x) : (s.put x).live y g = true := by
  unfold Ar.live at hl ⊢
  rw [Ar.taken_put]
  simp only [Bool.and_eq_true] at hl
  simp [hl.1, hne, Ar.put]
  simpa using hl.2

theorem drop_close {w W0 w1 u1 w2 : World} {s : Sto} (h : StC w s) {k : Ky} (hk : k.Ok) {x : Sl} (hx : s.f k = some x) {v1 : Value}
    (hW0 : Below w.heap.size w W0) (hA1 : ArC w1 s.ab s.bg s.bt v1 (s.ar.put x.hs) (s.c + 1)) (hc1 : Chg W0 w1 (arFp s.ab s.bg s.bt s.v)) (ho1 : ∀ i, v1.ownBlock = some i → s.v.ownBlock = some i ∨ W0.heap.size ≤ i)
    {n n' : Nat} {gm : Lit → Option Value} (hn : n + s.ar.free.length = s.ar.fresh) (hg : ∀ k, k.Ok → gm k.lit = (s.f k).map Sl.ptr)
    (hu : u1.heap = w1.heap) (hcu : Chg w1 u1 (fun _ => False)) (hn' : n' + (if (gm k.lit).isSome then 1 else 0) = n) (m2 : mapR w2 Try.prog 35 s.mb n' (upd gm k.lit none)) (t2 : u1.mapTurned w2 s.mb) :
    DropPost w s k x (.returned (.tuple #[])) w2 := by
  have hz0 := hW0.size
  have hz1 := hc1.size
  have lM := h.ltM
  have lS := h.ltS
  have old1 : ∀ i, i < w.heap.size → ¬ arFp s.ab s.bg s.bt s.v i → w1.heap[i]? = w.heap[i]? := fun i hi hn => by
    rw [hc1.block i (by omega) hn]
    exact hW0.block i hi
  have old2 : ∀ i, i < w.heap.size → i ≠ s.mb → ¬ arFp s.ab s.bg s.bt s.v i → w2.heap[i]? = w.heap[i]? := fun i hi hm hn => by
    rw [turned_block t2 hm, hu, old1 i hi hn]
  have nM1 : ¬ arFp s.ab s.bg s.bt v1 s.mb := by
    rintro (e | e | e | e)
    · exact h.neM (.inl e)
    · exact h.neM (.inr (.inl e))
    · exact h.neM (.inr (.inr (.inl e)))
    · rcases ho1 _ e with e' | e'
      · exact h.neM (.inr (.inr (.inr e')))
      · omega
  have hgk : (gm k.lit).isSome = true := by rw [hg k hk, hx]; rfl
  have hlive := (h.slot k x hx).2.2.2
  have htk : s.ar.taken x.hs = true := by unfold Ar.live at hlive; simp only [Bool.and_eq_true] at hlive; exact hlive.1
  rw [hgk] at hn'
  simp at hn'
  refine ⟨v1, rfl, ⟨?_, ?_, ?_, ?_, ?_, h.ne⟩, ?_, ?_⟩
  · exact (old2 _ lS h.neS.1 h.neS.2).trans h.blk
  · exact hA1.keep (fun i hi => by rw [turned_block t2 (fun e => nM1 (e ▸ hi)), hu])
  · refine ⟨n', _, m2, ?_, fun y hy => ?_⟩
    · show n' + (s.ar.free ++ [x.hs]).length = s.ar.fresh
      simp; omega
    · unfold upd
      by_cases e : y = k
      · subst e; simp [Sto.less, setF_same]
      · rw [if_neg (fun e' => e (lit_inj hy hk e')), hg y hy]; simp [Sto.less, setF_other _ _ e]
  · intro y z hz
    by_cases e : y = k
    · subst e
      simp [Sto.less, setF_same] at hz
    · simp only [Sto.less, setF_other _ _ e] at hz
      have hs := h.slot y z hz
      have hn := h.neXS hz
      exact ⟨hs.1, hs.2.1, (old2 _ (h.ltX hz) hn.2.1 hn.2.2).trans hs.2.2.1, Ar.live_put hs.2.2.2 (h.apart _ _ _ _ hz hx e).2⟩
  · intro y y' z z' hz hz' hne
    by_cases e : y = k
    · subst e
      simp [Sto.less, setF_same] at hz
    · simp only [Sto.less, setF_other _ _ e] at hz
      by_cases e' : y' = k
      · subst e'
        simp [Sto.less, setF_same] at hz'
      · simp only [Sto.less, setF_other _ _ e'] at hz'
        exact h.apart _ _ _ _ hz hz' hne
  · have c1 : Chg w w1 s.fp := (Chg.of_below hW0 s.fp).trans hc1 (fun i _ hi => .inr (.inr (.inl hi)))
    exact (c1.trans hcu (fun _ _ e => e.elim)).turned t2 (fun _ => .inr (.inl rfl))
  · rintro i (e | e | (e | e | e | e) | ⟨y, z, hz, e⟩)
    · exact .inl (.inl e)
    · exact .inl (.inr (.inl e))
    · exact .inl (.inr (.inr (.inl (.inl e))))
    · exact .inl (.inr (.inr (.inl (.inr (.inl e)))))
    · exact .inl (.inr (.inr (.inl (.inr (.inr (.inl e))))))
    · rcases ho1 i e with e' | e'
      · exact .inl (.inr (.inr (.inl (.inr (.inr (.inr e'))))))
      · right; omega
    · by_cases ey : y = k
      · subst ey
        simp [Sto.less, setF_same] at hz
      · simp only [Sto.less, setF_other _ _ ey] at hz
        exact .inl (.inr (.inr (.inr ⟨y, z, hz, e⟩)))

theorem StC.i64 {w : World} {s : Sto} (h : StC w s) {k : Ky} {x : Sl} (hx : s.f k = some x) : I64 x.hs ∧ I64 x.hg ∧ s.ar.live x.hs x.hg = true := by
  have hl := (h.slot k x hx).2.2.2
  have hl' := hl
  unfold Ar.live at hl'
  simp only [Bool.and_eq_true, beq_iff_eq] at hl'
  have hg := h.ar.ok.gens x.hs
  have := h.ar.ok.cnt
  refine ⟨h.ar.ok.i64 hl'.1, ?_, hl⟩
  rw [← hl'.2]
  unfold I64
  omega

set_option maxRecDepth 100000 in
set_option maxHeartbeats 400000 in
theorem drop_any (s : Sto) (k : Ky) (x : Sl) (w : World) (h : StC w s) (hk : k.Ok) (hx : s.f k = some x) (hcn : s.c + 1 ≤ 1099511627776) :
    Calls Try.prog 85 #[.pointer (some ⟨s.sb, 0, none⟩), .agg #[.int .i64 k.kind, .int .i64 k.a, .int .i64 k.b, .string k.s]] w (DropPost w s k x) := by
  obtain ⟨c0, c1, hl, _⟩ := h.pre hk
  have lk : (Instr.lookup 59 (.map (some s.mb)) (.agg #[.int .i64 k.kind, .int .i64 k.a, .int .i64 k.b, .string k.s]) false).run Try.prog (w.alloc (.cells #[.int .i64 k.kind, .int .i64 k.a, .int .i64 k.b, .string k.s] 35)).drew = .ok (ptrOf (s.f k)) (w.alloc (.cells #[.int .i64 k.kind, .int .i64 k.a, .int .i64 k.b, .string k.s] 35)).drew := h.look hk (Below.heap_alloc w _ _ h.ltM)
  rw [hx] at lk
  simp only [ptrOf, Option.map_some, Option.getD_some, Sl.ptr] at lk
  obtain ⟨x0, x1, _, _, _, hxl⟩ := h.cells hx
  obtain ⟨i1, i2, hlive⟩ := h.i64 hx
  have HX := Lib.hid hx
  have HV := Lib.hid hlive
  have HC := Lib.hid hcn
  clear hx hlive hcn
  obtain ⟨K, hK⟩ : ∃ K, K = Obj.cells #[.int .i64 k.kind, .int .i64 k.a, .int .i64 k.b, .string k.s] 35 := ⟨_, rfl⟩
  obtain ⟨H, hH⟩ : ∃ H, H = Obj.cells #[.int .i64 x.hs, .int .i64 x.hg] 93 := ⟨_, rfl⟩
  have hW : ∀ u : World, u.heap = ((w.alloc K).alloc H).heap → ArC u s.ab s.bg s.bt s.v s.ar s.c ∧ u.heap[w.heap.size + 1]? = some H ∧ ¬ arFp s.ab s.bg s.bt s.v (w.heap.size + 1) := fun u hu => by
    refine ⟨((h.ar.alloc K).alloc H).keep (fun i _ => by rw [hu]), ?_, fun e => by have := h.ar.lt e; omega⟩
    have := heap_new (w.alloc K) H
    rw [size_alloc] at this
    rw [hu]; exact this
  have ks : ∀ w' : World, (∀ i, i < w.heap.size + 1 → ¬ arFp s.ab s.bg s.bt s.v i → w'.heap[i]? = (w.alloc K).heap[i]?) → w'.cell? ⟨s.sb, 0, none⟩ = some (.pointer (some ⟨s.ab, 0, none⟩)) ∧ w'.cell? ⟨s.sb, 1, none⟩ = some (.map (some s.mb)) ∧ w'.cell? ⟨w.heap.size, 0, none⟩ = some (.int .i64 k.kind) ∧ w'.cell? ⟨w.heap.size, 1, none⟩ = some (.int .i64 k.a) ∧ w'.cell? ⟨w.heap.size, 2, none⟩ = some (.int .i64 k.b) ∧ w'.cell? ⟨w.heap.size, 3, none⟩ = some (.string k.s) ∧ w'.cell? ⟨x.ad, 0, none⟩ = some (.int .i64 x.hs) ∧ w'.cell? ⟨x.ad, 1, none⟩ = some (.int .i64 x.hg) ∧ (Instr.lookup 59 (.map (some s.mb)) (.agg #[.int .i64 k.kind, .int .i64 k.a, .int .i64 k.b, .string k.s]) false).run Try.prog w' = .ok (.pointer (some ⟨x.ad, 0, none⟩)) w' := by
    intro w' hb
    have eS : w'.heap[s.sb]? = _ := (hb _ (by omega) h.neS.2).trans ((Below.heap_alloc w K _ h.ltS).trans h.blk)
    have eK : w'.heap[w.heap.size]? = some K := (hb _ (by omega) (fun e => by have := h.ar.lt e; omega)).trans (heap_new w K)
    have eX := (hb _ (by omega) (h.neXS HX.out).2.2).trans ((Below.heap_alloc w K _ hxl).trans (h.slot k x HX.out).2.2.1)
    have eM := (hb _ (by have := h.ltM; omega) h.neM).trans (Below.heap_alloc w K _ h.ltM)
    have lk := h.look hk eM
    rw [HX.out] at lk
    rw [hK] at eK
    exact ⟨by rw [cell_of_blk eS]; rfl, by rw [cell_of_blk eS]; rfl, by rw [cell_of_blk eK]; rfl, by rw [cell_of_blk eK]; rfl, by rw [cell_of_blk eK]; rfl, by rw [cell_of_blk eK]; rfl, by rw [cell_of_blk eX]; rfl, by rw [cell_of_blk eX]; rfl, lk⟩
  have k0 : ∀ u : World, u.heap = (w.alloc K).heap → ∀ i, i < w.heap.size + 1 → ¬ arFp s.ab s.bg s.bt s.v i → u.heap[i]? = (w.alloc K).heap[i]? := fun u hu i _ _ => by rw [hu]
  have k1 : ∀ u : World, u.heap = ((w.alloc K).alloc H).heap → ∀ i, i < w.heap.size + 1 → ¬ arFp s.ab s.bg s.bt s.v i → u.heap[i]? = (w.alloc K).heap[i]? := fun u hu i hi _ => by rw [hu]; exact Below.heap_alloc (w.alloc K) H i (by rw [size_alloc]; exact hi)
  have k2 : ∀ u w1 : World, u.heap = ((w.alloc K).alloc H).heap → Chg u w1 (arFp s.ab s.bg s.bt s.v) → ∀ i, i < w.heap.size + 1 → ¬ arFp s.ab s.bg s.bt s.v i → w1.heap[i]? = (w.alloc K).heap[i]? := fun u w1 hu hc i hi hn => by
    rw [hc.block i (by rw [hu, size_alloc, size_alloc]; omega) hn]; exact k1 u hu i hi hn
  rw [hK] at ks k0 k1 k2
  rw [hH] at k1 k2
  rw [hK, hH] at hW
  have HW := Lib.hid hW
  have KS := Lib.hid ks
  have Q0 := Lib.hid k0
  have Q1 := Lib.hid k1
  have Q2 := Lib.hid k2
  clear hW hH hK ks k0 k1 k2 lk c0 c1 x0 x1
  go_enter Try.func85, Try.ntmps85
  go_wp2_with fail
  go_region_held3 (fun w' => w'.cell? ⟨s.sb, 0, none⟩ = some (.pointer (some ⟨s.ab, 0, none⟩)) ∧ w'.cell? ⟨s.sb, 1, none⟩ = some (.map (some s.mb)) ∧ w'.cell? ⟨w.heap.size, 0, none⟩ = some (.int .i64 k.kind) ∧ w'.cell? ⟨w.heap.size, 1, none⟩ = some (.int .i64 k.a) ∧ w'.cell? ⟨w.heap.size, 2, none⟩ = some (.int .i64 k.b) ∧ w'.cell? ⟨w.heap.size, 3, none⟩ = some (.string k.s) ∧ w'.cell? ⟨x.ad, 0, none⟩ = some (.int .i64 x.hs) ∧ w'.cell? ⟨x.ad, 1, none⟩ = some (.int .i64 x.hg) ∧ (Instr.lookup 59 (.map (some s.mb)) (.agg #[.int .i64 k.kind, .int .i64 k.a, .int .i64 k.b, .string k.s]) false).run Try.prog w' = .ok (.pointer (some ⟨x.ad, 0, none⟩)) w')
    (first | (refine KS.out _ (Q0.out _ ?_); rfl) | (refine KS.out _ (Q1.out _ ?_); rfl) | (refine KS.out _ (Q2.out _ _ ?_ hc1); rfl))
    ((go_at_call 92; (with_reducible refine (free_one s.ab s.bg s.bt (w.heap.size + 1) 1 s.v s.ar s.c x.hs x.hg 93 (0, 0) _ ?hArc ?hBlk i1 i2 ?hOut HC.out).mono ?_); (case hArc => (refine (HW.out _ ?_).1; rfl)); (case hBlk => (refine (HW.out _ ?_).2.1; rfl)); (case hOut => exact (HW.out _ rfl).2.2); rintro e w1 ⟨rfl, v1, hA1, hc1, ho1⟩))
  go_split_ands
  obtain ⟨n, gm, m0, hn, hg⟩ := h.map
  have eM : w1.heap[s.mb]? = w.heap[s.mb]? := ((fun hu => Q2.out _ w1 hu hc1) rfl s.mb (by have := h.ltM; omega) h.neM).trans (Below.heap_alloc w _ _ h.ltM)
  have m1 : mapR w1 Try.prog 35 s.mb n gm := m0.of_block eM
  have HN := Lib.hid hn
  have HG := Lib.hid hg
  have HD : Hid (s.ar.drop1 x.hs x.hg = s.ar.put x.hs) := Lib.hid (by unfold Ar.drop1; rw [HV.out]; rfl)
  clear hn hg eM m0
  go_wp2_with fail
  refine wp_region_still_tail 5 (by kernel_rfl) (by kernel_rfl) ?_
  change wpStill _ _ (World.drew _) (fun a' => wpList _ _ _ _ a' (World.drew _)) _ _
  simp only [List.take_succ_cons, List.take_zero, List.drop_succ_cons, List.drop_zero]
  repeat still_step
  refine wpStill_nil ?_
  go_wp2_with (at_delete; refine wpList_drop _ rfl _ _ 59 35 rfl 90 lawKey Try.underlying59 s.mb n gm rfl (m1.of_block rfl) _ _ rfl (keyK hk) ?_; intro w2 n' hn' m2 t2 d2 f2 z2)
  go_end0
  rw [HD.out] at hA1
  refine drop_close h hk HX.out ?_ hA1 hc1 ho1 HN.out HG.out ?_ ?_ hn' m2 t2
  · exact (((Below.refl _ _).alloc (Nat.le_refl _) _).alloc (by simp) _).drew
  · rfl
  · exact (Chg.refl _ _).drew
end Go.Proofs.Ytonilojjahfboaa
