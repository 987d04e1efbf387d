/- The store of package cell: drop. Conditions: each contract's own premises. The store of package cell: Free of keys. Conditions: each contract's own premises. The order of keys: cell.Order and what it calls. Conditions: each contract's own premises. The order of keys is an order: plain facts. No program here beyond the plain keys. awake (layer 9): it returns true. No condition. Keys, and what was seen, of an argument in memory. Conditions: each lemma's own premises. Are two keys one? Conditions: none. Keys in a slice: slices.Index, slices.Contains. Conditions: each contract's own premises. The store of package cell: Unlock. Conditions: each contract's own premises. The store of package cell: Unlock of cells that one holds. Conditions: each contract's own premises. The store of package cell: which, Held, Keys. Conditions: each contract's own premises. The store of package cell: Handle, Look. Conditions: each contract's own premises. -/
import Derived.Test.YtkhkdedjffkhdaaGreatCeA
import Derived.Test.YtkhkdedjffkhdaaGreatKyA
import Derived.Lib.Bytealg
import Derived.LoopTactic
import Derived.Test.YtkhkdedjffkhdaaGreatKyBase
import Derived.Test.YtkhkdedjffkhdaaGreatBsA
import Derived.Test.YtkhkdedjffkhdaaGreatArA
import Derived.Deep.RegionHeld3
import Derived.Test.YtkhkdedjffkhdaaGreatKq5
import Derived.Maps.RangeWalk
namespace Go.Proofs.YtkhkdedjffkhdaaGreat
open Go.RowKit Go.Maps

/-- the store without the cell of a key -/
noncomputable def Sto.less (s : Sto) (k : Ky) (x : Sl) (v : Value) : Sto := { s with v := v, ar := s.ar.put x.hs, c := s.c + 1, f := setF s.f k none }
def DropPost (w : World) (s : Sto) (k : Ky) (x : Sl) (e : Ending) (w' : World) : Prop :=
  ∃ v' : Value, StPost w s (s.less k x v') (.tuple #[]) e w'

theorem Ar.live_put {s : Ar} {x y g : Int} (hl : s.live y g = true) (hne : y ≠ x) : (s.put x).live y g = true := by
  unfold Ar.live at hl ⊢
  rw [Ar.taken_put]
  simp only [Bool.and_eq_true] at hl
  simp [hl.1, hne, Ar.put]
  simpa using hl.2

theorem drop_close {w W0 w1 u1 w2 : World} {s : Sto} (h : StC w s) {k : Ky} (hk : k.Ok) {x : Sl} (hx : s.f k = some x) {v1 : Value}
    (hW0 : Below w.heap.size w W0) (hA1 : ArC w1 s.ab s.bg s.bt v1 (s.ar.put x.hs) (s.c + 1)) (hc1 : Chg W0 w1 (arFp s.ab s.bg s.bt s.v)) (ho1 : ∀ i, v1.ownBlock = some i → s.v.ownBlock = some i ∨ W0.heap.size ≤ i)
    {n n' : Nat} {gm : Lit → Option Value} (hn : n + s.ar.free.length = s.ar.fresh) (hg : ∀ k, k.Ok → gm k.lit = (s.f k).map Sl.ptr)
    (hu : u1.heap = w1.heap) (hcu : Chg w1 u1 (fun _ => False)) (hn' : n' + (if (gm k.lit).isSome then 1 else 0) = n) (m2 : mapR w2 Tryz.prog 47 s.mb n' (upd gm k.lit none)) (t2 : u1.mapTurned w2 s.mb) :
    DropPost w s k x (.returned (.tuple #[])) w2 := by
  have hz0 := hW0.size
  have hz1 := hc1.size
  have lM := h.ltM
  have lS := h.ltS
  have old1 : ∀ i, i < w.heap.size → ¬ arFp s.ab s.bg s.bt s.v i → w1.heap[i]? = w.heap[i]? := fun i hi hn => by
    rw [hc1.block i (by omega) hn]
    exact hW0.block i hi
  have old2 : ∀ i, i < w.heap.size → i ≠ s.mb → ¬ arFp s.ab s.bg s.bt s.v i → w2.heap[i]? = w.heap[i]? := fun i hi hm hn => by
    rw [turned_block t2 hm, hu, old1 i hi hn]
  have nM1 : ¬ arFp s.ab s.bg s.bt v1 s.mb := by
    rintro (e | e | e | e)
    · exact h.neM (.inl e)
    · exact h.neM (.inr (.inl e))
    · exact h.neM (.inr (.inr (.inl e)))
    · rcases ho1 _ e with e' | e'
      · exact h.neM (.inr (.inr (.inr e')))
      · omega
  have hgk : (gm k.lit).isSome = true := by rw [hg k hk, hx]; rfl
  have hlive := (h.slot k x hx).2.2.2
  have htk : s.ar.taken x.hs = true := by unfold Ar.live at hlive; simp only [Bool.and_eq_true] at hlive; exact hlive.1
  rw [hgk] at hn'
  simp at hn'
  refine ⟨v1, rfl, ⟨?_, ?_, ?_, ?_, ?_, h.ne⟩, ?_, ?_⟩
  · exact (old2 _ lS h.neS.1 h.neS.2).trans h.blk
  · exact hA1.keep (fun i hi => by rw [turned_block t2 (fun e => nM1 (e ▸ hi)), hu])
  · refine ⟨n', _, m2, ?_, fun y hy => ?_⟩
    · show n' + (s.ar.free ++ [x.hs]).length = s.ar.fresh
      simp; omega
    · unfold upd
      by_cases e : y = k
      · subst e; simp [Sto.less, setF_same]
      · rw [if_neg (fun e' => e (lit_inj hy hk e')), hg y hy]; simp [Sto.less, setF_other _ _ e]
  · intro y z hz
    by_cases e : y = k
    · subst e
      simp [Sto.less, setF_same] at hz
    · simp only [Sto.less, setF_other _ _ e] at hz
      have hs := h.slot y z hz
      have hn := h.neXS hz
      exact ⟨hs.1, hs.2.1, (old2 _ (h.ltX hz) hn.2.1 hn.2.2).trans hs.2.2.1, Ar.live_put hs.2.2.2 (h.apart _ _ _ _ hz hx e).2⟩
  · intro y y' z z' hz hz' hne
    by_cases e : y = k
    · subst e
      simp [Sto.less, setF_same] at hz
    · simp only [Sto.less, setF_other _ _ e] at hz
      by_cases e' : y' = k
      · subst e'
        simp [Sto.less, setF_same] at hz'
      · simp only [Sto.less, setF_other _ _ e'] at hz'
        exact h.apart _ _ _ _ hz hz' hne
  · have c1 : Chg w w1 s.fp := (Chg.of_below hW0 s.fp).trans hc1 (fun i _ hi => .inr (.inr (.inl hi)))
    exact (c1.trans hcu (fun _ _ e => e.elim)).turned t2 (fun _ => .inr (.inl rfl))
  · rintro i (e | e | (e | e | e | e) | ⟨y, z, hz, e⟩)
    · exact .inl (.inl e)
    · exact .inl (.inr (.inl e))
    · exact .inl (.inr (.inr (.inl (.inl e))))
    · exact .inl (.inr (.inr (.inl (.inr (.inl e)))))
    · exact .inl (.inr (.inr (.inl (.inr (.inr (.inl e))))))
    · rcases ho1 i e with e' | e'
      · exact .inl (.inr (.inr (.inl (.inr (.inr (.inr e'))))))
      · right; omega
    · by_cases ey : y = k
      · subst ey
        simp [Sto.less, setF_same] at hz
      · simp only [Sto.less, setF_other _ _ ey] at hz
        exact .inl (.inr (.inr (.inr ⟨y, z, hz, e⟩)))

theorem StC.i64 {w : World} {s : Sto} (h : StC w s) {k : Ky} {x : Sl} (hx : s.f k = some x) : I64 x.hs ∧ I64 x.hg ∧ s.ar.live x.hs x.hg = true := by
  have hl := (h.slot k x hx).2.2.2
  have hl' := hl
  unfold Ar.live at hl'
  simp only [Bool.and_eq_true, beq_iff_eq] at hl'
  have hg := h.ar.ok.gens x.hs
  have := h.ar.ok.cnt
  refine ⟨h.ar.ok.i64 hl'.1, ?_, hl⟩
  rw [← hl'.2]
  unfold I64
  omega

set_option maxRecDepth 100000 in
set_option maxHeartbeats 400000 in
theorem drop_any (s : Sto) (k : Ky) (x : Sl) (w : World) (h : StC w s) (hk : k.Ok) (hx : s.f k = some x) (hcn : s.c + 1 ≤ 1099511627776) :
    Calls Tryz.prog 116 #[.pointer (some ⟨s.sb, 0, none⟩), .agg #[.int .i64 k.kind, .int .i64 k.a, .int .i64 k.b, .string k.s]] w (DropPost w s k x) := by
  obtain ⟨c0, c1, hl, _⟩ := h.pre hk
  have lk : (Instr.lookup 53 (.map (some s.mb)) (.agg #[.int .i64 k.kind, .int .i64 k.a, .int .i64 k.b, .string k.s]) false).run Tryz.prog (w.alloc (.cells #[.int .i64 k.kind, .int .i64 k.a, .int .i64 k.b, .string k.s] 47)).drew = .ok (ptrOf (s.f k)) (w.alloc (.cells #[.int .i64 k.kind, .int .i64 k.a, .int .i64 k.b, .string k.s] 47)).drew := h.look hk (Below.heap_alloc w _ _ h.ltM)
  rw [hx] at lk
  simp only [ptrOf, Option.map_some, Option.getD_some, Sl.ptr] at lk
  obtain ⟨x0, x1, _, _, _, hxl⟩ := h.cells hx
  obtain ⟨i1, i2, hlive⟩ := h.i64 hx
  have HX := Lib.hid hx
  have HV := Lib.hid hlive
  have HC := Lib.hid hcn
  clear hx hlive hcn
  obtain ⟨K, hK⟩ : ∃ K, K = Obj.cells #[.int .i64 k.kind, .int .i64 k.a, .int .i64 k.b, .string k.s] 47 := ⟨_, rfl⟩
  obtain ⟨H, hH⟩ : ∃ H, H = Obj.cells #[.int .i64 x.hs, .int .i64 x.hg] 117 := ⟨_, rfl⟩
  have hW : ∀ u : World, u.heap = ((w.alloc K).alloc H).heap → ArC u s.ab s.bg s.bt s.v s.ar s.c ∧ u.heap[w.heap.size + 1]? = some H ∧ ¬ arFp s.ab s.bg s.bt s.v (w.heap.size + 1) := fun u hu => by
    refine ⟨((h.ar.alloc K).alloc H).keep (fun i _ => by rw [hu]), ?_, fun e => by have := h.ar.lt e; omega⟩
    have := heap_new (w.alloc K) H
    rw [size_alloc] at this
    rw [hu]; exact this
  have ks : ∀ w' : World, (∀ i, i < w.heap.size + 1 → ¬ arFp s.ab s.bg s.bt s.v i → w'.heap[i]? = (w.alloc K).heap[i]?) → w'.cell? ⟨s.sb, 0, none⟩ = some (.pointer (some ⟨s.ab, 0, none⟩)) ∧ w'.cell? ⟨s.sb, 1, none⟩ = some (.map (some s.mb)) ∧ w'.cell? ⟨w.heap.size, 0, none⟩ = some (.int .i64 k.kind) ∧ w'.cell? ⟨w.heap.size, 1, none⟩ = some (.int .i64 k.a) ∧ w'.cell? ⟨w.heap.size, 2, none⟩ = some (.int .i64 k.b) ∧ w'.cell? ⟨w.heap.size, 3, none⟩ = some (.string k.s) ∧ w'.cell? ⟨x.ad, 0, none⟩ = some (.int .i64 x.hs) ∧ w'.cell? ⟨x.ad, 1, none⟩ = some (.int .i64 x.hg) ∧ (Instr.lookup 53 (.map (some s.mb)) (.agg #[.int .i64 k.kind, .int .i64 k.a, .int .i64 k.b, .string k.s]) false).run Tryz.prog w' = .ok (.pointer (some ⟨x.ad, 0, none⟩)) w' := by
    intro w' hb
    have eS : w'.heap[s.sb]? = _ := (hb _ (by omega) h.neS.2).trans ((Below.heap_alloc w K _ h.ltS).trans h.blk)
    have eK : w'.heap[w.heap.size]? = some K := (hb _ (by omega) (fun e => by have := h.ar.lt e; omega)).trans (heap_new w K)
    have eX := (hb _ (by omega) (h.neXS HX.out).2.2).trans ((Below.heap_alloc w K _ hxl).trans (h.slot k x HX.out).2.2.1)
    have eM := (hb _ (by have := h.ltM; omega) h.neM).trans (Below.heap_alloc w K _ h.ltM)
    have lk := h.look hk eM
    rw [HX.out] at lk
    rw [hK] at eK
    exact ⟨by rw [cell_of_blk eS]; rfl, by rw [cell_of_blk eS]; rfl, by rw [cell_of_blk eK]; rfl, by rw [cell_of_blk eK]; rfl, by rw [cell_of_blk eK]; rfl, by rw [cell_of_blk eK]; rfl, by rw [cell_of_blk eX]; rfl, by rw [cell_of_blk eX]; rfl, lk⟩
  have k0 : ∀ u : World, u.heap = (w.alloc K).heap → ∀ i, i < w.heap.size + 1 → ¬ arFp s.ab s.bg s.bt s.v i → u.heap[i]? = (w.alloc K).heap[i]? := fun u hu i _ _ => by rw [hu]
  have k1 : ∀ u : World, u.heap = ((w.alloc K).alloc H).heap → ∀ i, i < w.heap.size + 1 → ¬ arFp s.ab s.bg s.bt s.v i → u.heap[i]? = (w.alloc K).heap[i]? := fun u hu i hi _ => by rw [hu]; exact Below.heap_alloc (w.alloc K) H i (by rw [size_alloc]; exact hi)
  have k2 : ∀ u w1 : World, u.heap = ((w.alloc K).alloc H).heap → Chg u w1 (arFp s.ab s.bg s.bt s.v) → ∀ i, i < w.heap.size + 1 → ¬ arFp s.ab s.bg s.bt s.v i → w1.heap[i]? = (w.alloc K).heap[i]? := fun u w1 hu hc i hi hn => by
    rw [hc.block i (by rw [hu, size_alloc, size_alloc]; omega) hn]; exact k1 u hu i hi hn
  rw [hK] at ks k0 k1 k2
  rw [hH] at k1 k2
  rw [hK, hH] at hW
  have HW := Lib.hid hW
  have KS := Lib.hid ks
  have Q0 := Lib.hid k0
  have Q1 := Lib.hid k1
  have Q2 := Lib.hid k2
  clear hW hH hK ks k0 k1 k2 lk c0 c1 x0 x1
  go_enter Tryz.func116, Tryz.ntmps116
  go_wp2_with fail
  go_region_held3 (fun w' => w'.cell? ⟨s.sb, 0, none⟩ = some (.pointer (some ⟨s.ab, 0, none⟩)) ∧ w'.cell? ⟨s.sb, 1, none⟩ = some (.map (some s.mb)) ∧ w'.cell? ⟨w.heap.size, 0, none⟩ = some (.int .i64 k.kind) ∧ w'.cell? ⟨w.heap.size, 1, none⟩ = some (.int .i64 k.a) ∧ w'.cell? ⟨w.heap.size, 2, none⟩ = some (.int .i64 k.b) ∧ w'.cell? ⟨w.heap.size, 3, none⟩ = some (.string k.s) ∧ w'.cell? ⟨x.ad, 0, none⟩ = some (.int .i64 x.hs) ∧ w'.cell? ⟨x.ad, 1, none⟩ = some (.int .i64 x.hg) ∧ (Instr.lookup 53 (.map (some s.mb)) (.agg #[.int .i64 k.kind, .int .i64 k.a, .int .i64 k.b, .string k.s]) false).run Tryz.prog w' = .ok (.pointer (some ⟨x.ad, 0, none⟩)) w')
    (first | (refine KS.out _ (Q0.out _ ?_); rfl) | (refine KS.out _ (Q1.out _ ?_); rfl) | (refine KS.out _ (Q2.out _ _ ?_ hc1); rfl))
    ((go_at_call 131; (with_reducible refine (free_one s.ab s.bg s.bt (w.heap.size + 1) 1 s.v s.ar s.c x.hs x.hg 117 (0, 0) _ ?hArc ?hBlk i1 i2 ?hOut HC.out).mono ?_); (case hArc => (refine (HW.out _ ?_).1; rfl)); (case hBlk => (refine (HW.out _ ?_).2.1; rfl)); (case hOut => exact (HW.out _ rfl).2.2); rintro e w1 ⟨rfl, v1, hA1, hc1, ho1⟩))
  go_split_ands
  obtain ⟨n, gm, m0, hn, hg⟩ := h.map
  have eM : w1.heap[s.mb]? = w.heap[s.mb]? := ((fun hu => Q2.out _ w1 hu hc1) rfl s.mb (by have := h.ltM; omega) h.neM).trans (Below.heap_alloc w _ _ h.ltM)
  have m1 : mapR w1 Tryz.prog 47 s.mb n gm := m0.of_block eM
  have HN := Lib.hid hn
  have HG := Lib.hid hg
  have HD : Hid (s.ar.drop1 x.hs x.hg = s.ar.put x.hs) := Lib.hid (by unfold Ar.drop1; rw [HV.out]; rfl)
  clear hn hg eM m0
  go_wp2_with fail
  refine wp_region_still_tail 5 (by kernel_rfl) (by kernel_rfl) ?_
  change wpStill _ _ (World.drew _) (fun a' => wpList _ _ _ _ a' (World.drew _)) _ _
  simp only [List.take_succ_cons, List.take_zero, List.drop_succ_cons, List.drop_zero]
  repeat still_step
  refine wpStill_nil ?_
  go_wp2_with (at_delete; refine wpList_drop _ rfl _ _ 53 47 rfl 88 lawKey Tryz.underlying53 s.mb n gm rfl (m1.of_block rfl) _ _ rfl (keyK hk) ?_; intro w2 n' hn' m2 t2 d2 f2 z2)
  go_end0
  rw [HD.out] at hA1
  refine drop_close h hk HX.out ?_ hA1 hc1 ho1 HN.out HG.out ?_ ?_ hn' m2 t2
  · exact (((Below.refl _ _).alloc (Nat.le_refl _) _).alloc (by simp) _).drew
  · rfl
  · exact (Chg.refl _ _).drew
end Go.Proofs.YtkhkdedjffkhdaaGreat
namespace Go.Proofs.YtkhkdedjffkhdaaGreat
open Go.RowKit Go.Maps

/-- keys in memory, one behind the other -/
structure KsAt (w : World) (b off : Nat) (ks : List Ky) : Prop where
  ok : ∀ k ∈ ks, k.Ok
  cells : ∀ i k, ks[i]? = some k → w.cell? ⟨b, off + i * 4, none⟩ = some (.int .i64 k.kind) ∧ w.cell? ⟨b, off + i * 4 + 1, none⟩ = some (.int .i64 k.a) ∧ w.cell? ⟨b, off + i * 4 + 2, none⟩ = some (.int .i64 k.b) ∧ w.cell? ⟨b, off + i * 4 + 3, none⟩ = some (.string k.s)
  lt : b < w.heap.size
/-- a slice of keys that lie outside some blocks -/
def KsV (w : World) (S : Nat → Prop) (a : Option Addr) (ks : List Ky) : Prop := ks ≠ [] → ∃ b off, a = some ⟨b, off, none⟩ ∧ KsAt w b off ks ∧ ¬ S b
theorem KsAt.of_block {w w' : World} {b off : Nat} {ks : List Ky} (h : KsAt w b off ks) (hb : w'.heap[b]? = w.heap[b]?) : KsAt w' b off ks :=
  ⟨h.ok, fun i k hk => by
    have e : ∀ j, w'.cell? ⟨b, j, none⟩ = w.cell? ⟨b, j, none⟩ := fun j => World.cell?_of_block (a := ⟨b, j, none⟩) hb
    rw [e, e, e, e]; exact h.cells i k hk, (Array.getElem?_eq_some_iff.1 (hb.trans (Array.getElem?_eq_getElem h.lt))).1⟩
theorem KsAt.one {w : World} {b : Nat} {k : Ky} {t : TypeId} {z : Nat × Nat} (hb : w.heap[b]? = some (.cells #[.int .i64 k.kind, .int .i64 k.a, .int .i64 k.b, .string k.s] t z)) (hk : k.Ok) : KsAt w b 0 [k] := by
  refine ⟨by simp [hk], fun i y he => ?_, (Array.getElem?_eq_some_iff.1 hb).1⟩
  cases i with
  | zero =>
    simp at he
    subst he
    exact ⟨by rw [cell_of_blk hb]; rfl, by rw [cell_of_blk hb]; rfl, by rw [cell_of_blk hb]; rfl, by rw [cell_of_blk hb]; rfl⟩
  | succ i => simp at he

section
variable {w w1 w2 : World} {s s1 s2 : Sto} {g g1 : Ky → Option Cl} {n n1 c c1 : Nat}
theorem GPost.refl (h : StC w s) : GPost w s s s.g s.cnt s.c w := ⟨h, Chg.refl _ _, fun _ e => .inl e, rfl, rfl, rfl, rfl, rfl⟩
theorem GPost.trans (p : GPost w s s1 g1 n1 c1 w1) (q : GPost w1 s1 s2 g n c w2) : GPost w s s2 g n c w2 := by
  refine ⟨q.st, p.chg.trans q.chg (fun i hi hs => ?_), fun i hi => ?_, q.sb.trans p.sb, q.room.trans p.room, q.g, q.cnt, q.c⟩
  · rcases p.fp i hs with e | e
    · exact e
    · omega
  · have := p.chg.size
    rcases q.fp i hi with e | e
    · exact p.fp i e
    · right; omega
theorem GPost.below (p : GPost w s s1 g1 n1 c1 w1) (hb : Below w1.heap.size w1 w2) : GPost w s s1 g1 n1 c1 w2 :=
  ⟨p.st.stay hb, p.chg.trans (Chg.of_below hb (fun _ => False)) (fun _ _ e => e.elim), p.fp, p.sb, p.room, p.g, p.cnt, p.c⟩
/-- what lies outside the store stays -/
theorem GPost.out (p : GPost w s s1 g1 n1 c1 w1) {b : Nat} (hl : b < w.heap.size) (hb : ¬ s.fp b) : w1.heap[b]? = w.heap[b]? ∧ ¬ s1.fp b :=
  ⟨p.chg.block b hl hb, fun e => by
    rcases p.fp b e with e' | e'
    · exact hb e'
    · omega⟩
end

theorem drop_g (s : Sto) (b : Nat) (k : Ky) (x : Cl) (w : World) (h : StC w s) (hb : s.sb = b) (hk : k.Ok) (hx : s.g k = some x) (hcn : s.c + 1 ≤ 1099511627776) :
    Calls Tryz.prog 116 #[.pointer (some ⟨b, 0, none⟩), .agg #[.int .i64 k.kind, .int .i64 k.a, .int .i64 k.b, .string k.s]] w (PostG w s (setG s.g k none) (s.cnt - 1) (s.c + 1) (.tuple #[])) := by
  subst hb
  obtain ⟨y, hy, rfl⟩ := Sto.g_some hx
  refine (drop_any s k y w h hk hy hcn).mono ?_
  rintro e w' ⟨v', he, hst, hch, hfp⟩
  refine ⟨he, _, ⟨hst, hch, hfp, rfl, rfl, ?_, ?_, rfl⟩⟩
  · rw [setF_g s k none _ rfl]; rfl
  · show s.ar.fresh - (s.ar.free ++ [y.hs]).length = s.ar.fresh - s.ar.free.length - 1
    simp; omega

/-- Free of one key, plainly -/
noncomputable def freeStep (p : (Ky → Option Cl) × Nat) (k : Ky) : (Ky → Option Cl) × Nat := match p.1 k with
  | none => p
  | some x => if (x.ab && !x.lk) = true then (setG p.1 k none, p.2 + 1) else p
noncomputable def freeG (g : Ky → Option Cl) (ks : List Ky) : (Ky → Option Cl) × Nat := ks.foldl freeStep (g, 0)
theorem freeG_snoc (g : Ky → Option Cl) (ks : List Ky) (i : Nat) (k : Ky) (h : ks[i]? = some k) : freeG g (ks.take (i + 1)) = freeStep (freeG g (ks.take i)) k := by
  obtain ⟨hi, rfl⟩ := List.getElem?_eq_some_iff.1 h
  unfold freeG
  rw [List.take_succ_eq_append_getElem hi, List.foldl_append]
  rfl

def FrRel (w : World) (s : Sto) (ks : List Ky) (n i : Value) (wr : World) : Prop :=
  ∃ (k m : Nat) (g : Ky → Option Cl) (s' : Sto), k ≤ ks.length ∧ m ≤ k ∧ i = .int .i64 k ∧ n = .int .i64 m ∧ freeG s.g (ks.take k) = (g, m) ∧ GPost w s s' g (s.cnt - m) (s.c + m) wr
theorem FrRel.start {w : World} {s : Sto} (h : StC w s) (ks : List Ky) : FrRel w s ks (.int .i64 0) (.int .i64 0) w :=
  ⟨0, 0, s.g, s, Nat.zero_le _, Nat.le_refl _, rfl, rfl, rfl, GPost.refl h⟩
theorem FrRel.skip {w wr w' : World} {s s' : Sto} {ks : List Ky} {k m : Nat} {g : Ky → Option Cl} {kk : Ky} (hk : ks[k]? = some kk) (hm : m ≤ k) (hG : freeG s.g (ks.take k) = (g, m)) (p : GPost w s s' g (s.cnt - m) (s.c + m) wr) (hb : Below wr.heap.size wr w')
    (hs : ∀ x, g kk = some x → (x.ab && !x.lk) = false) : FrRel w s ks (.int .i64 m) (.int .i64 ((k : Int) + 1)) w' := by
  refine ⟨k + 1, m, g, s', (List.getElem?_eq_some_iff.1 hk).1, by omega, by simp, rfl, ?_, p.below hb⟩
  rw [freeG_snoc _ _ _ _ hk, hG]
  unfold freeStep
  dsimp only
  split
  · rfl
  · next x hx => rw [hs x hx]; rfl
theorem FrRel.take {w wr w1 w' : World} {s s' s2 : Sto} {ks : List Ky} {k m : Nat} {g : Ky → Option Cl} {kk : Ky} {x : Cl} (hk : ks[k]? = some kk) (hm : m ≤ k) (hG : freeG s.g (ks.take k) = (g, m)) (p : GPost w s s' g (s.cnt - m) (s.c + m) wr) (hb : Below wr.heap.size wr w1)
    (hx : g kk = some x) (ha : x.ab = true) (hl : x.lk = false) (q : GPost w1 s' s2 (setG s'.g kk none) (s'.cnt - 1) (s'.c + 1) w') : FrRel w s ks (.int .i64 ((m : Int) + 1)) (.int .i64 ((k : Int) + 1)) w' := by
  refine ⟨k + 1, m + 1, setG g kk none, s2, (List.getElem?_eq_some_iff.1 hk).1, by omega, by simp, by simp, ?_, ?_⟩
  · rw [freeG_snoc _ _ _ _ hk, hG]
    unfold freeStep
    dsimp only
    rw [hx]
    simp [ha, hl]
  · have := (p.below hb).trans q
    rw [p.g, p.cnt, p.c] at this
    have e : s.cnt - m - 1 = s.cnt - (m + 1) := by omega
    rw [e] at this
    exact this

end Go.Proofs.YtkhkdedjffkhdaaGreat
namespace Go.Proofs.YtkhkdedjffkhdaaGreat
open Go.RowKit Go.Maps

end Go.Proofs.YtkhkdedjffkhdaaGreat
namespace Go.Proofs.YtkhkdedjffkhdaaGreat
open Go.RowKit Go.Maps

end Go.Proofs.YtkhkdedjffkhdaaGreat
namespace Go.Proofs.YtkhkdedjffkhdaaGreat
open Go.RowKit Go.Maps

/-- the key of a number -/
def k9 (n : Int) : Ky := ⟨1, n, 0, ⟨#[]⟩⟩
end Go.Proofs.YtkhkdedjffkhdaaGreat
namespace Go.Proofs.YtkhkdedjffkhdaaGreat
open Go.RowKit Go.Maps

end Go.Proofs.YtkhkdedjffkhdaaGreat
namespace Go.Proofs.YtkhkdedjffkhdaaGreat
open Go.RowKit Go.Maps

/-- are two keys one? -/
def Ky.eqB (a b : Ky) : Bool := a.kind == b.kind && (a.a == b.a && (a.b == b.b && a.s.toList == b.s.toList))
theorem Ky.eqB_iff (a b : Ky) : a.eqB b = true ↔ a = b := by
  unfold Ky.eqB
  cases a; cases b
  simp [ByteArray.toList_eq]
  intro _ _ _
  rw [ByteArray.ext_iff]
theorem eqKy (a b : Ky) (w : World) : (binOp .eql 47 (.agg #[.int .i64 a.kind, .int .i64 a.a, .int .i64 a.b, .string a.s]) (.agg #[.int .i64 b.kind, .int .i64 b.a, .int .i64 b.b, .string b.s])).run Tryz.prog w = .ok (.bool (a.eqB b)) w := by
  unfold Ky.eqB
  cases h1 : (a.kind == b.kind) <;> cases h2 : (a.a == b.a) <;> cases h3 : (a.b == b.b) <;> cases h4 : (a.s.toList == b.s.toList) <;> go_simp
end Go.Proofs.YtkhkdedjffkhdaaGreat
namespace Go.Proofs.YtkhkdedjffkhdaaGreat
open Go.RowKit Go.Maps

/-- the first place of a key in a list; -1: there is none -/
def IdxP (ks : List Ky) (k : Ky) (r : Int) : Prop := (r = -1 ∧ ∀ j : Nat, ks[j]? ≠ some k) ∨ ∃ i : Nat, r = i ∧ ks[i]? = some k ∧ ∀ j : Nat, j < i → ks[j]? ≠ some k
def IdxPost (ks : List Ky) (k : Ky) (w : World) (e : Ending) (w' : World) : Prop := ∃ r, e = .returned (.int .i64 r) ∧ IdxP ks k r ∧ Below w.heap.size w w'

theorem Ky.eqB_true {a b : Ky} (h : a = b) : a.eqB b = true := (Ky.eqB_iff a b).2 h
theorem Ky.eqB_false {a b : Ky} (h : a ≠ b) : a.eqB b = false := by
  cases e : a.eqB b
  · rfl
  · exact absurd ((Ky.eqB_iff a b).1 e) h

set_option maxRecDepth 100000 in
set_option maxHeartbeats 400000 in
theorem index_any (a : Option Addr) (cap : Nat) (ks : List Ky) (k : Ky) (w : World) (hks : KsV w (fun _ => False) a ks) (hl : ks.length ≤ 1000) :
    Calls Tryz.prog 130 #[.slice a ks.length cap, .agg #[.int .i64 k.kind, .int .i64 k.a, .int .i64 k.b, .string k.s]] w (IdxPost ks k w) := by
  go_enter Tryz.func130, Tryz.ntmps130
  go_wp2_with fail
  go_loopw [8] (fun i wr => ∃ j : Nat, j ≤ ks.length ∧ i = .int .i64 j ∧ (∀ j', j' < j → ks[j']? ≠ some k) ∧ ∃ n, wr = (w.alloc (.cells #[.int .i64 k.kind, .int .i64 k.a, .int .i64 k.b, .string k.s] 47)).drewN n) (fun i _ => ks.length - (intOf i).toNat)
  case atStart => exact ⟨0, Nat.zero_le _, rfl, fun _ h => absurd h (Nat.not_lt_zero _), 0, rfl⟩
  case round =>
    obtain ⟨j, hj, rfl, hno, n, rfl⟩ := hrel
    have HN := Lib.hid hno
    clear hno
    by_cases hlt : j < ks.length
    · obtain ⟨kk, hkk⟩ : ∃ kk, ks[j]? = some kk := ⟨_, List.getElem?_eq_getElem hlt⟩
      obtain ⟨kb, off, rfl, kat, _⟩ := hks (fun e => by rw [e] at hlt; simp at hlt)
      obtain ⟨q0, q1, q2, q3⟩ := kat.cells j kk hkk
      have hlb := kat.lt
      have HK := Lib.hid hkk
      clear hkk kat hks
      have hE := eqKy k kk
      by_cases he : k = kk
      · rw [Ky.eqB_true he] at hE
        have HE := Lib.hid he
        clear he
        go_wp2_with fail
        go_quiet (fail)
        go_wp2_with fail
        go_ret
        exact ⟨_, rfl, .inr ⟨j, rfl, by rw [HK.out, HE.out], HN.out⟩, below_drewN (below_drewN ((Below.refl _ _).alloc (Nat.le_refl _) _) _) _⟩
      · rw [Ky.eqB_false he] at hE
        have HE := Lib.hid he
        clear he
        go_wp2_with fail
        go_quiet (fail)
        go_wp2_with fail
        refine ⟨⟨j + 1, by omega, by go_num, fun j' hj' => ?_, ⟨_, rfl⟩⟩, by simp [intOf]; omega⟩
        rcases Nat.lt_succ_iff_lt_or_eq.1 hj' with h | rfl
        · exact HN.out j' h
        · rw [HK.out]; exact fun e => HE.out (Option.some.inj e).symm
    · go_wp2_with fail
      go_ret
      refine ⟨_, rfl, .inl ⟨rfl, fun j' => ?_⟩, below_drewN ((Below.refl _ _).alloc (Nat.le_refl _) _) _⟩
      rcases Nat.lt_or_ge j' j with h | h
      · exact HN.out j' h
      · rw [List.getElem?_eq_none (by omega)]; simp
theorem contains_no (a : Option Addr) (cap : Nat) (ks : List Ky) (k : Ky) (w : World) (hks : KsV w (fun _ => False) a ks) (hl : ks.length ≤ 1000) (hn : k ∉ ks) :
    Calls Tryz.prog 114 #[.slice a ks.length cap, .agg #[.int .i64 k.kind, .int .i64 k.a, .int .i64 k.b, .string k.s]] w fun e w' => e = .returned (.bool false) ∧ Below w.heap.size w w' := by
  have hW : ∀ X, KsV (w.alloc X) (fun _ => False) a ks := fun X e => by
    obtain ⟨b, off, h1, h2, h3⟩ := hks e
    exact ⟨b, off, h1, h2.of_block (Below.heap_alloc _ _ _ h2.lt), h3⟩
  have HN := Lib.hid hn
  clear hks hn
  go_enter Tryz.func114, Tryz.ntmps114
  go_wp2_with fail
  refine (index_any a cap ks k _ (hW _) hl).mono ?_
  rintro e w1 ⟨r, rfl, hr, hb⟩
  obtain rfl : r = -1 := by
    rcases hr with h | ⟨i, _, h, _⟩
    · exact h.1
    · exact absurd (List.mem_of_getElem? h) HN.out
  go_wp2_with fail
  go_ret
  exact ⟨rfl, ((Below.refl _ _).alloc (Nat.le_refl _) _).trans (hb.mono (by simp))⟩
end Go.Proofs.YtkhkdedjffkhdaaGreat
namespace Go.Proofs.YtkhkdedjffkhdaaGreat
open Go.RowKit Go.Maps

/-- may one unlock keys? -/
def unlockOk (g : Ky → Option Cl) (who : Int) (ks : List Ky) (j : Nat) : Prop := ∀ i k, i < j → ks[i]? = some k → holdsV (g k) who = true ∧ k ∉ ks.take i
theorem unlockOk.next {g : Ky → Option Cl} {who : Int} {ks : List Ky} {j : Nat} {k : Ky} (h : unlockOk g who ks j) (hk : ks[j]? = some k) (h1 : holdsV (g k) who = true) (h2 : k ∉ ks.take j) : unlockOk g who ks (j + 1) := by
  intro i k' hi hk'
  rcases Nat.lt_succ_iff_lt_or_eq.1 hi with e | rfl
  · exact h i k' e hk'
  · rw [hk] at hk'; cases hk'; exact ⟨h1, h2⟩

theorem KsV.below {w w' : World} {S : Nat → Prop} {a : Option Addr} {ks : List Ky} (h : KsV w S a ks) (hb : Below w.heap.size w w') : KsV w' S a ks := fun e => by
  obtain ⟨b, off, h1, h2, h3⟩ := h e
  exact ⟨b, off, h1, h2.of_block (hb.block _ h2.lt), h3⟩
theorem KsV.take {w : World} {S : Nat → Prop} {a : Option Addr} {ks : List Ky} (h : KsV w S a ks) (j : Nat) : KsV w (fun _ => False) a (ks.take j) := fun e => by
  obtain ⟨b, off, h1, h2, _⟩ := h (fun e' => e (by rw [e']; simp))
  refine ⟨b, off, h1, ⟨fun k hk => h2.ok k (List.mem_of_mem_take hk), fun i k hk => h2.cells i k ?_, h2.lt⟩, fun f => f⟩
  rw [List.getElem?_take] at hk
  split at hk
  · exact hk
  · cases hk

/-- the cells of a box that holds a key, in a later world -/
def BoxK (W : World) (b : Nat) (k : Ky) (w' : World) : Prop := Below W.heap.size W w' ∧ w'.cell? ⟨b, 0, none⟩ = some (.int .i64 k.kind) ∧ w'.cell? ⟨b, 1, none⟩ = some (.int .i64 k.a) ∧ w'.cell? ⟨b, 2, none⟩ = some (.int .i64 k.b) ∧ w'.cell? ⟨b, 3, none⟩ = some (.string k.s)
theorem BoxK.mk {W : World} {b : Nat} {k : Ky} {t : TypeId} {z : Nat × Nat} (hb : W.heap[b]? = some (.cells #[.int .i64 k.kind, .int .i64 k.a, .int .i64 k.b, .string k.s] t z)) (w' : World) (h : Below W.heap.size W w') : BoxK W b k w' := by
  have e := (h.block b (Array.getElem?_eq_some_iff.1 hb).1).trans hb
  exact ⟨h, by rw [cell_of_blk e]; rfl, by rw [cell_of_blk e]; rfl, by rw [cell_of_blk e]; rfl, by rw [cell_of_blk e]; rfl⟩

theorem holds_g (s : Sto) (b : Nat) (k : Ky) (who : Int) (w : World) (h : StC w s) (hb : s.sb = b) (hk : k.Ok) :
    Calls Tryz.prog 110 #[.pointer (some ⟨b, 0, none⟩), .agg #[.int .i64 k.kind, .int .i64 k.a, .int .i64 k.b, .string k.s], .int .i64 who] w fun e w' => e = .returned (.bool (holdsV (s.g k) who)) ∧ Below w.heap.size w w' := by
  subst hb
  rw [← Sto.holds_g]
  exact holds_any s k who w h hk

end Go.Proofs.YtkhkdedjffkhdaaGreat
namespace Go.Proofs.YtkhkdedjffkhdaaGreat
open Go.RowKit Go.Maps

theorem setG_setG (f : Ky → Option Cl) (k : Ky) (o o' : Option Cl) : setG (setG f k o) k o' = setG f k o' := by
  funext x
  by_cases e : x = k
  · subst e; rw [setG_same, setG_same]
  · rw [setG_other _ _ e, setG_other _ _ e, setG_other _ _ e]
/-- Unlock of one key, plainly -/
noncomputable def unStep (p : (Ky → Option Cl) × Nat) (k : Ky) : (Ky → Option Cl) × Nat := match p.1 k with
  | none => p
  | some x => if x.st = 0 then (setG p.1 k none, p.2 + 1) else (setG p.1 k (some { x with lk := false }), p.2)
noncomputable def unG (g : Ky → Option Cl) (ks : List Ky) : (Ky → Option Cl) × Nat := ks.foldl unStep (g, 0)
theorem unG_snoc (g : Ky → Option Cl) (ks : List Ky) (i : Nat) (k : Ky) (h : ks[i]? = some k) : unG g (ks.take (i + 1)) = unStep (unG g (ks.take i)) k := by
  obtain ⟨hi, rfl⟩ := List.getElem?_eq_some_iff.1 h
  unfold unG
  rw [List.take_succ_eq_append_getElem hi, List.foldl_append]
  rfl
def UnRel2 (w : World) (s : Sto) (ks : List Ky) (i : Value) (wr : World) : Prop :=
  ∃ (j m : Nat) (g : Ky → Option Cl) (s' : Sto), j ≤ ks.length ∧ m ≤ j ∧ i = .int .i64 j ∧ unG s.g (ks.take j) = (g, m) ∧ (∀ k, k ∉ ks.take j → g k = s.g k) ∧ GPost w s s' g (s.cnt - m) (s.c + m) wr
theorem UnRel2.start {w wr : World} {s : Sto} (h : StC w s) (ks : List Ky) (hb : Below w.heap.size w wr) : UnRel2 w s ks (.int .i64 0) wr :=
  ⟨0, 0, s.g, s, Nat.zero_le _, Nat.le_refl _, rfl, rfl, fun _ _ => rfl, (GPost.refl h).below hb⟩
theorem not_mem_take_succ {ks : List Ky} {j : Nat} {k kk : Ky} (hk : ks[j]? = some kk) (h : k ∉ ks.take (j + 1)) : k ∉ ks.take j ∧ k ≠ kk := by
  obtain ⟨hi, rfl⟩ := List.getElem?_eq_some_iff.1 hk
  rw [List.take_succ_eq_append_getElem hi, List.mem_append] at h
  exact ⟨fun e => h (.inl e), fun e => h (.inr (by rw [e]; exact List.mem_singleton.2 rfl))⟩
theorem UnRel2.stay {w wr w' : World} {s s' s1 : Sto} {ks : List Ky} {j m : Nat} {g : Ky → Option Cl} {kk : Ky} {x : Cl} (hk : ks[j]? = some kk) (hm : m ≤ j) (hG : unG s.g (ks.take j) = (g, m)) (ho : ∀ k, k ∉ ks.take j → g k = s.g k) (p : GPost w s s' g (s.cnt - m) (s.c + m) wr)
    (hx : g kk = some x) (h0 : x.st ≠ 0) (q : GPost wr s' s1 (setG s'.g kk (some { x with lk := false })) s'.cnt s'.c w') : UnRel2 w s ks (.int .i64 ((j : Int) + 1)) w' := by
  refine ⟨j + 1, m, setG g kk (some { x with lk := false }), s1, (List.getElem?_eq_some_iff.1 hk).1, by omega, by simp, ?_, fun k hn => ?_, ?_⟩
  · rw [unG_snoc _ _ _ _ hk, hG]
    unfold unStep
    dsimp only
    rw [hx]
    simp [h0]
  · obtain ⟨h1, h2⟩ := not_mem_take_succ hk hn
    rw [setG_other _ _ h2]; exact ho k h1
  · have := p.trans q
    rw [p.g, p.cnt, p.c] at this
    exact this
theorem UnRel2.gone {w wr w1 w' : World} {s s' s1 s2 : Sto} {ks : List Ky} {j m : Nat} {g : Ky → Option Cl} {kk : Ky} {x : Cl} (hk : ks[j]? = some kk) (hm : m ≤ j) (hG : unG s.g (ks.take j) = (g, m)) (ho : ∀ k, k ∉ ks.take j → g k = s.g k) (p : GPost w s s' g (s.cnt - m) (s.c + m) wr)
    (hx : g kk = some x) (h0 : x.st = 0) (q : GPost wr s' s1 (setG s'.g kk (some { x with lk := false })) s'.cnt s'.c w1) (q2 : GPost w1 s1 s2 (setG s1.g kk none) (s1.cnt - 1) (s1.c + 1) w') : UnRel2 w s ks (.int .i64 ((j : Int) + 1)) w' := by
  refine ⟨j + 1, m + 1, setG g kk none, s2, (List.getElem?_eq_some_iff.1 hk).1, by omega, by simp, ?_, fun k hn => ?_, ?_⟩
  · rw [unG_snoc _ _ _ _ hk, hG]
    unfold unStep
    dsimp only
    rw [hx]
    simp [h0]
  · obtain ⟨h1, h2⟩ := not_mem_take_succ hk hn
    rw [setG_other _ _ h2]; exact ho k h1
  · have := (p.trans q).trans q2
    rw [q.g, q.cnt, q.c, p.g, p.cnt, p.c, setG_setG] at this
    have e : s.cnt - m - 1 = s.cnt - (m + 1) := by omega
    rw [e] at this
    exact this

/-- a slot whose word is written -/
theorem word_g {w w' : World} {s : Sto} (h : StC w s) {k : Ky} {ad st : Nat} {xh xg who : Int} {lk ab lk' : Bool} {text : ByteArray} (hx : s.f k = some ⟨ad, xh, xg, st, lk, ab, text, who⟩) (X : Obj) (n : Nat) (hw : w' = ((w.alloc X).drewN n).setCell ⟨ad, 2, none⟩ (.int .u64 (wd st lk' ab))) :
    ∃ s1, GPost w s s1 (setG s.g k (some ⟨st, lk', ab, text, who⟩)) s.cnt s.c w' := by
  subst hw
  have ho := (h.slot k _ hx).2.1
  have hb := (h.slot k _ hx).2.2.1
  have hp := h.put_post (x' := ⟨ad, xh, xg, st, lk', ab, text, who⟩) hx rfl rfl rfl ⟨ho.st, ho.text, ho.who⟩ ((chg_box w X n (fun i => i = ad)).setCell (fun _ => rfl) _) ((blk_setCell (i := 2) (blk_box hb n) _).trans rfl) (.int .i64 0)
  exact (put_g (y := ⟨ad, xh, xg, st, lk', ab, text, who⟩) hp rfl).2

set_option maxRecDepth 100000 in
set_option maxHeartbeats 1000000 in
theorem unlock_ok (s : Sto) (b cap : Nat) (who : Int) (a : Option Addr) (ks : List Ky) (w : World) (h : StC w s) (hb : s.sb = b) (hks : KsV w s.fp a ks) (hl : ks.length ≤ 1000) (hcap : ks.length ≤ cap) (hyes : unlockOk s.g who ks ks.length) (hcn : s.c + ks.length ≤ 1099511627776) :
    Calls Tryz.prog 98 #[.pointer (some ⟨b, 0, none⟩), .int .i64 who, .slice a ks.length cap] w (PostG w s (unG s.g ks).1 (s.cnt - (unG s.g ks).2) (s.c + (unG s.g ks).2) (.int .i64 0)) := by
  have HB := Lib.hid hb
  have HY := Lib.hid hyes
  clear hb hyes
  go_enter Tryz.func98, Tryz.ntmps98
  go_wp2_with fail
  go_loopw [14] (fun i wr => ∃ j : Nat, j ≤ ks.length ∧ i = .int .i64 j ∧ Below w.heap.size w wr) (fun i _ => ks.length - (intOf i).toNat)
  case atStart => exact ⟨0, Nat.zero_le _, rfl, Below.refl _ _⟩
  case round =>
    obtain ⟨j, hj, rfl, hbel⟩ := hrel
    by_cases hlt : j < ks.length
    · obtain ⟨kk, hkk⟩ : ∃ kk, ks[j]? = some kk := ⟨_, List.getElem?_eq_getElem hlt⟩
      obtain ⟨hh, hin⟩ := HY.out j kk hlt hkk
      have KV := Lib.hid (hks.below hbel)
      obtain ⟨kb, off, rfl, kat, _⟩ := KV.out (fun e => by rw [e] at hlt; simp at hlt)
      have kok := kat.ok kk (List.mem_of_getElem? hkk)
      obtain ⟨q0, q1, q2, q3⟩ := kat.cells j kk hkk
      have hlb := kat.lt
      have hSt : ∀ w', Below (wr.alloc (.cells #[.int .i64 kk.kind, .int .i64 kk.a, .int .i64 kk.b, .string kk.s] 47)).heap.size (wr.alloc (.cells #[.int .i64 kk.kind, .int .i64 kk.a, .int .i64 kk.b, .string kk.s] 47)) w' → StC w' s := fun w' hb' => ((h.stay hbel).alloc _).stay hb'
      have hKt : ∀ w', Below (wr.alloc (.cells #[.int .i64 kk.kind, .int .i64 kk.a, .int .i64 kk.b, .string kk.s] 47)).heap.size (wr.alloc (.cells #[.int .i64 kk.kind, .int .i64 kk.a, .int .i64 kk.b, .string kk.s] 47)) w' → KsV w' (fun _ => False) (some ⟨kb, off, none⟩) (ks.take j) := fun w' hb' => ((KV.out.take j).below ((Below.refl _ _).alloc (Nat.le_refl _) _)).below hb'
      have ks0 := BoxK.mk (k := kk) (heap_new wr (.cells #[.int .i64 kk.kind, .int .i64 kk.a, .int .i64 kk.b, .string kk.s] 47))
      unfold BoxK at ks0
      have KS := Lib.hid ks0
      have HS := Lib.hid hSt
      have HT := Lib.hid hKt
      have HK := Lib.hid hkk
      have hc1 : (0 : Int) ≤ (j : Int) := by omega
      have hc2 : (j : Int) ≤ (cap : Int) := by omega
      have hlen : Hid ((ks.take j).length = j) := Lib.hid (by simp; omega)
      have HH := Lib.hid hh
      clear hSt hKt hkk kat ks0 hks h hh
      go_wp2_with fail
      obtain ⟨W, hW⟩ : ∃ W, W = wr.alloc (.cells #[.int .i64 kk.kind, .int .i64 kk.a, .int .i64 kk.b, .string kk.s] 47) := ⟨_, rfl⟩
      rw [← hW] at KS HS HT ⊢
      have hBW : Below w.heap.size w W := by rw [hW]; exact hbel.alloc hbel.size _
      clear hW
      go_region_held3 (fun w' => Below W.heap.size W w' ∧ w'.cell? ⟨wr.heap.size, 0, none⟩ = some (.int .i64 kk.kind) ∧ w'.cell? ⟨wr.heap.size, 1, none⟩ = some (.int .i64 kk.a) ∧ w'.cell? ⟨wr.heap.size, 2, none⟩ = some (.int .i64 kk.b) ∧ w'.cell? ⟨wr.heap.size, 3, none⟩ = some (.string kk.s))
        (first | exact KS.out _ (Below.refl _ _).drew | (go_split_ands; refine KS.out _ (below_then ?_ hbc); assumption))
        (first | (go_at_call 110; go_split_ands; (with_reducible refine (holds_g s b kk _ _ (HS.out _ ?hbw) HB.out kok).mono ?_); (case hbw => assumption); rintro e wc ⟨rfl, hbc⟩; rw [HH.out]) | (go_at_call 114; go_split_ands; have hct := contains_no (some ⟨kb, off, none⟩) cap (ks.take j) kk _ (HT.out _ ‹_›) (by rw [hlen.out]; omega) hin; rw [hlen.out] at hct; (with_reducible refine hct.mono ?_); rintro e wc ⟨rfl, hbc⟩))
      go_split_ands
      go_wp2_with fail
      exact ⟨⟨j + 1, by omega, by go_num, hBW.trans (Below.mono (by assumption) hBW.size)⟩, by simp [intOf]; omega⟩
    · go_wp2_with fail
      go_loopw [34] (fun i wr => UnRel2 w s ks i wr) (fun i _ => ks.length - (intOf i).toNat)
      case atStart => exact UnRel2.start h ks hbel
      case round =>
        rename_i wo _
        obtain ⟨j', m, g, s', hj', hm, rfl, hG, ho, p⟩ := hrel
        clear hlt hj
        have HG := Lib.hid hG
        have HO := Lib.hid ho
        clear hG ho
        by_cases hlt : j' < ks.length
        · obtain ⟨kk, hkk⟩ : ∃ kk, ks[j']? = some kk := ⟨_, List.getElem?_eq_getElem hlt⟩
          obtain ⟨kb, off, rfl, kat, kout⟩ := hks (fun e => by rw [e] at hlt; simp at hlt)
          have ho := p.out kat.lt kout
          obtain ⟨q0, q1, q2, q3⟩ := (kat.of_block ho.1).cells j' kk hkk
          have kok := kat.ok kk (List.mem_of_getElem? hkk)
          obtain ⟨hh, hin⟩ := HY.out j' kk hlt hkk
          have hgk : g kk = s.g kk := HO.out kk hin
          have hS' : s'.sb = b := p.sb.trans HB.out
          obtain ⟨_, c1, hls, lk0⟩ := p.st.pre kok
          have lk := lk0 (.cells #[.int .i64 kk.kind, .int .i64 kk.a, .int .i64 kk.b, .string kk.s] 47)
          rw [hS'] at c1 hls
          obtain ⟨x, hx, hxl⟩ : ∃ x, s'.f kk = some x ∧ x.lk = true := by
            have e : holdsV (s'.g kk) who = true := by rw [p.g, hgk]; exact hh
            unfold Sto.g at e
            cases hf : s'.f kk with
            | none => rw [hf] at e; simp [holdsV] at e
            | some x => rw [hf] at e; simp [holdsV, Sl.cl] at e; exact ⟨x, rfl, e.1⟩
          have hgx : g kk = some x.cl := by rw [← p.g]; unfold Sto.g; rw [hx]; rfl
          rw [hx] at lk
          simp only [ptrOf, Option.map_some, Option.getD_some, Sl.ptr] at lk
          obtain ⟨_, _, c2, _, _, hxs⟩ := p.st.cells hx
          have hs := Lib.hid (p.st.slot kk x hx).2.1.st
          have f2 := frozen_of_blk (p.st.slot kk x hx).2.2.1 2
          have HX := Lib.hid hx
          have HGX := Lib.hid hgx
          have HK := Lib.hid hkk
          have HS := Lib.hid hS'
          clear lk0 hkk hS' kat ho hks hgk hh hin hx hgx
          obtain ⟨ad, xh, xg, st, lkx, ab, text, whx⟩ := x
          dsimp only [Sl.cl] at *
          subst hxl
          by_cases h0 : st = 0
          · have h0' : ((st : Int) == 0) = true := by simpa using h0
            have H0 := Lib.hid h0
            clear h0
            go_wp2_with fail
            go_quiet (fail)
            go_wp2_with (first | (go_at_call 115; refine (unlock_wd _ _ _ _ hs.out).mono ?_; rintro e w' ⟨rfl, rfl⟩) | (go_at_call 80; refine (stamp_wd _ _ _ _ hs.out).mono ?_; rintro e w' ⟨rfl, rfl⟩))
            obtain ⟨s1, q⟩ := word_g (lk' := false) p.st HX.out (.cells #[.int .i64 kk.kind, .int .i64 kk.a, .int .i64 kk.b, .string kk.s] 47) nq rfl
            refine (drop_g s1 b kk ⟨st, false, ab, text, whx⟩ _ q.st (q.sb.trans HS.out) kok (by rw [q.g, setG_same]) (by rw [q.c, p.c]; omega)).mono ?_
            rintro e w2 ⟨rfl, s2, q2⟩
            have HR := Lib.hid (UnRel2.gone HK.out hm HG.out HO.out p HGX.out H0.out q q2)
            go_wp2_with fail
            exact ⟨HR.out, by simp [intOf]; omega⟩
          · have h0' : ((st : Int) == 0) = false := by simpa using h0
            have H0 := Lib.hid h0
            clear h0
            go_wp2_with fail
            go_quiet (fail)
            go_wp2_with (first | (go_at_call 115; refine (unlock_wd _ _ _ _ hs.out).mono ?_; rintro e w' ⟨rfl, rfl⟩) | (go_at_call 80; refine (stamp_wd _ _ _ _ hs.out).mono ?_; rintro e w' ⟨rfl, rfl⟩))
            obtain ⟨s1, q⟩ := word_g (lk' := false) p.st HX.out (.cells #[.int .i64 kk.kind, .int .i64 kk.a, .int .i64 kk.b, .string kk.s] 47) nq rfl
            exact ⟨UnRel2.stay HK.out hm HG.out HO.out p HGX.out H0.out q, by simp [intOf]; omega⟩
        · go_wp2_with fail
          go_ret
          obtain rfl : j' = ks.length := by omega
          rw [List.take_length] at HG
          rw [HG.out]
          exact ⟨rfl, s', p⟩
end Go.Proofs.YtkhkdedjffkhdaaGreat
namespace Go.Proofs.YtkhkdedjffkhdaaGreat
open Go.RowKit Go.Maps

/-- keys that have come, of which something is so -/
def ColP (f : Ky → Option Sl) (p : Sl → Bool) (left : Lit → Bool) (ks : List Ky) : Prop := ks.Nodup ∧ (∀ k ∈ ks, k.Ok) ∧ ∀ k : Ky, k.Ok → (k ∈ ks ↔ ∃ x, f k = some x ∧ p x = true ∧ left k.lit = false)
/-- the keys of which something is so -/
def KsP (f : Ky → Option Sl) (p : Sl → Bool) (n : Nat) (ks : List Ky) : Prop := ks.Nodup ∧ (∀ k ∈ ks, k.Ok) ∧ ks.length ≤ n ∧ ∀ k : Ky, k.Ok → (k ∈ ks ↔ ∃ x, f k = some x ∧ p x = true)
theorem ColP.start {f : Ky → Option Sl} {p : Sl → Bool} {left : Lit → Bool} (h : ∀ k : Ky, k.Ok → left k.lit = (f k).isSome) : ColP f p left [] :=
  ⟨List.nodup_nil, fun k hk => (by cases hk), fun k hk => ⟨fun hk => (by cases hk), fun ⟨x, h1, _, h3⟩ => by
    rw [h k hk, h1] at h3
    cases h3⟩⟩
theorem lit_same {k : Ky} (hk : k.Ok) : k.lit.sameKey k.lit = true := WideAt.sameKey_self (lawKey.key (keyK hk))
theorem lit_other {k x : Ky} (hk : k.Ok) (hx : x.Ok) (e : k ≠ x) : k.lit.sameKey x.lit = false := by
  cases hq : k.lit.sameKey x.lit
  · rfl
  · exact absurd (lit_inj hk hx (WideAt.sameKey_eq hq)) e
theorem ColP.yes {f : Ky → Option Sl} {p : Sl → Bool} {left : Lit → Bool} {ks : List Ky} {k : Ky} {x : Sl} (h : ColP f p left ks) (hk : k.Ok) (hf : f k = some x) (hl : left k.lit = true) (hp : p x = true) : ColP f p (fun z => left z && !z.sameKey k.lit) (ks ++ [k]) := by
  obtain ⟨h1, h2, h3⟩ := h
  refine ⟨List.nodup_append.2 ⟨h1, by simp, fun a ha b hb => ?_⟩, fun y hy => ?_, fun y hy => ?_⟩
  · obtain rfl : b = k := by simpa using hb
    intro e
    subst e
    obtain ⟨_, _, _, h4⟩ := (h3 a hk).1 ha
    rw [hl] at h4
    cases h4
  · rcases List.mem_append.1 hy with hy | hy
    · exact h2 y hy
    · obtain rfl : y = k := by simpa using hy
      exact hk
  · rw [List.mem_append, List.mem_singleton, h3 y hy]
    by_cases e : y = k
    · subst e
      simp [hf, hp, lit_same hk]
    · simp [e, lit_other hy hk e]
theorem ColP.no {f : Ky → Option Sl} {p : Sl → Bool} {left : Lit → Bool} {ks : List Ky} {k : Ky} {x : Sl} (h : ColP f p left ks) (hk : k.Ok) (hf : f k = some x) (hp : p x = false) : ColP f p (fun z => left z && !z.sameKey k.lit) ks := by
  obtain ⟨h1, h2, h3⟩ := h
  refine ⟨h1, h2, fun y hy => ?_⟩
  rw [h3 y hy]
  by_cases e : y = k
  · subst e
    simp [hf, hp]
  · simp [lit_other hy hk e]
theorem ColP.end {f : Ky → Option Sl} {p : Sl → Bool} {left : Lit → Bool} {ks : List Ky} {n : Nat} (h : ColP f p left ks) (hl : ∀ kl, left kl = false) (hn : ks.length ≤ n) : KsP f p n ks :=
  ⟨h.1, h.2.1, hn, fun k hk => by rw [h.2.2 k hk, hl]; simp⟩
theorem KsP.sort {f : Ky → Option Sl} {p : Sl → Bool} {n : Nat} {ks : List Ky} (h : KsP f p n ks) : KySorted (sortKy ks) ∧ KsP f p n (sortKy ks) := by
  obtain ⟨h1, h2, h3, h4⟩ := h
  obtain ⟨s1, s2⟩ := merge_sorted h1
  change KySorted (sortKy ks) at s1
  change (sortKy ks).Perm ks at s2
  exact ⟨s1, s2.nodup_iff.2 h1, fun k hk => h2 k (s2.mem_iff.1 hk), by rw [s2.length_eq]; exact h3, fun k hk => by rw [s2.mem_iff]; exact h4 k hk⟩
/-- what which leaves: the keys in order -/
def WhichPost (s : Sto) (p : Sl → Bool) (w : World) (e : Ending) (w' : World) : Prop := ∃ v ks, e = .returned v ∧ KySorted ks ∧ KsP s.f p s.cnt ks ∧ kK.Own w' w.heap.size v ks ∧ Below w.heap.size w w'
def heldP (who : Int) (x : Sl) : Bool := x.lk && (x.who == who)
def hasP (x : Sl) : Bool := !x.ab

set_option maxHeartbeats 400000 in
theorem held1_any (x : Sl) (wb : Nat) (who : Int) (w : World) (hs : Sm x.st) (hb : w.heap[x.ad]? = some x.blk) (hw : w.cell? ⟨wb, 0, none⟩ = some (.int .i64 who)) :
    Calls Tryz.prog 52 #[.pointer (some ⟨x.ad, 0, none⟩), .pointer (some ⟨wb, 0, none⟩)] w fun e w' => e = .returned (.bool (heldP who x)) ∧ ∃ n, w' = w.drewN n := by
  unfold heldP
  have c2 : w.cell? ⟨x.ad, 2, none⟩ = some (.int .u64 (wd x.st x.lk x.ab)) := by rw [cell_of_blk hb]; rfl
  have c4 : w.cell? ⟨x.ad, 4, none⟩ = some (.int .i64 x.who) := by rw [cell_of_blk hb]; rfl
  have HS := Lib.hid hs
  clear hb hs
  obtain ⟨ad, xh, xg, st, lk, ab, text, whx⟩ := x
  dsimp only at *
  cases lk
  · go_enter Tryz.func52, Tryz.ntmps52
    go_wp2
    go_quiet ((go_at_call 53; first | exact quiet_at2 (quiet_same (locked_any _ _ _ _ _ HS.out c2)) | exact quiet_at (quiet_same (locked_any _ _ _ _ _ HS.out c2)) | exact Calls.quiet_of_same (locked_any _ _ _ _ _ HS.out c2)))
    go_wp2
    go_ret
    exact ⟨rfl, _, rfl⟩
  · go_enter Tryz.func52, Tryz.ntmps52
    go_wp2
    go_quiet ((go_at_call 53; first | exact quiet_at2 (quiet_same (locked_any _ _ _ _ _ HS.out c2)) | exact quiet_at (quiet_same (locked_any _ _ _ _ _ HS.out c2)) | exact Calls.quiet_of_same (locked_any _ _ _ _ _ HS.out c2)))
    go_wp2
    go_ret
    exact ⟨by simp, _, rfl⟩
theorem has_sl (x : Sl) (w : World) (hs : Sm x.st) (hb : w.heap[x.ad]? = some x.blk) : Calls Tryz.prog 33 #[.pointer (some ⟨x.ad, 0, none⟩)] w fun e w' => e = .returned (.bool (hasP x)) ∧ ∃ n, w' = w.drewN n :=
  has_any x.ad x.st x.lk x.ab w hs (by rw [cell_of_blk hb]; rfl)
theorem key_new (u : World) (n : Nat) (hn : u.heap.size = n) (x : Ky) : kK.V (u.alloc (.cells #[.int .i64 x.kind, .int .i64 x.a, .int .i64 x.b, .string x.s] 47)) (some ⟨n, 0, none⟩) [x] := by
  subst hn
  exact fun _ => ⟨_, 0, rfl, RowK.new_at (k := kK) (heap_new _ _) rfl⟩
theorem grown_drewN (w : World) (n : Nat) (r : Option Nat) : w.grownBy (w.drewN n) r := ⟨rfl, rfl, rfl, Nat.le_refl _, fun _ _ _ => rfl⟩
set_option maxRecDepth 100000 in
set_option maxHeartbeats 2000000 in
theorem whichHeld_any (s : Sto) (wb : Nat) (who : Int) (w : World) (h : StC w s) (hw : w.cell? ⟨wb, 0, none⟩ = some (.int .i64 who)) (hwl : wb < w.heap.size) (hn : s.cnt ≤ 1000000) :
    Calls Tryz.prog 32 #[.pointer (some ⟨s.sb, 0, none⟩), .func (.func 52) #[] #[.pointer (some ⟨wb, 0, none⟩)]] w (WhichPost s (heldP who) w) := by
  obtain ⟨nn, g, hmap, hnn, hg⟩ := h.map
  have hcnt : nn = s.cnt := by unfold Sto.cnt; omega
  obtain ⟨D0, hown, hsz, hhas, hat0⟩ := hmap.open'
  have c1 : w.cell? ⟨s.sb, 1, none⟩ = some (.map (some s.mb)) := by rw [cell_of_blk h.blk]; rfl
  have hls := h.ltS
  have HG := Lib.hid hg
  have HA0 := Lib.hid hat0
  have HH := Lib.hid hhas
  have HC := Lib.hid hcnt
  have hlm := h.ltM
  clear hg hat0 hhas hcnt
  go_enter Tryz.func32, Tryz.ntmps32
  go_wp2_with (first
    | (at_range; refine wpList_range_own _ rfl _ 53 rfl 47 88 lawKey Tryz.underlying53 _ s.mb nn _ rfl hown ?_; intro w0 hrg0 hg0 hs0)
    | go_in)
  go_frame
  go_loopw [5] (fun v wr => ∃ (left : Lit → Bool) (cnt : Nat) (ks : List Ky), wr.ranges Tryz.prog 47 rawElem s.mb w.heap.size nn D0 left cnt ∧ ks.length + cnt ≤ nn ∧ ColP s.f (heldP who) left ks ∧ kK.Own wr (w.heap.size + 1) v ks ∧ w.heap.size < wr.heap.size ∧ Below w.heap.size w wr)
    (fun _ wr => wr.rangeLeft s.mb w.heap.size)
  case atStart =>
    refine ⟨_, _, [], hrg0, by rw [hsz]; simp, ColP.start (fun k hk => ?_), RowK.Own.nil kK _ _, by omega, (Below.refl w.heap.size w).grown hg0 (Nat.le_refl _) (fun j hj => by cases hj)⟩
    rw [HH.out _ (lawKey.key (keyK hk)), HG.out k hk]
    cases s.f k <;> rfl
  case round =>
    obtain ⟨left, cnt, ks, hrg, hcs, hC, hO, hwz, hB⟩ := hrel
    obtain ⟨a, cap, rfl⟩ := hO.shape
    have HCP := Lib.hid hC
    have HO := Lib.hid hO
    have HB := Lib.hid hB
    clear hC hO hB
    go_wp2_with (first
      | (at_next; refine wpList_next_ranges _ rfl _ rfl 47 lawKey rawElem Ky.val id (fun key kl hk => by obtain ⟨x, _, hx, _⟩ := keyK_inv hk; exact ⟨x, hx⟩) (fun v _ _ => ⟨v, rfl⟩) s.mb w.heap.size nn _ _ _ rfl hrg ?_ ?_)
      | go_in)
    · intro hc0 hl0
      have HK := Lib.hid (HCP.out.end hl0 (n := nn) (by omega))
      have HL : Hid (ks.length ≤ 1000000) := Lib.hid (by have := HC.out; omega)
      clear hc0 hl0 hcs
      go_wp2_with fail
      refine (sortK_own HO.out HL.out).mono ?_
      rintro e w2 ⟨rfl, o2, b2⟩
      have HO2 := Lib.hid (And.intro o2 b2)
      have HLL : Hid ((sortKy ks).length = ks.length) := Lib.hid (List.length_mergeSort ks)
      clear o2 b2
      go_wp2_with fail
      go_ret
      obtain ⟨s1, s2⟩ := HK.out.sort
      rw [HC.out] at s2
      exact ⟨_, sortKy ks, rfl, s1, s2, HO2.out.1.mono (Nat.le_succ _), HB.out.trans (HO2.out.2.mono (Nat.le_succ _))⟩
    · intro x c kl yd yp w2 cnt2 hkey hlk hv hat hrg2 hlt hg2 hs2 hen
      obtain ⟨x', hxo, ex, rfl⟩ := keyK_inv hkey
      obtain rfl : x = x' := Ky.val_inj ex
      have hyd : yd = .held c := by
        simp only [rawElem, Option.some.injEq, Prod.mk.injEq] at hv
        exact hv.1.symm
      have hgx : g x.lit = some c := HA0.out x.lit c (lawKey.key (keyK hxo)) (fun z => by rw [hat z]; exact hyd)
      rw [HG.out x hxo] at hgx
      obtain ⟨y, hy, rfl⟩ : ∃ y, s.f x = some y ∧ y.ptr = c := by
        cases hf : s.f x with
        | none => rw [hf] at hgx; cases hgx
        | some y => rw [hf] at hgx; exact ⟨y, rfl, by simpa using hgx⟩
      have hB2 : Below w.heap.size w w2 := HB.out.grown hg2 HB.out.size (fun j hj => by cases hj; exact Nat.le_refl _)
      have hO2 : kK.Own w2 (w.heap.size + 1) (.slice a ks.length cap) ks := HO.out.grown hg2 (fun j hj e => by injection e with e; have := (HO.out.lt j hj).1; omega)
      have hst := h.stay hB2
      obtain ⟨_, hyo, hyb, _⟩ := hst.slot x y hy
      have hyl := (Array.getElem?_eq_some_iff.1 hyb).1
      have hbW : Below w.heap.size w (w2.alloc (.cells #[.int .i64 x.kind, .int .i64 x.a, .int .i64 x.b, .string x.s] 47)) := hB2.alloc hB2.size _
      have hyb4 : (w2.alloc (.cells #[.int .i64 x.kind, .int .i64 x.a, .int .i64 x.b, .string x.s] 47)).heap[y.ad]? = some y.blk := (Below.heap_alloc _ _ _ hyl).trans hyb
      have hO4 := hO2.alloc (.cells #[.int .i64 x.kind, .int .i64 x.a, .int .i64 x.b, .string x.s] 47)
      have hrg4 := hrg2.alloc (.cells #[.int .i64 x.kind, .int .i64 x.a, .int .i64 x.b, .string x.s] 47)
      have HWB := Lib.hid ((hbW.cell (p := ⟨wb, 0, none⟩) hwl).trans hw)
      unfold Ky.val at hen
      unfold Sl.ptr at hen
      have HY := Lib.hid hy
      have HYB := Lib.hid hyb4
      have HYS := Lib.hid hyo.st
      have HLK := Lib.hid hlk
      have HO4 := Lib.hid hO4
      have HR4 := Lib.hid hrg4
      have HBW := Lib.hid hbW
      have HNX := Lib.hid (heap_new w2 (.cells #[.int .i64 x.kind, .int .i64 x.a, .int .i64 x.b, .string x.s] 47))
      have HWZ : Hid (w.heap.size + 1 ≤ w2.heap.size) := Lib.hid (by omega)
      have HLE : Hid (left = left) := Lib.hid rfl
      clear hs2 hat hv hkey hlk hyd hgx hrg2 hg2 ex hyb hyo hyl hst hB2 hO2 hO4 hrg4 hbW hyb4 hy
      unfold Ky.val Sl.ptr
      cases hp : heldP who y
      · have HP := Lib.hid hp
        clear hp
        go_wp2_with (go_at_call 52; refine (held1_any y wb who _ HYS.out HYB.out HWB.out).mono ?_; rintro e w3 ⟨rfl, nq, rfl⟩; rw [HP.out])
        go_roundw
        case rel => exact ⟨_, cnt2, ks, HR4.out.kept (grown_drewN _ _ none) (by simp) (by simp), by omega, HCP.out.no hxo HY.out HP.out, HO4.out.grown (grown_drewN _ _ none) (fun _ _ e => by cases e), by have := HWZ.out; simp; omega, below_drewN HBW.out _⟩
        case measure => rw [(HR4.out.kept (grown_drewN _ _ none) (by simp) (by simp)).left_eq, hrg.left_eq]; exact hlt
      · have HP := Lib.hid hp
        clear hp
        have HXV := Lib.hid (fun nq => key_new ((w2.alloc (.cells #[.int .i64 x.kind, .int .i64 x.a, .int .i64 x.b, .string x.s] 47)).drewN nq) (w2.heap.size + 1) (by simp) x)
        have HOA := Lib.hid (fun nq => (HO4.out.grown (grown_drewN _ nq none) (fun _ _ e => by cases e)).alloc (.cells #[.int .i64 x.kind, .int .i64 x.a, .int .i64 x.b, .string x.s] 47))
        go_wp2_with (first | (go_at_call 52; refine (held1_any y wb who _ HYS.out HYB.out HWB.out).mono ?_; rintro e w3 ⟨rfl, nq, rfl⟩; rw [HP.out]) | (at_builtin; refine RowK.wpList_app (k := kK) rfl (.tmp 21) (.tmp 23) rfl rfl (HOA.out _) (some ⟨w2.heap.size + 1, 0, none⟩) 1 [x] 1 rfl rfl (HXV.out _) (fun e => by cases e) (by have := HC.out; simp; omega) (by have := HWZ.out; simp; omega) ?_; intro v8 w8 hA; have HA8 := Lib.hid hA; clear hA) | fail)
        obtain ⟨oA, gA, kA⟩ := HA8.out
        have hne : ∀ j : Nat, j ≤ w.heap.size → some j ≠ (Value.slice a ks.length cap).ownBlock := fun j hj e => by
          have := (HO4.out.lt j e.symm).1
          omega
        have hR8 := ((HR4.out.kept (grown_drewN _ nq none) (by simp) (by simp)).alloc (.cells #[.int .i64 x.kind, .int .i64 x.a, .int .i64 x.b, .string x.s] 47)).kept gA (hne _ (Nat.le_of_lt hlm)) (hne _ (Nat.le_refl _))
        have hB8 := ((below_drewN HBW.out nq).alloc (by have := HWZ.out; simp; omega) (.cells #[.int .i64 x.kind, .int .i64 x.a, .int .i64 x.b, .string x.s] 47)).grown gA (by have := HWZ.out; simp; omega) (fun j hj => by have := (HO4.out.lt j hj).1; omega)
        have hsz8 := gA.size
        simp only [size_alloc, World.drewN] at hsz8
        go_roundw
        case rel => exact ⟨_, cnt2, ks ++ [x], hR8, by simp; omega, HCP.out.yes hxo HY.out HLK.out HP.out, oA, by have := HWZ.out; omega, hB8⟩
        case measure => rw [hR8.left_eq, hrg.left_eq]; exact hlt
set_option maxRecDepth 100000 in
set_option maxHeartbeats 2000000 in
theorem whichHas_any (s : Sto)  (w : World) (h : StC w s) (hn : s.cnt ≤ 1000000) :
    Calls Tryz.prog 32 #[.pointer (some ⟨s.sb, 0, none⟩), .func (.func 33) #[] #[]] w (WhichPost s (hasP) w) := by
  obtain ⟨nn, g, hmap, hnn, hg⟩ := h.map
  have hcnt : nn = s.cnt := by unfold Sto.cnt; omega
  obtain ⟨D0, hown, hsz, hhas, hat0⟩ := hmap.open'
  have c1 : w.cell? ⟨s.sb, 1, none⟩ = some (.map (some s.mb)) := by rw [cell_of_blk h.blk]; rfl
  have hls := h.ltS
  have HG := Lib.hid hg
  have HA0 := Lib.hid hat0
  have HH := Lib.hid hhas
  have HC := Lib.hid hcnt
  have hlm := h.ltM
  clear hg hat0 hhas hcnt
  go_enter Tryz.func32, Tryz.ntmps32
  go_wp2_with (first
    | (at_range; refine wpList_range_own _ rfl _ 53 rfl 47 88 lawKey Tryz.underlying53 _ s.mb nn _ rfl hown ?_; intro w0 hrg0 hg0 hs0)
    | go_in)
  go_frame
  go_loopw [5] (fun v wr => ∃ (left : Lit → Bool) (cnt : Nat) (ks : List Ky), wr.ranges Tryz.prog 47 rawElem s.mb w.heap.size nn D0 left cnt ∧ ks.length + cnt ≤ nn ∧ ColP s.f (hasP) left ks ∧ kK.Own wr (w.heap.size + 1) v ks ∧ w.heap.size < wr.heap.size ∧ Below w.heap.size w wr)
    (fun _ wr => wr.rangeLeft s.mb w.heap.size)
  case atStart =>
    refine ⟨_, _, [], hrg0, by rw [hsz]; simp, ColP.start (fun k hk => ?_), RowK.Own.nil kK _ _, by omega, (Below.refl w.heap.size w).grown hg0 (Nat.le_refl _) (fun j hj => by cases hj)⟩
    rw [HH.out _ (lawKey.key (keyK hk)), HG.out k hk]
    cases s.f k <;> rfl
  case round =>
    obtain ⟨left, cnt, ks, hrg, hcs, hC, hO, hwz, hB⟩ := hrel
    obtain ⟨a, cap, rfl⟩ := hO.shape
    have HCP := Lib.hid hC
    have HO := Lib.hid hO
    have HB := Lib.hid hB
    clear hC hO hB
    go_wp2_with (first
      | (at_next; refine wpList_next_ranges _ rfl _ rfl 47 lawKey rawElem Ky.val id (fun key kl hk => by obtain ⟨x, _, hx, _⟩ := keyK_inv hk; exact ⟨x, hx⟩) (fun v _ _ => ⟨v, rfl⟩) s.mb w.heap.size nn _ _ _ rfl hrg ?_ ?_)
      | go_in)
    · intro hc0 hl0
      have HK := Lib.hid (HCP.out.end hl0 (n := nn) (by omega))
      have HL : Hid (ks.length ≤ 1000000) := Lib.hid (by have := HC.out; omega)
      clear hc0 hl0 hcs
      go_wp2_with fail
      refine (sortK_own HO.out HL.out).mono ?_
      rintro e w2 ⟨rfl, o2, b2⟩
      have HO2 := Lib.hid (And.intro o2 b2)
      have HLL : Hid ((sortKy ks).length = ks.length) := Lib.hid (List.length_mergeSort ks)
      clear o2 b2
      go_wp2_with fail
      go_ret
      obtain ⟨s1, s2⟩ := HK.out.sort
      rw [HC.out] at s2
      exact ⟨_, sortKy ks, rfl, s1, s2, HO2.out.1.mono (Nat.le_succ _), HB.out.trans (HO2.out.2.mono (Nat.le_succ _))⟩
    · intro x c kl yd yp w2 cnt2 hkey hlk hv hat hrg2 hlt hg2 hs2 hen
      obtain ⟨x', hxo, ex, rfl⟩ := keyK_inv hkey
      obtain rfl : x = x' := Ky.val_inj ex
      have hyd : yd = .held c := by
        simp only [rawElem, Option.some.injEq, Prod.mk.injEq] at hv
        exact hv.1.symm
      have hgx : g x.lit = some c := HA0.out x.lit c (lawKey.key (keyK hxo)) (fun z => by rw [hat z]; exact hyd)
      rw [HG.out x hxo] at hgx
      obtain ⟨y, hy, rfl⟩ : ∃ y, s.f x = some y ∧ y.ptr = c := by
        cases hf : s.f x with
        | none => rw [hf] at hgx; cases hgx
        | some y => rw [hf] at hgx; exact ⟨y, rfl, by simpa using hgx⟩
      have hB2 : Below w.heap.size w w2 := HB.out.grown hg2 HB.out.size (fun j hj => by cases hj; exact Nat.le_refl _)
      have hO2 : kK.Own w2 (w.heap.size + 1) (.slice a ks.length cap) ks := HO.out.grown hg2 (fun j hj e => by injection e with e; have := (HO.out.lt j hj).1; omega)
      have hst := h.stay hB2
      obtain ⟨_, hyo, hyb, _⟩ := hst.slot x y hy
      have hyl := (Array.getElem?_eq_some_iff.1 hyb).1
      have hbW : Below w.heap.size w (w2.alloc (.cells #[.int .i64 x.kind, .int .i64 x.a, .int .i64 x.b, .string x.s] 47)) := hB2.alloc hB2.size _
      have hyb4 : (w2.alloc (.cells #[.int .i64 x.kind, .int .i64 x.a, .int .i64 x.b, .string x.s] 47)).heap[y.ad]? = some y.blk := (Below.heap_alloc _ _ _ hyl).trans hyb
      have hO4 := hO2.alloc (.cells #[.int .i64 x.kind, .int .i64 x.a, .int .i64 x.b, .string x.s] 47)
      have hrg4 := hrg2.alloc (.cells #[.int .i64 x.kind, .int .i64 x.a, .int .i64 x.b, .string x.s] 47)
      unfold Ky.val at hen
      unfold Sl.ptr at hen
      have HY := Lib.hid hy
      have HYB := Lib.hid hyb4
      have HYS := Lib.hid hyo.st
      have HLK := Lib.hid hlk
      have HO4 := Lib.hid hO4
      have HR4 := Lib.hid hrg4
      have HBW := Lib.hid hbW
      have HNX := Lib.hid (heap_new w2 (.cells #[.int .i64 x.kind, .int .i64 x.a, .int .i64 x.b, .string x.s] 47))
      have HWZ : Hid (w.heap.size + 1 ≤ w2.heap.size) := Lib.hid (by omega)
      have HLE : Hid (left = left) := Lib.hid rfl
      clear hs2 hat hv hkey hlk hyd hgx hrg2 hg2 ex hyb hyo hyl hst hB2 hO2 hO4 hrg4 hbW hyb4 hy
      unfold Ky.val Sl.ptr
      cases hp : hasP y
      · have HP := Lib.hid hp
        clear hp
        go_wp2_with (go_at_call 33; refine (has_sl y _ HYS.out HYB.out).mono ?_; rintro e w3 ⟨rfl, nq, rfl⟩; rw [HP.out])
        go_roundw
        case rel => exact ⟨_, cnt2, ks, HR4.out.kept (grown_drewN _ _ none) (by simp) (by simp), by omega, HCP.out.no hxo HY.out HP.out, HO4.out.grown (grown_drewN _ _ none) (fun _ _ e => by cases e), by have := HWZ.out; simp; omega, below_drewN HBW.out _⟩
        case measure => rw [(HR4.out.kept (grown_drewN _ _ none) (by simp) (by simp)).left_eq, hrg.left_eq]; exact hlt
      · have HP := Lib.hid hp
        clear hp
        have HXV := Lib.hid (fun nq => key_new ((w2.alloc (.cells #[.int .i64 x.kind, .int .i64 x.a, .int .i64 x.b, .string x.s] 47)).drewN nq) (w2.heap.size + 1) (by simp) x)
        have HOA := Lib.hid (fun nq => (HO4.out.grown (grown_drewN _ nq none) (fun _ _ e => by cases e)).alloc (.cells #[.int .i64 x.kind, .int .i64 x.a, .int .i64 x.b, .string x.s] 47))
        go_wp2_with (first | (go_at_call 33; refine (has_sl y _ HYS.out HYB.out).mono ?_; rintro e w3 ⟨rfl, nq, rfl⟩; rw [HP.out]) | (at_builtin; refine RowK.wpList_app (k := kK) rfl (.tmp 21) (.tmp 23) rfl rfl (HOA.out _) (some ⟨w2.heap.size + 1, 0, none⟩) 1 [x] 1 rfl rfl (HXV.out _) (fun e => by cases e) (by have := HC.out; simp; omega) (by have := HWZ.out; simp; omega) ?_; intro v8 w8 hA; have HA8 := Lib.hid hA; clear hA) | fail)
        obtain ⟨oA, gA, kA⟩ := HA8.out
        have hne : ∀ j : Nat, j ≤ w.heap.size → some j ≠ (Value.slice a ks.length cap).ownBlock := fun j hj e => by
          have := (HO4.out.lt j e.symm).1
          omega
        have hR8 := ((HR4.out.kept (grown_drewN _ nq none) (by simp) (by simp)).alloc (.cells #[.int .i64 x.kind, .int .i64 x.a, .int .i64 x.b, .string x.s] 47)).kept gA (hne _ (Nat.le_of_lt hlm)) (hne _ (Nat.le_refl _))
        have hB8 := ((below_drewN HBW.out nq).alloc (by have := HWZ.out; simp; omega) (.cells #[.int .i64 x.kind, .int .i64 x.a, .int .i64 x.b, .string x.s] 47)).grown gA (by have := HWZ.out; simp; omega) (fun j hj => by have := (HO4.out.lt j hj).1; omega)
        have hsz8 := gA.size
        simp only [size_alloc, World.drewN] at hsz8
        go_roundw
        case rel => exact ⟨_, cnt2, ks ++ [x], hR8, by simp; omega, HCP.out.yes hxo HY.out HLK.out HP.out, oA, by have := HWZ.out; omega, hB8⟩
        case measure => rw [hR8.left_eq, hrg.left_eq]; exact hlt
/-- the closure of Held captures who -/
theorem held_any (s : Sto) (b : Nat) (who : Int) (w : World) (h : StC w s) (hb : s.sb = b) (hn : s.cnt ≤ 1000000) :
    Calls Tryz.prog 23 #[.pointer (some ⟨b, 0, none⟩), .int .i64 who] w (WhichPost s (heldP who) w) := by
  subst hb
  have hS := h.alloc (.cells #[.int .i64 who] 3)
  have hN := heap_new w (.cells #[.int .i64 who] 3)
  have HC := Lib.hid (whichHeld_any s w.heap.size who _ hS (by rw [cell_of_blk hN]; rfl) (by simp) hn)
  have HB := Lib.hid (below_box w (.cells #[.int .i64 who] 3))
  clear h hS hN
  go_enter Tryz.func23, Tryz.ntmps23
  go_wp2_with fail
  refine HC.out.mono ?_
  rintro e w1 ⟨v, ks, rfl, k1, k2, o1, b1⟩
  obtain ⟨a, cap, rfl⟩ := o1.shape
  have HO := Lib.hid o1
  have HB1 := Lib.hid b1
  have HK := Lib.hid (And.intro k1 k2)
  clear o1 b1 k1 k2
  go_wp2_with fail
  go_ret
  exact ⟨_, ks, rfl, HK.out.1, HK.out.2, HO.out.mono (by simp), below_then HB.out HB1.out⟩
theorem keys_any (s : Sto) (b : Nat) (w : World) (h : StC w s) (hb : s.sb = b) (hn : s.cnt ≤ 1000000) :
    Calls Tryz.prog 10 #[.pointer (some ⟨b, 0, none⟩)] w (WhichPost s hasP w) := by
  subst hb
  have HC := Lib.hid (whichHas_any s w h hn)
  clear h
  go_enter Tryz.func10, Tryz.ntmps10
  go_wp2_with fail
  refine HC.out.mono ?_
  rintro e w1 ⟨v, ks, rfl, k1, k2, o1, b1⟩
  obtain ⟨a, cap, rfl⟩ := o1.shape
  have HO := Lib.hid o1
  have HB1 := Lib.hid b1
  have HK := Lib.hid (And.intro k1 k2)
  clear o1 b1 k1 k2
  go_wp2_with fail
  go_ret
  exact ⟨_, ks, rfl, HK.out.1, HK.out.2, HO.out, HB1.out⟩
end Go.Proofs.YtkhkdedjffkhdaaGreat
namespace Go.Proofs.YtkhkdedjffkhdaaGreat
open Go.RowKit Go.Maps

/-- which, by cells -/
def WhichG (g : Ky → Option Cl) (p : Cl → Bool) (n : Nat) (w : World) (e : Ending) (w' : World) : Prop :=
  ∃ v ks, e = .returned v ∧ KySorted ks ∧ ks.length ≤ n ∧ (∀ k, k ∈ ks ↔ ∃ c, g k = some c ∧ p c = true) ∧ kK.Own w' w.heap.size v ks ∧ Below w.heap.size w w'
def heldC (who : Int) (x : Cl) : Bool := x.lk && (x.who == who)
def hasC (x : Cl) : Bool := !x.ab
theorem WhichPost.g {s : Sto} {p : Sl → Bool} {q : Cl → Bool} {w w' : World} {e : Ending} (h : StC w s) (hq : ∀ x : Sl, p x = q x.cl) (hp : WhichPost s p w e w') : WhichG s.g q s.cnt w e w' := by
  obtain ⟨v, ks, rfl, h1, ⟨_, h3, h4, h5⟩, h6, h7⟩ := hp
  refine ⟨v, ks, rfl, h1, h4, fun k => ?_, h6, h7⟩
  have e1 : (∃ x, s.f k = some x ∧ p x = true) ↔ ∃ c, s.g k = some c ∧ q c = true := by
    unfold Sto.g
    constructor
    · rintro ⟨x, hx, hp⟩
      exact ⟨x.cl, by rw [hx]; rfl, by rw [← hq]; exact hp⟩
    · rintro ⟨c, hc, hp⟩
      cases hf : s.f k with
      | none => rw [hf] at hc; cases hc
      | some x =>
        rw [hf] at hc
        simp only [Option.map_some, Option.some.injEq] at hc
        subst hc
        exact ⟨x, rfl, by rw [hq]; exact hp⟩
  constructor
  · intro hk
    exact e1.1 ((h5 k (h3 k hk)).1 hk)
  · intro hk
    obtain ⟨x, hx, hp⟩ := e1.2 hk
    exact (h5 k (h.slot k x hx).1).2 ⟨x, hx, hp⟩
theorem held_g (s : Sto) (b : Nat) (who : Int) (w : World) (h : StC w s) (hb : s.sb = b) (hn : s.cnt ≤ 1000000) :
    Calls Tryz.prog 23 #[.pointer (some ⟨b, 0, none⟩), .int .i64 who] w (WhichG s.g (heldC who) s.cnt w) :=
  (held_any s b who w h hb hn).mono fun _ _ hp => hp.g h (fun _ => rfl)
theorem keys_g (s : Sto) (b : Nat) (w : World) (h : StC w s) (hb : s.sb = b) (hn : s.cnt ≤ 1000000) :
    Calls Tryz.prog 10 #[.pointer (some ⟨b, 0, none⟩)] w (WhichG s.g hasC s.cnt w) :=
  (keys_any s b w h hb hn).mono fun _ _ hp => hp.g h (fun _ => rfl)
theorem sorted_uniq {α : Type} {R : α → α → Prop} (asy : ∀ a b, R a b → ¬ R b a) : ∀ {a b : List α}, a.Pairwise R → b.Pairwise R → (∀ k, k ∈ a ↔ k ∈ b) → a = b
  | [], [], _, _, _ => rfl
  | [], y :: b, _, _, h => absurd ((h y).2 (List.mem_cons.2 (.inl rfl))) (fun e => by cases e)
  | x :: a, [], _, _, h => absurd ((h x).1 (List.mem_cons.2 (.inl rfl))) (fun e => by cases e)
  | x :: a, y :: b, ha, hb, h => by
    obtain ⟨ha1, ha2⟩ := List.pairwise_cons.1 ha
    obtain ⟨hb1, hb2⟩ := List.pairwise_cons.1 hb
    have e : x = y := Classical.byContradiction fun hn => by
      have h1 : x ∈ b := (List.mem_cons.1 ((h x).1 (List.mem_cons.2 (.inl rfl)))).resolve_left hn
      have h2 : y ∈ a := (List.mem_cons.1 ((h y).2 (List.mem_cons.2 (.inl rfl)))).resolve_left (fun e => hn e.symm)
      exact asy _ _ (ha1 y h2) (hb1 x h1)
    subst e
    have irr : ∀ z, ¬ R z z := fun z hz => asy z z hz hz
    rw [sorted_uniq asy ha2 hb2 (fun k => ⟨fun hk => (List.mem_cons.1 ((h k).1 (List.mem_cons.2 (.inr hk)))).resolve_left (fun e => irr x (by have := ha1 k hk; rw [e] at this; exact this)),
      fun hk => (List.mem_cons.1 ((h k).2 (List.mem_cons.2 (.inr hk)))).resolve_left (fun e => irr x (by have := hb1 k hk; rw [e] at this; exact this))⟩)]
theorem ky_asymm (a b : Ky) (h : a.cmp b < 0) : ¬ b.cmp a < 0 := by
  have := Ky.cmp_neg a b
  omega
theorem KySorted.uniq {a b : List Ky} (ha : KySorted a) (hb : KySorted b) (h : ∀ k, k ∈ a ↔ k ∈ b) : a = b := sorted_uniq ky_asymm ha hb h
theorem len_s (s : Sto) (w : World) (h : StC w s) : Calls Tryz.prog 8 #[.pointer (some ⟨s.ab, 0, none⟩)] w fun e w' => e = .returned (.int .i64 s.cnt) ∧ w = w' := by
  have := h.cnt_le
  refine (len_any s.ab s.bg s.bt s.v s.ar s.c w h.ar).mono ?_
  rintro e w' ⟨rfl, rfl⟩
  exact ⟨ret_int (by omega), rfl⟩
theorem Bx.key {w : World} {s : Sto} {b : Nat} {k : Ky} (h : Bx w s b (.cells #[.int .i64 k.kind, .int .i64 k.a, .int .i64 k.b, .string k.s] 47)) :
    w.cell? ⟨b, 0, none⟩ = some (.int .i64 k.kind) ∧ w.cell? ⟨b, 1, none⟩ = some (.int .i64 k.a) ∧ w.cell? ⟨b, 2, none⟩ = some (.int .i64 k.b) ∧ w.cell? ⟨b, 3, none⟩ = some (.string k.s) ∧ b < w.heap.size :=
  ⟨h.cell 0, h.cell 1, h.cell 2, h.cell 3, h.lt⟩
end Go.Proofs.YtkhkdedjffkhdaaGreat
