/- The store of package cell: New, Lock. Conditions: each contract's own premises. -/
import Derived.Test.YtaanohgkdpohhaaCell3
import Derived.Test.YtaanohgkdpohhaaArenaOncePlain
namespace Go.Proofs.Ytaanohgkdpohhaa
open Go.RowKit Go.Maps

open Classical in
/-- cells, changed at one key -/
noncomputable def setF (f : Ky → Option Sl) (k : Ky) (o : Option Sl) : Ky → Option Sl := fun x => if x = k then o else f x
theorem setF_same (f : Ky → Option Sl) (k : Ky) (o : Option Sl) : setF f k o k = o := by simp [setF]
theorem setF_other (f : Ky → Option Sl) {k k' : Ky} (o : Option Sl) (h : k' ≠ k) : setF f k o k' = f k' := by simp [setF, h]

/-! a slot that is written -/
theorem StC.neXS {w : World} {s : Sto} (h : StC w s) {k : Ky} {x : Sl} (hx : s.f k = some x) : x.ad ≠ s.sb ∧ x.ad ≠ s.mb ∧ ¬ arFp s.ab s.bg s.bt s.v x.ad := by
  have hb := (h.slot k x hx).2.2.1
  refine ⟨?_, ?_, ?_⟩
  · intro e; rw [e, h.blk] at hb; simp [Sl.blk] at hb
  · intro e; obtain ⟨_, _, ⟨_, ⟨_, _, hm, _⟩, _⟩, _⟩ := h.map; rw [e, hm] at hb; cases hb
  · rintro (e | e | e | e)
    · rw [e, h.ar.blk] at hb; simp [Sl.blk] at hb
    · obtain ⟨_, _, ⟨_, ⟨_, _, hm, _⟩, _⟩, _⟩ := h.ar.gens; rw [e, hm] at hb; cases hb
    · obtain ⟨_, _, ⟨_, ⟨_, _, hm, _⟩, _⟩, _⟩ := h.ar.taken; rw [e, hm] at hb; cases hb
    · rcases h.ar.row.2 with ⟨h0, _⟩ | ⟨g, cap, cur, h0, _, hg, _⟩
      · rw [h0] at e; simp [Value.ownBlock] at e
      · rw [h0] at e; simp [Value.ownBlock] at e; rw [← e, hg] at hb; simp [Sl.blk] at hb

/-- the store with the slot x in the place of the one at k, which lies in the same block and has the same handle -/
noncomputable def Sto.put (s : Sto) (k : Ky) (x : Sl) : Sto := { s with f := setF s.f k (some x) }
theorem Sto.put_fp {s : Sto} {k : Ky} {x x' : Sl} (hx : s.f k = some x) (ha : x'.ad = x.ad) {i : Nat} (hi : (s.put k x').fp i) : s.fp i := by
  rcases hi with e | e | e | ⟨k', y, hy, e⟩
  · exact .inl e
  · exact .inr (.inl e)
  · exact .inr (.inr (.inl e))
  · by_cases ek : k' = k
    · subst ek
      simp only [Sto.put, setF_same] at hy
      cases hy
      exact .inr (.inr (.inr ⟨k', x, hx, by rw [← e, ha]⟩))
    · simp only [Sto.put, setF_other _ _ ek] at hy
      exact .inr (.inr (.inr ⟨k', y, hy, e⟩))
theorem StC.put {w w' : World} {s : Sto} (h : StC w s) {k : Ky} {x x' : Sl} (hx : s.f k = some x) (ha : x'.ad = x.ad) (h1 : x'.hs = x.hs) (h2 : x'.hg = x.hg) (ho : x'.Ok)
    (hb : w'.heap[x.ad]? = some x'.blk) (hr : ∀ i, i < w.heap.size → i ≠ x.ad → w'.heap[i]? = w.heap[i]?) : StC w' (s.put k x') := by
  obtain ⟨n, g, m, hn, hg⟩ := h.map
  obtain ⟨n1, n2, n3⟩ := h.neXS hx
  refine ⟨(hr _ h.ltS n1.symm).trans h.blk, h.ar.keep (fun i hi => hr i (h.ar.lt hi) (fun e => n3 (e ▸ hi))), ⟨n, g, m.of_block (hr _ h.ltM n2.symm), hn, fun y hy => ?_⟩, fun y z hz => ?_, fun y y' z z' hz hz' hne => ?_, h.ne⟩
  · rw [hg y hy]
    by_cases e : y = k
    · subst e; simp [Sto.put, setF_same, hx, Sl.ptr, ha]
    · simp [Sto.put, setF_other _ _ e]
  · by_cases e : y = k
    · subst e
      simp only [Sto.put, setF_same] at hz
      cases hz
      have := h.slot y x hx
      exact ⟨this.1, ho, by rw [ha]; exact hb, by rw [h1, h2]; exact this.2.2.2⟩
    · simp only [Sto.put, setF_other _ _ e] at hz
      have := h.slot y z hz
      exact ⟨this.1, this.2.1, (hr _ (h.ltX hz) (h.apart _ _ _ _ hz hx e).1).trans this.2.2.1, this.2.2.2⟩
  · by_cases e : y = k
    · subst e
      simp only [Sto.put, setF_same] at hz
      cases hz
      simp only [Sto.put, setF_other _ _ (Ne.symm hne)] at hz'
      have := h.apart _ _ _ _ hx hz' hne
      rw [ha, h1]; exact this
    · simp only [Sto.put, setF_other _ _ e] at hz
      by_cases e' : y' = k
      · subst e'
        simp only [Sto.put, setF_same] at hz'
        cases hz'
        have := h.apart _ _ _ _ hz hx hne
        rw [ha, h1]; exact this
      · simp only [Sto.put, setF_other _ _ e'] at hz'
        exact h.apart _ _ _ _ hz hz' hne
theorem StC.put_post {w w' : World} {s : Sto} (h : StC w s) {k : Ky} {x x' : Sl} (hx : s.f k = some x) (ha : x'.ad = x.ad) (h1 : x'.hs = x.hs) (h2 : x'.hg = x.hg) (ho : x'.Ok) (hc : Chg w w' (fun i => i = x.ad))
    (hb : w'.heap[x.ad]? = some x'.blk) (r : Value) : StPost w s (s.put k x') r (.returned r) w' :=
  ⟨rfl, h.put hx ha h1 h2 ho hb (fun i hi hn => hc.block i hi hn), hc.mono (fun _ _ e => .inr (.inr (.inr ⟨k, x, hx, e.symm⟩))), fun _ hi => .inl (Sto.put_fp hx ha hi)⟩

set_option maxHeartbeats 400000 in
theorem lock_busy (s : Sto) (k : Ky) (x : Sl) (who : Int) (w : World) (h : StC w s) (hk : k.Ok) (hx : s.f k = some x) (hlk : x.lk = true) :
    Calls Try.prog 17 #[.pointer (some ⟨s.sb, 0, none⟩), .agg #[.int .i64 k.kind, .int .i64 k.a, .int .i64 k.b, .string k.s], .int .i64 who] w fun e w' => e = .returned (.tuple #[.int .u64 0, .int .i64 60]) ∧ Below w.heap.size w w' := by
  obtain ⟨_, c1, hl, lk0⟩ := h.pre hk
  have lk := lk0 (.cells #[.int .i64 k.kind, .int .i64 k.a, .int .i64 k.b, .string k.s] 32)
  rw [hx] at lk
  simp only [ptrOf, Option.map_some, Option.getD_some, Sl.ptr] at lk
  obtain ⟨_, _, c2, c3, c4, hxl⟩ := h.cells hx
  have hs := Lib.hid (h.slot k x hx).2.1.st
  rw [hlk] at c2
  clear h hx hlk lk0
  go_enter Try.func17, Try.ntmps17
  go_wp2
  go_quiet (fail)
  go_wp2_with (go_at_call 79; refine (lock_wd _ _ _ _ hs.out).mono ?_; rintro e w' ⟨rfl, rfl⟩)
  go_ret2
  exact ⟨rfl, below_drewN ((Below.refl _ _).alloc (Nat.le_refl _) _) _⟩

theorem blk_box {w : World} {X Y : Obj} {a : Nat} (h : w.heap[a]? = some Y) (n : Nat) : ((w.alloc X).drewN n).heap[a]? = some Y :=
  (Below.heap_alloc w X a (Array.getElem?_eq_some_iff.1 h).1).trans h
theorem chg_box (w : World) (X : Obj) (n : Nat) (S : Nat → Prop) : Chg w ((w.alloc X).drewN n) S := ((Chg.refl w S).alloc X).drewN n

set_option maxHeartbeats 400000 in
theorem lock_free (s : Sto) (k : Ky) (x : Sl) (who : Int) (w : World) (h : StC w s) (hk : k.Ok) (hw : I64 who) (hx : s.f k = some x) (hlk : x.lk = false) :
    Calls Try.prog 17 #[.pointer (some ⟨s.sb, 0, none⟩), .agg #[.int .i64 k.kind, .int .i64 k.a, .int .i64 k.b, .string k.s], .int .i64 who] w (StPost w s (s.put k { x with lk := true, who := who }) (.tuple #[.int .u64 x.st, .int .i64 0])) := by
  obtain ⟨_, c1, hl, lk0⟩ := h.pre hk
  have lk := lk0 (.cells #[.int .i64 k.kind, .int .i64 k.a, .int .i64 k.b, .string k.s] 32)
  rw [hx] at lk
  simp only [ptrOf, Option.map_some, Option.getD_some, Sl.ptr] at lk
  obtain ⟨_, _, c2, c3, c4, hxl⟩ := h.cells hx
  have hs := Lib.hid (h.slot k x hx).2.1.st
  have hb := (h.slot k x hx).2.2.1
  have f2 := frozen_of_blk hb 2
  have f4 := frozen_of_blk hb 4
  have HB := Lib.hid hb
  have HX := Lib.hid hx
  have HL := Lib.hid hlk
  rw [hlk] at c2
  clear hx hlk lk0 hb
  go_enter Try.func17, Try.ntmps17
  go_wp2
  go_quiet (fail)
  go_wp2_with (first | (go_at_call 79; refine (lock_wd _ _ _ _ hs.out).mono ?_; rintro e w' ⟨rfl, rfl⟩) | (go_at_call 80; refine (stamp_wd _ _ _ _ hs.out).mono ?_; rintro e w' ⟨rfl, rfl⟩))
  go_ret2
  refine h.put_post (x' := { x with lk := true, who := who }) HX.out rfl rfl rfl ⟨(h.slot k x HX.out).2.1.st, (h.slot k x HX.out).2.1.text, hw⟩ (((chg_box w _ _ (fun i => i = x.ad)).setCell (fun _ => rfl) _).setCell (fun _ => rfl) _) ?_ _
  rw [blk_setCell (blk_setCell (blk_box HB.out _) _)]
  rfl

theorem absent_zero (w : World) : Calls Try.prog 78 #[.int .u64 0, .bool true] w fun e w' => e = .returned (.int .u64 (wd 0 false true)) ∧ w = w' := absent_wd 0 false false true w Sm.zero

theorem new_store_bad (rm : Int) (w : World) (h : rm < 0 ∨ 1048576 < rm) : Calls Try.prog 16 #[.int .i64 rm] w fun e w' => e = .returned (.tuple #[.pointer none, .int .i64 2]) ∧ w = w' := by
  go_enter Try.func16, Try.ntmps16
  go_wp2_with (go_at_call 76; refine (new_bad _ _ h).mono ?_; rintro e w' ⟨rfl, rfl⟩)
  go_ret2
  exact ⟨rfl, rfl⟩

/-- a store of which nothing was taken yet -/
def Sto.made (w w1 : World) (rm : Nat) : Sto := { sb := w1.heap.size + 1, ab := w.heap.size + 2, bg := w.heap.size, bt := w.heap.size + 1, mb := w1.heap.size, v := .slice none 0 0, ar := Ar.made rm, c := 0, f := fun _ => none }
def NewPost (w : World) (rm : Nat) (e : Ending) (w' : World) : Prop := ∃ w1, e = .returned (.tuple #[.pointer (some ⟨(Sto.made w w1 rm).sb, 0, none⟩), .int .i64 0]) ∧ StS w w' (Sto.made w w1 rm)
theorem new_close {w w1 : World} {rm : Nat} (hA : ArC w1 (w.heap.size + 2) w.heap.size (w.heap.size + 1) (.slice none 0 0) (Ar.made rm) 0) (hb : Below w.heap.size w w1) :
    StS w ((w1.alloc (.map #[] 0)).alloc (.cells #[.pointer (some ⟨w.heap.size + 2, 0, none⟩), .map (some w1.heap.size)] 42)) (Sto.made w w1 rm) := by
  have hz := hA.ltA
  refine ⟨⟨?_, ?_, ?_, ?_, ?_, ?_⟩, ?_, ?_⟩
  · have := heap_new (w1.alloc (.map #[] 0)) (.cells #[.pointer (some ⟨w.heap.size + 2, 0, none⟩), .map (some w1.heap.size)] 42)
    rw [size_alloc] at this
    exact this
  · exact (hA.alloc _).alloc _
  · exact ⟨0, _, (mapR_made w1 Try.prog 32).of_block (Below.heap_alloc _ _ _ (by rw [size_alloc]; exact Nat.lt_succ_self _)), rfl, fun k _ => rfl⟩
  · intro k x hx; cases hx
  · intro k k' x x' hx; cases hx
  · have := hA.ltG; have := hA.ltT
    exact ⟨by show w1.heap.size ≠ w.heap.size; omega, by show w1.heap.size ≠ w.heap.size + 1; omega⟩
  · exact (hb.alloc hb.size _).alloc (by rw [size_alloc]; have := hb.size; omega) _
  · have := hb.size
    rintro i (e | e | e | ⟨k, x, hx, _⟩)
    · rw [e]; show w.heap.size ≤ w1.heap.size + 1; omega
    · rw [e]; exact this
    · exact (ArS.made hA hb).own i e
    · cases hx
theorem new_store (rm : Nat) (w : World) (h1 : rm ≤ 1048576) : Calls Try.prog 16 #[.int .i64 rm] w (NewPost w rm) := by
  have hmm := @run_makeMap Try.prog
  go_enter Try.func16, Try.ntmps16
  go_wp2_with (go_at_call 76; refine (new_any rm w h1).mono ?_; rintro e w1 ⟨rfl, hA, hb⟩)
  go_ret2
  exact ⟨w1, rfl, new_close hA hb⟩

theorem take_fullB (ab bg bt : Nat) (v : Value) (s : Ar) (c : Nat) (w : World) (h : ArC w ab bg bt v s c) (hs : s.free = []) (hr : s.fresh = s.room) :
    Calls Try.prog 77 #[.pointer (some ⟨ab, 0, none⟩)] w fun e w' => e = .returned (.tuple #[.agg #[.int .i64 0, .int .i64 0], .int .i64 50]) ∧ Below w.heap.size w w' := by
  have hrow := h.row
  rw [hs] at hrow
  obtain ⟨a, cap, rfl⟩ := emptySlice hrow
  have c0 := cell_of_blk h.blk 0
  have c3 := cell_of_blk h.blk 3
  have c4 := cell_of_blk h.blk 4
  simp at c0 c3 c4
  rw [hr] at c4
  exact take_full0 ab s.room a cap w c0 c3 c4 h.ltA

set_option maxRecDepth 100000 in
set_option maxHeartbeats 400000 in
theorem lock_full (s : Sto) (k : Ky) (who : Int) (w : World) (h : StC w s) (hk : k.Ok) (hx : s.f k = none) (h1 : s.ar.free = []) (h2 : s.ar.fresh = s.ar.room) :
    Calls Try.prog 17 #[.pointer (some ⟨s.sb, 0, none⟩), .agg #[.int .i64 k.kind, .int .i64 k.a, .int .i64 k.b, .string k.s], .int .i64 who] w fun e w' => e = .returned (.tuple #[.int .u64 0, .int .i64 50]) ∧ Below w.heap.size w w' := by
  obtain ⟨c0, c1, hl, lk0⟩ := h.pre hk
  have lk := lk0 (.cells #[.int .i64 k.kind, .int .i64 k.a, .int .i64 k.b, .string k.s] 32)
  rw [hx] at lk
  simp only [ptrOf, Option.map_none, Option.getD_none] at lk
  have H1 := Lib.hid h1
  have H2 := Lib.hid h2
  have hW : ∀ X n, ArC ((w.alloc X).drewN n) s.ab s.bg s.bt s.v s.ar s.c := fun X n => (h.ar.alloc X).keep (fun _ _ => rfl)
  clear hx lk0 h1 h2 h
  go_enter Try.func17, Try.ntmps17
  go_wp2
  go_quiet (fail)
  go_wp2_with (go_at_call 77; refine (take_fullB _ _ _ _ _ _ _ (hW _ _) H1.out H2.out).mono ?_; rintro e w1 ⟨rfl, hb⟩)
  go_ret2
  exact ⟨rfl, (((below_drewN ((Below.refl _ _).alloc (Nat.le_refl _) _) _).trans (hb.mono (by simp))).alloc (by have := hb.size; simp at this; omega) _)⟩

def LockPost (w : World) (s : Sto) (k : Ky) (x g who : Int) (e : Ending) (w' : World) : Prop :=
  ∃ (ad : Nat) (v' : Value), StPost w s { s with v := v', ar := s.ar.take, f := setF s.f k (some ⟨ad, x, g, 0, true, true, ⟨#[]⟩, who⟩) } (.tuple #[.int .u64 0, .int .i64 0]) e w'

theorem StC.neS {w : World} {s : Sto} (h : StC w s) : s.sb ≠ s.mb ∧ ¬ arFp s.ab s.bg s.bt s.v s.sb := by
  have hb := h.blk
  refine ⟨?_, ?_⟩
  · intro e; obtain ⟨_, _, ⟨_, ⟨_, _, hm, _⟩, _⟩, _⟩ := h.map; rw [e, hm] at hb; cases hb
  · rintro (e | e | e | e)
    · rw [e, h.ar.blk] at hb; simp at hb
    · obtain ⟨_, _, ⟨_, ⟨_, _, hm, _⟩, _⟩, _⟩ := h.ar.gens; rw [e, hm] at hb; cases hb
    · obtain ⟨_, _, ⟨_, ⟨_, _, hm, _⟩, _⟩, _⟩ := h.ar.taken; rw [e, hm] at hb; cases hb
    · rcases h.ar.row.2 with ⟨h0, _⟩ | ⟨g, cap, cur, h0, _, hg, _⟩
      · rw [h0] at e; simp [Value.ownBlock] at e
      · rw [h0] at e; simp [Value.ownBlock] at e; rw [← e, hg] at hb; simp at hb
theorem StC.neM {w : World} {s : Sto} (h : StC w s) : ¬ arFp s.ab s.bg s.bt s.v s.mb := by
  obtain ⟨_, _, ⟨_, ⟨_, _, hb, _⟩, _⟩, _⟩ := h.map
  rintro (e | e | e | e)
  · rw [e, h.ar.blk] at hb; cases hb
  · exact h.ne.1 e
  · exact h.ne.2 e
  · rcases h.ar.row.2 with ⟨h0, _⟩ | ⟨g, cap, cur, h0, _, hg, _⟩
    · rw [h0] at e; simp [Value.ownBlock] at e
    · rw [h0] at e; simp [Value.ownBlock] at e; rw [← e, hg] at hb; cases hb

theorem lock_close {w w1 w2 W : World} {s : Sto} (h : StC w s) {k : Ky} (hk : k.Ok) (hx : s.f k = none) {x g who : Int} (hw : I64 who) (hr : s.ar.takeRes = (x, g, 0)) {K H : Obj} {nq : Nat} {v1 : Value}
    (hA1 : ArC w1 s.ab s.bg s.bt v1 s.ar.take s.c) (hc1 : Chg ((w.alloc K).drewN nq) w1 (arFp s.ab s.bg s.bt s.v)) (ho1 : ∀ i, v1.ownBlock = some i → s.v.ownBlock = some i ∨ ((w.alloc K).drewN nq).heap.size ≤ i)
    {n : Nat} {gm : Lit → Option Value} (hn : n + s.ar.free.length = s.ar.fresh) (hg : ∀ k, k.Ok → gm k.lit = (s.f k).map Sl.ptr)
    (hW : W.heap = ((w1.alloc H).alloc (.cells #[.int .i64 x, .int .i64 g, .int .u64 (wd 0 false true), .string ⟨#[]⟩, .int .i64 0] 148)).heap) (hWo : Chg w1 W (fun _ => False))
    (m2 : mapR w2 Try.prog 32 s.mb (if (gm k.lit).isSome then n else n + 1) (upd gm k.lit (some (.pointer (some ⟨w1.heap.size + 1, 0, none⟩))))) (t2 : W.mapTurned w2 s.mb) :
    LockPost w s k x g who (.returned (.tuple #[.int .u64 0, .int .i64 0])) ((w2.setCell ⟨w1.heap.size + 1, 2, none⟩ (.int .u64 (wd 0 true true))).setCell ⟨w1.heap.size + 1, 4, none⟩ (.int .i64 who)) := by
  have hz1 := hc1.size
  have hz0 : ((w.alloc K).drewN nq).heap.size = w.heap.size + 1 := size_alloc w K
  rw [hz0] at hz1 ho1
  have hzW : W.heap.size = w1.heap.size + 2 := by rw [hW, size_alloc, size_alloc]
  have hz2 := turned_size t2
  have oldW : ∀ i, i < w1.heap.size → W.heap[i]? = w1.heap[i]? := fun i hi => by
    rw [hW, Below.heap_alloc _ _ _ (by rw [size_alloc]; omega), Below.heap_alloc _ _ _ hi]
  have old1 : ∀ i, i < w.heap.size → ¬ arFp s.ab s.bg s.bt s.v i → w1.heap[i]? = w.heap[i]? := fun i hi hn => by
    rw [hc1.block i (by rw [hz0]; omega) hn]
    exact Below.heap_alloc w K i hi
  obtain ⟨w3, hw3⟩ : ∃ w3, w3 = (w2.setCell ⟨w1.heap.size + 1, 2, none⟩ (.int .u64 (wd 0 true true))).setCell ⟨w1.heap.size + 1, 4, none⟩ (.int .i64 who) := ⟨_, rfl⟩
  have e3 : ∀ i, i ≠ w1.heap.size + 1 → w3.heap[i]? = w2.heap[i]? := fun i hi => by
    rw [hw3, Below.heap_setCell _ _ _ _ hi, Below.heap_setCell _ _ _ _ hi]
  have old3 : ∀ i, i < w1.heap.size → i ≠ s.mb → w3.heap[i]? = w1.heap[i]? := fun i hi hm => by
    rw [e3 i (by omega), turned_block t2 hm, oldW i hi]
  have lM := h.ltM
  have lS := h.ltS
  have new3 : w3.heap[w1.heap.size + 1]? = some (Sl.blk ⟨w1.heap.size + 1, x, g, 0, true, true, ⟨#[]⟩, who⟩) := by
    have : w2.heap[w1.heap.size + 1]? = some (.cells #[.int .i64 x, .int .i64 g, .int .u64 (wd 0 false true), .string ⟨#[]⟩, .int .i64 0] 148) := by
      rw [turned_block t2 (by omega), hW]
      have := heap_new (w1.alloc H) (.cells #[.int .i64 x, .int .i64 g, .int .u64 (wd 0 false true), .string ⟨#[]⟩, .int .i64 0] 148)
      rw [size_alloc] at this
      exact this
    rw [hw3, blk_setCell (blk_setCell this _)]
    rfl
  have nM1 : ¬ arFp s.ab s.bg s.bt v1 s.mb := by
    rintro (e | e | e | e)
    · exact h.neM (.inl e)
    · exact h.neM (.inr (.inl e))
    · exact h.neM (.inr (.inr (.inl e)))
    · rcases ho1 _ e with e' | e'
      · exact h.neM (.inr (.inr (.inr e')))
      · omega
  have hgk : gm k.lit = none := by rw [hg k hk, hx]; rfl
  rcases Ar.take_cases h.ar.ok with ⟨_, _, e, _⟩ | ⟨x', e, tk0, tk1, tk2, tk3, tk4, tk5, tk6, tk7, _⟩
  · rw [hr] at e; cases e
  rw [hr] at e
  obtain ⟨rfl, rfl⟩ : x = x' ∧ g = s.ar.gens x' := by simpa using e
  have live_old : ∀ y z, s.ar.live y z = true → s.ar.take.live y z = true ∧ y ≠ x := fun y z hl => by
    unfold Ar.live at hl ⊢
    rw [tk3, tk4]
    simp only [Bool.and_eq_true] at hl
    refine ⟨by simp [hl.1, hl.2], fun e => ?_⟩
    rw [e, tk0] at hl; simp at hl
  rw [← hw3]
  refine ⟨w1.heap.size + 1, v1, rfl, ⟨?_, ?_, ?_, ?_, ?_, h.ne⟩, ?_, ?_⟩
  · exact (old3 _ (by omega) h.neS.1).trans ((old1 _ lS h.neS.2).trans h.blk)
  · exact hA1.keep (fun i hi => old3 i (hA1.lt hi) (fun e => nM1 (e ▸ hi)))
  · refine ⟨_, _, m2.of_block (e3 _ (by omega)), ?_, fun y hy => ?_⟩
    · rw [hgk]; simp; show n + 1 + s.ar.take.free.length = s.ar.take.fresh; omega
    · unfold upd
      by_cases e : y = k
      · subst e; simp [setF_same, Sl.ptr]
      · rw [if_neg (fun e' => e (lit_inj hy hk e')), hg y hy]; simp [setF_other _ _ e]
  · intro y z hz
    by_cases e : y = k
    · subst e
      simp only [setF_same] at hz
      cases hz
      refine ⟨hk, ⟨Sm.zero, Nat.zero_le _, hw⟩, new3, ?_⟩
      show s.ar.take.live x (s.ar.gens x) = true
      unfold Ar.live
      rw [tk3, tk4]; simp
    · simp only [setF_other _ _ e] at hz
      have hs := h.slot y z hz
      have hn := h.neXS hz
      have := h.ltX hz
      exact ⟨hs.1, hs.2.1, (old3 _ (by omega) hn.2.1).trans ((old1 _ this hn.2.2).trans hs.2.2.1), (live_old _ _ hs.2.2.2).1⟩
  · intro y y' z z' hz hz' hne
    by_cases e : y = k
    · subst e
      simp only [setF_same] at hz
      cases hz
      simp only [setF_other _ _ (Ne.symm hne)] at hz'
      have := h.ltX hz'
      refine ⟨?_, fun e => (live_old _ _ (h.slot _ _ hz').2.2.2).2 e.symm⟩
      show w1.heap.size + 1 ≠ _
      omega
    · simp only [setF_other _ _ e] at hz
      by_cases e' : y' = k
      · subst e'
        simp only [setF_same] at hz'
        cases hz'
        have := h.ltX hz
        refine ⟨?_, fun e => (live_old _ _ (h.slot _ _ hz).2.2.2).2 e⟩
        show _ ≠ w1.heap.size + 1
        omega
      · simp only [setF_other _ _ e'] at hz'
        exact h.apart _ _ _ _ hz hz' hne
  · have c1 : Chg w w1 s.fp := (chg_box w K nq s.fp).trans hc1 (fun i _ hi => .inr (.inr (.inl hi)))
    have c2 : Chg w w2 s.fp := (c1.trans hWo (fun _ _ e => e.elim)).turned t2 (fun _ => .inr (.inl rfl))
    rw [hw3]
    exact (c2.setCell (fun e => by have : w1.heap.size + 1 < w.heap.size := e; omega) _).setCell (fun e => by have : w1.heap.size + 1 < w.heap.size := e; omega) _
  · rintro i (e | e | (e | e | e | e) | ⟨y, z, hz, e⟩)
    · exact .inl (.inl e)
    · exact .inl (.inr (.inl e))
    · exact .inl (.inr (.inr (.inl (.inl e))))
    · exact .inl (.inr (.inr (.inl (.inr (.inl e)))))
    · exact .inl (.inr (.inr (.inl (.inr (.inr (.inl e))))))
    · rcases ho1 i e with e' | e'
      · exact .inl (.inr (.inr (.inl (.inr (.inr (.inr e'))))))
      · right; omega
    · by_cases ey : y = k
      · subst ey
        simp only [setF_same] at hz
        cases hz
        right
        have : w1.heap.size + 1 = i := e
        omega
      · simp only [setF_other _ _ ey] at hz
        exact .inl (.inr (.inr (.inr ⟨y, z, hz, e⟩)))

set_option maxRecDepth 100000 in
set_option maxHeartbeats 400000 in
theorem lock_new (s : Sto) (k : Ky) (who : Int) (w : World) (h : StC w s) (hk : k.Ok) (hw : I64 who) (hx : s.f k = none) (x g : Int) (hr : s.ar.takeRes = (x, g, 0)) :
    Calls Try.prog 17 #[.pointer (some ⟨s.sb, 0, none⟩), .agg #[.int .i64 k.kind, .int .i64 k.a, .int .i64 k.b, .string k.s], .int .i64 who] w (LockPost w s k x g who) := by
  obtain ⟨c0, c1, hl, lk0⟩ := h.pre hk
  have lk := lk0 (.cells #[.int .i64 k.kind, .int .i64 k.a, .int .i64 k.b, .string k.s] 32)
  rw [hx] at lk
  simp only [ptrOf, Option.map_none, Option.getD_none] at lk
  have HX := Lib.hid hx
  have HR := Lib.hid hr
  have hW : ∀ X n, ArC ((w.alloc X).drewN n) s.ab s.bg s.bt s.v s.ar s.c := fun X n => (h.ar.alloc X).keep (fun _ _ => rfl)
  clear hx lk0 hr
  go_enter Try.func17, Try.ntmps17
  go_wp2
  go_quiet (fail)
  go_wp2_with fail
  refine (take_to _ _ _ _ _ _ _ _ _ _ (hW _ _) HR.out).mono ?_
  rintro e w1 ⟨rfl, v1, hA1, hc1, ho1⟩
  have hz1 : w.heap.size < w1.heap.size := by have := hc1.size; simp at this; omega
  have hK : w1.heap[w.heap.size]? = some (.cells #[.int .i64 k.kind, .int .i64 k.a, .int .i64 k.b, .string k.s] 32) :=
    (hc1.block _ (by simp) (fun e => by have := h.ar.lt e; omega)).trans (heap_new w _)
  have hS : w1.heap[s.sb]? = _ := (hc1.block _ (by simp; omega) h.neS.2).trans ((Below.heap_alloc w _ _ h.ltS).trans h.blk)
  have hM : w1.heap[s.mb]? = w.heap[s.mb]? := (hc1.block _ (by have := h.ltM; simp; omega) h.neM).trans (Below.heap_alloc w _ _ h.ltM)
  have k0 := cell_of_blk hK 0
  have k1 := cell_of_blk hK 1
  have k2 := cell_of_blk hK 2
  have k3 := cell_of_blk hK 3
  have d1 := cell_of_blk hS 1
  simp at k0 k1 k2 k3 d1
  have ls1 : s.sb < w1.heap.size := by omega
  obtain ⟨n, gm, m0, hn, hg⟩ := h.map
  have lm1 : s.mb < w1.heap.size := by have := h.ltM; omega
  have hnl : n < maxLen := by have := h.ar.ok.fresh; have := h.ar.ok.room; unfold maxLen; omega
  have m1 : ∀ A B : Obj, mapR ((w1.alloc A).alloc B) Try.prog 32 s.mb n gm := fun A B => m0.of_block ((Below.heap_alloc (w1.alloc A) B _ (by rw [size_alloc]; omega)).trans ((Below.heap_alloc w1 A _ lm1).trans hM))
  have HM := Lib.hid hM
  have HN := Lib.hid hn
  have HG := Lib.hid hg
  clear hM hn hg hK hS c0 c1 hl lk
  go_wp2_with fail
  go_region_with (go_at_call 78; refine (absent_zero _).mono ?_; rintro e w' ⟨rfl, rfl⟩)
  all_goals
    go_wp2_with fail
    refine wp_region_still_tail 6 (by kernel_rfl) (by kernel_rfl) ?_
    change wpStill _ _ (World.drew _) (fun a' => wpList _ _ _ _ a' (World.drew _)) _ _
    simp only [List.take_succ_cons, List.take_zero, List.drop_succ_cons, List.drop_zero]
    repeat still_step
    refine wpStill_nil ?_
    go_wp2_with (first | (at_mapUpdate; go_must (refine wpList_store _ rfl _ _ _ 40 rfl 32 143 lawKey Try.underlying40 s.mb n gm rfl ((m1 _ _).of_block rfl) hnl _ (.pointer (some ⟨w1.heap.size + 1, 0, none⟩)) _ rfl rfl (keyK hk) ?_; intro w2 m2 t2 c2 f2 z2)) | (go_at_call 79; refine (lock_wd 0 false true _ Sm.zero).mono ?_; rintro e w' ⟨rfl, rfl⟩) | (go_at_call 80; refine (stamp_wd 0 true true _ Sm.zero).mono ?_; rintro e w' ⟨rfl, rfl⟩))
    go_ret2
    refine lock_close (H := .cells #[.int .i64 x, .int .i64 g] 44) h hk HX.out hw HR.out hA1 hc1 ho1 HN.out HG.out ?_ ?_ m2 t2
    · rfl
    · exact ((((Chg.refl w1 _).alloc _).alloc _).drew).drew
end Go.Proofs.Ytaanohgkdpohhaa
