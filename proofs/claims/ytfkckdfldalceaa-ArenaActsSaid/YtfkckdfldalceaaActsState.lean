/- ArenaActs: the arena, the reference's arena and the act at hand side by side in memory. Conditions: each lemma's own premises. -/
import Derived.Test.YtfkckdfldalceaaNamed5
import Derived.Test.YtfkckdfldalceaaManyLawPlain
namespace Go.Proofs.Ytfkckdfldalceaa
open Go.RowKit Go.Maps

structure Duo (w w0 wr : World) (ab bg bt : Nat) (v : Value) (s : Ar) (c rb : Nat) (fv tv : Value) (F T : List (Int × Int)) : Prop where
  A : ArS w wr ab bg bt v s c
  R : RfC w0 wr rb fv tv F T
  b0 : w.heap.size ≤ w0.heap.size
  b1 : w0.heap.size ≤ rb
  dis : ∀ k, arFp ab bg bt v k → ¬ rfFp rb fv tv k
  inv : RefInv s F T

section
variable {w w0 wr w' : World} {ab bg bt : Nat} {v v' : Value} {s s' : Ar} {c c' rb : Nat} {fv tv fv' tv' : Value} {F T F' T' : List (Int × Int)} {xb : Nat} {X : Obj}
theorem Duo.oR (h : Duo w w0 wr ab bg bt v s c rb fv tv F T) {k : Nat} (hk : rfFp rb fv tv k) : w.heap.size ≤ k := by
  have := h.b0; have := h.b1
  rcases hk with rfl | hk | hk
  · omega
  · have := (h.R.hF.lt hk).1; omega
  · have := (h.R.hT.lt hk).1; omega
theorem Duo.below (h : Duo w w0 wr ab bg bt v s c rb fv tv F T) (hb : Below wr.heap.size wr w') : Duo w w0 w' ab bg bt v s c rb fv tv F T :=
  ⟨h.A.below hb, h.R.below hb, h.b0, h.b1, h.dis, h.inv⟩

/-- without the plain tie -/
structure Duo0 (w w0 wr : World) (ab bg bt : Nat) (v : Value) (s : Ar) (c rb : Nat) (fv tv : Value) (F T : List (Int × Int)) (xb : Nat) (X : Obj) : Prop where
  A : ArS w wr ab bg bt v s c
  R : RfC w0 wr rb fv tv F T
  b0 : w.heap.size ≤ w0.heap.size
  b1 : w0.heap.size ≤ rb
  dis : ∀ k, arFp ab bg bt v k → ¬ rfFp rb fv tv k
  box : wr.heap[xb]? = some X
  bA : ¬ arFp ab bg bt v xb
  bR : ¬ rfFp rb fv tv xb
theorem Duo0.oR (h : Duo0 w w0 wr ab bg bt v s c rb fv tv F T xb X) {k : Nat} (hk : rfFp rb fv tv k) : w.heap.size ≤ k := by
  have := h.b0; have := h.b1
  rcases hk with rfl | hk | hk
  · omega
  · have := (h.R.hF.lt hk).1; omega
  · have := (h.R.hT.lt hk).1; omega
theorem Duo0.ltX (h : Duo0 w w0 wr ab bg bt v s c rb fv tv F T xb X) : xb < wr.heap.size := (Array.getElem?_eq_some_iff.1 h.box).1
theorem Duo.boxed (h : Duo w w0 wr ab bg bt v s c rb fv tv F T) (X : Obj) : Duo0 w w0 (wr.alloc X) ab bg bt v s c rb fv tv F T wr.heap.size X := by
  have hb : Below wr.heap.size wr (wr.alloc X) := (Below.refl _ _).alloc (Nat.le_refl _) _
  exact ⟨h.A.below hb, h.R.below hb, h.b0, h.b1, h.dis, heap_new wr X, fun e => Nat.lt_irrefl _ (h.A.ar.lt e), fun e => Nat.lt_irrefl _ (h.R.lt e)⟩
theorem Duo0.below (h : Duo0 w w0 wr ab bg bt v s c rb fv tv F T xb X) (hb : Below wr.heap.size wr w') : Duo0 w w0 w' ab bg bt v s c rb fv tv F T xb X :=
  ⟨h.A.below hb, h.R.below hb, h.b0, h.b1, h.dis, (hb.block _ h.ltX).trans h.box, h.bA, h.bR⟩
theorem Duo0.alloc (h : Duo0 w w0 wr ab bg bt v s c rb fv tv F T xb X) (Y : Obj) : Duo0 w w0 (wr.alloc Y) ab bg bt v s c rb fv tv F T xb X := h.below ((Below.refl _ _).alloc (Nat.le_refl _) _)
theorem Duo0.stepA (h : Duo0 w w0 wr ab bg bt v s c rb fv tv F T xb X) (hA : ArC w' ab bg bt v' s' c') (hc : Chg wr w' (arFp ab bg bt v)) (ho : ∀ k, v'.ownBlock = some k → v.ownBlock = some k ∨ wr.heap.size ≤ k) :
    Duo0 w w0 w' ab bg bt v' s' c' rb fv tv F T xb X := by
  have hx := h.ltX
  refine ⟨h.A.step hA hc ho, h.R.keep (fun k hk => hc.block k (h.R.lt hk) (fun e => h.dis k e hk)) hc.size, h.b0, h.b1, ?_, (hc.block _ hx h.bA).trans h.box, ?_, h.bR⟩
  · rintro k (e | e | e | e) hk
    · exact h.dis k (.inl e) hk
    · exact h.dis k (.inr (.inl e)) hk
    · exact h.dis k (.inr (.inr (.inl e))) hk
    · rcases ho k e with e' | e'
      · exact h.dis k (.inr (.inr (.inr e'))) hk
      · have := h.R.lt hk; omega
  · rintro (e | e | e | e)
    · exact h.bA (.inl e)
    · exact h.bA (.inr (.inl e))
    · exact h.bA (.inr (.inr (.inl e)))
    · rcases ho _ e with e' | e'
      · exact h.bA (.inr (.inr (.inr e')))
      · omega
theorem Duo0.stepR (h : Duo0 w w0 wr ab bg bt v s c rb fv tv F T xb X) (hR : RfC w0 w' rb fv' tv' F' T') (hc : Chg wr w' (rfFp rb fv tv)) (ho : ∀ k, rfFp rb fv' tv' k → rfFp rb fv tv k ∨ wr.heap.size ≤ k) :
    Duo0 w w0 w' ab bg bt v s c rb fv' tv' F' T' xb X := by
  have hx := h.ltX
  refine ⟨h.A.beside hc (fun k hk => h.oR hk) h.dis, hR, h.b0, h.b1, ?_, (hc.block _ hx h.bR).trans h.box, h.bA, ?_⟩
  · intro k hk e
    rcases ho k e with e' | e'
    · exact h.dis k hk e'
    · have := h.A.ar.lt hk; omega
  · intro e
    rcases ho _ e with e' | e'
    · exact h.bR e'
    · omega
theorem Duo0.tie (h : Duo0 w w0 wr ab bg bt v s c rb fv tv F T xb X) (hi : RefInv s F T) : Duo w w0 wr ab bg bt v s c rb fv tv F T := ⟨h.A, h.R, h.b0, h.b1, h.dis, hi⟩
theorem Duo0.outA (h : Duo0 w w0 wr ab bg bt v s c rb fv tv F T xb X) {k : Nat} (hk : k < w.heap.size) : ¬ arFp ab bg bt v k := fun e => by have := h.A.own k e; omega
theorem Duo0.outR (h : Duo0 w w0 wr ab bg bt v s c rb fv tv F T xb X) {k : Nat} (hk : k < w.heap.size) : ¬ rfFp rb fv tv k := fun e => by have := h.oR e; omega
end

theorem Ar.puts_room : ∀ (hs : List (Int × Int)) (s : Ar), (s.puts hs).room = s.room
  | [], _ => rfl
  | p :: hs, s => Ar.puts_room hs (s.put p.1)
theorem Ar.frees_room (s : Ar) (hs : List (Int × Int)) : (s.frees hs).room = s.room := by
  unfold Ar.frees
  split
  · exact Ar.puts_room hs s
  · rfl
theorem len_to (ab bg bt : Nat) (v : Value) (s : Ar) (c n : Nat) (w : World) (h : ArC w ab bg bt v s c) (hn : n + s.free.length = s.fresh) :
    Calls Try.prog 20 #[.pointer (some ⟨ab, 0, none⟩)] w fun e w' => e = .returned (.int .i64 n) ∧ w = w' := by
  have := len_any ab bg bt v s c w h
  rwa [show (s.fresh : Int) - s.free.length = n by omega] at this
theorem room_to (ab bg bt : Nat) (v : Value) (s : Ar) (c n : Nat) (w : World) (h : ArC w ab bg bt v s c) (hn : s.room = n) :
    Calls Try.prog 28 #[.pointer (some ⟨ab, 0, none⟩)] w fun e w' => e = .returned (.int .i64 n) ∧ w = w' := by
  have := room_any ab bg bt v s c w h
  rwa [hn] at this

def ZeroRel (w : World) (i : Value) (wr : World) : Prop := i = .int .i64 0 ∧ Below w.heap.size w wr
set_option maxRecDepth 100000 in
theorem free_nil (a : Option Addr) (cap : Nat) (p : Value) (w : World) :
    Calls Try.prog 18 #[p, .slice a 0 cap] w fun e w' => e = .returned (.int .i64 0) ∧ Below w.heap.size w w' := by
  have hmm := @run_makeMap Try.prog
  go_enter Try.func18, Try.ntmps18
  go_wp2
  go_loopw [13] (fun i wr => ZeroRel w i wr) (fun _ _ => 0)
  case atStart => exact ⟨rfl, (Below.refl _ _).alloc (Nat.le_refl _) _⟩
  case round =>
    obtain ⟨rfl, hb⟩ := hrel
    go_wp2
    obtain ⟨wo, rfl⟩ : ∃ wo : World, wo = wr := ⟨_, rfl⟩
    go_loopw [33] (fun i wx => ZeroRel w i wx) (fun _ _ => 0)
    case atStart => exact ⟨rfl, hb⟩
    case round =>
      obtain ⟨rfl, hb2⟩ := hrel
      go_wp2
      go_ret
      exact ⟨rfl, hb2⟩
theorem free_v (ab bg bt cap : Nat) (a : Option Addr) (v : Value) (s : Ar) (c : Nat) (hs : List (Int × Int)) (w : World) (h : ArC w ab bg bt v s c) (hh : HsV w a hs) (hl : hs.length ≤ 1048576) (hbf : ∀ b o, a = some ⟨b, o, none⟩ → 0 < hs.length → ¬ arFp ab bg bt v b) (hcn : c + hs.length ≤ 1099511627776) :
    Calls Try.prog 18 #[.pointer (some ⟨ab, 0, none⟩), .slice a hs.length cap] w (ArPost w ab bg bt v (s.frees hs) (c + hs.length) (.int .i64 (s.freeRes hs))) := by
  rcases Nat.eq_zero_or_pos hs.length with h0 | h0
  · obtain rfl : hs = [] := List.eq_nil_of_length_eq_zero h0
    refine (free_nil a cap _ w).mono ?_
    rintro e w' ⟨rfl, hb⟩
    exact ⟨rfl, v, by simpa [Ar.frees, Ar.chk, Ar.puts] using h.stay hb, Chg.of_below hb _, fun _ hk => .inl hk⟩
  · obtain ⟨b, off, rfl, ha⟩ := hh.at' h0
    exact free_any ab bg bt b off cap v s c hs w h ha hl (hbf b off rfl h0) hcn
end Go.Proofs.Ytfkckdfldalceaa
