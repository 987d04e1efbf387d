/- The store of package cell: Free of keys. Conditions: each contract's own premises. -/
import Derived.Test.YtonilojjahfboaaCell6
namespace Go.Proofs.Ytonilojjahfboaa
open Go.RowKit Go.Maps

/-- keys in memory, one behind the other -/
structure KsAt (w : World) (b off : Nat) (ks : List Ky) : Prop where
  ok : ∀ k ∈ ks, k.Ok
  cells : ∀ i k, ks[i]? = some k → w.cell? ⟨b, off + i * 4, none⟩ = some (.int .i64 k.kind) ∧ w.cell? ⟨b, off + i * 4 + 1, none⟩ = some (.int .i64 k.a) ∧ w.cell? ⟨b, off + i * 4 + 2, none⟩ = some (.int .i64 k.b) ∧ w.cell? ⟨b, off + i * 4 + 3, none⟩ = some (.string k.s)
  lt : b < w.heap.size
/-- a slice of keys that lie outside some blocks -/
def KsV (w : World) (S : Nat → Prop) (a : Option Addr) (ks : List Ky) : Prop := ks ≠ [] → ∃ b off, a = some ⟨b, off, none⟩ ∧ KsAt w b off ks ∧ ¬ S b
theorem KsAt.of_block {w w' : World} {b off : Nat} {ks : List Ky} (h : KsAt w b off ks) (hb : w'.heap[b]? = w.heap[b]?) : KsAt w' b off ks :=
  ⟨h.ok, fun i k hk => by
    have e : ∀ j, w'.cell? ⟨b, j, none⟩ = w.cell? ⟨b, j, none⟩ := fun j => World.cell?_of_block (a := ⟨b, j, none⟩) hb
    rw [e, e, e, e]; exact h.cells i k hk, (Array.getElem?_eq_some_iff.1 (hb.trans (Array.getElem?_eq_getElem h.lt))).1⟩
theorem KsAt.one {w : World} {b : Nat} {k : Ky} {t : TypeId} {z : Nat × Nat} (hb : w.heap[b]? = some (.cells #[.int .i64 k.kind, .int .i64 k.a, .int .i64 k.b, .string k.s] t z)) (hk : k.Ok) : KsAt w b 0 [k] := by
  refine ⟨by simp [hk], fun i y he => ?_, (Array.getElem?_eq_some_iff.1 hb).1⟩
  cases i with
  | zero =>
    simp at he
    subst he
    exact ⟨by rw [cell_of_blk hb]; rfl, by rw [cell_of_blk hb]; rfl, by rw [cell_of_blk hb]; rfl, by rw [cell_of_blk hb]; rfl⟩
  | succ i => simp at he

section
variable {w w1 w2 : World} {s s1 s2 : Sto} {g g1 : Ky → Option Cl} {n n1 c c1 : Nat}
theorem GPost.refl (h : StC w s) : GPost w s s s.g s.cnt s.c w := ⟨h, Chg.refl _ _, fun _ e => .inl e, rfl, rfl, rfl, rfl, rfl⟩
theorem GPost.trans (p : GPost w s s1 g1 n1 c1 w1) (q : GPost w1 s1 s2 g n c w2) : GPost w s s2 g n c w2 := by
  refine ⟨q.st, p.chg.trans q.chg (fun i hi hs => ?_), fun i hi => ?_, q.sb.trans p.sb, q.room.trans p.room, q.g, q.cnt, q.c⟩
  · rcases p.fp i hs with e | e
    · exact e
    · omega
  · have := p.chg.size
    rcases q.fp i hi with e | e
    · exact p.fp i e
    · right; omega
theorem GPost.below (p : GPost w s s1 g1 n1 c1 w1) (hb : Below w1.heap.size w1 w2) : GPost w s s1 g1 n1 c1 w2 :=
  ⟨p.st.stay hb, p.chg.trans (Chg.of_below hb (fun _ => False)) (fun _ _ e => e.elim), p.fp, p.sb, p.room, p.g, p.cnt, p.c⟩
/-- what lies outside the store stays -/
theorem GPost.out (p : GPost w s s1 g1 n1 c1 w1) {b : Nat} (hl : b < w.heap.size) (hb : ¬ s.fp b) : w1.heap[b]? = w.heap[b]? ∧ ¬ s1.fp b :=
  ⟨p.chg.block b hl hb, fun e => by
    rcases p.fp b e with e' | e'
    · exact hb e'
    · omega⟩
end

theorem drop_g (s : Sto) (b : Nat) (k : Ky) (x : Cl) (w : World) (h : StC w s) (hb : s.sb = b) (hk : k.Ok) (hx : s.g k = some x) (hcn : s.c + 1 ≤ 1099511627776) :
    Calls Try.prog 85 #[.pointer (some ⟨b, 0, none⟩), .agg #[.int .i64 k.kind, .int .i64 k.a, .int .i64 k.b, .string k.s]] w (PostG w s (setG s.g k none) (s.cnt - 1) (s.c + 1) (.tuple #[])) := by
  subst hb
  obtain ⟨y, hy, rfl⟩ := Sto.g_some hx
  refine (drop_any s k y w h hk hy hcn).mono ?_
  rintro e w' ⟨v', he, hst, hch, hfp⟩
  refine ⟨he, _, ⟨hst, hch, hfp, rfl, rfl, ?_, ?_, rfl⟩⟩
  · rw [setF_g s k none _ rfl]; rfl
  · show s.ar.fresh - (s.ar.free ++ [y.hs]).length = s.ar.fresh - s.ar.free.length - 1
    simp; omega

/-- Free of one key, plainly -/
noncomputable def freeStep (p : (Ky → Option Cl) × Nat) (k : Ky) : (Ky → Option Cl) × Nat := match p.1 k with
  | none => p
  | some x => if (x.ab && !x.lk) = true then (setG p.1 k none, p.2 + 1) else p
noncomputable def freeG (g : Ky → Option Cl) (ks : List Ky) : (Ky → Option Cl) × Nat := ks.foldl freeStep (g, 0)
theorem freeG_snoc (g : Ky → Option Cl) (ks : List Ky) (i : Nat) (k : Ky) (h : ks[i]? = some k) : freeG g (ks.take (i + 1)) = freeStep (freeG g (ks.take i)) k := by
  obtain ⟨hi, rfl⟩ := List.getElem?_eq_some_iff.1 h
  unfold freeG
  rw [List.take_succ_eq_append_getElem hi, List.foldl_append]
  rfl

def FrRel (w : World) (s : Sto) (ks : List Ky) (n i : Value) (wr : World) : Prop :=
  ∃ (k m : Nat) (g : Ky → Option Cl) (s' : Sto), k ≤ ks.length ∧ m ≤ k ∧ i = .int .i64 k ∧ n = .int .i64 m ∧ freeG s.g (ks.take k) = (g, m) ∧ GPost w s s' g (s.cnt - m) (s.c + m) wr
theorem FrRel.start {w : World} {s : Sto} (h : StC w s) (ks : List Ky) : FrRel w s ks (.int .i64 0) (.int .i64 0) w :=
  ⟨0, 0, s.g, s, Nat.zero_le _, Nat.le_refl _, rfl, rfl, rfl, GPost.refl h⟩
theorem FrRel.skip {w wr w' : World} {s s' : Sto} {ks : List Ky} {k m : Nat} {g : Ky → Option Cl} {kk : Ky} (hk : ks[k]? = some kk) (hm : m ≤ k) (hG : freeG s.g (ks.take k) = (g, m)) (p : GPost w s s' g (s.cnt - m) (s.c + m) wr) (hb : Below wr.heap.size wr w')
    (hs : ∀ x, g kk = some x → (x.ab && !x.lk) = false) : FrRel w s ks (.int .i64 m) (.int .i64 ((k : Int) + 1)) w' := by
  refine ⟨k + 1, m, g, s', (List.getElem?_eq_some_iff.1 hk).1, by omega, by simp, rfl, ?_, p.below hb⟩
  rw [freeG_snoc _ _ _ _ hk, hG]
  unfold freeStep
  dsimp only
  split
  · rfl
  · next x hx => rw [hs x hx]; rfl
theorem FrRel.take {w wr w1 w' : World} {s s' s2 : Sto} {ks : List Ky} {k m : Nat} {g : Ky → Option Cl} {kk : Ky} {x : Cl} (hk : ks[k]? = some kk) (hm : m ≤ k) (hG : freeG s.g (ks.take k) = (g, m)) (p : GPost w s s' g (s.cnt - m) (s.c + m) wr) (hb : Below wr.heap.size wr w1)
    (hx : g kk = some x) (ha : x.ab = true) (hl : x.lk = false) (q : GPost w1 s' s2 (setG s'.g kk none) (s'.cnt - 1) (s'.c + 1) w') : FrRel w s ks (.int .i64 ((m : Int) + 1)) (.int .i64 ((k : Int) + 1)) w' := by
  refine ⟨k + 1, m + 1, setG g kk none, s2, (List.getElem?_eq_some_iff.1 hk).1, by omega, by simp, by simp, ?_, ?_⟩
  · rw [freeG_snoc _ _ _ _ hk, hG]
    unfold freeStep
    dsimp only
    rw [hx]
    simp [ha, hl]
  · have := (p.below hb).trans q
    rw [p.g, p.cnt, p.c] at this
    have e : s.cnt - m - 1 = s.cnt - (m + 1) := by omega
    rw [e] at this
    exact this

end Go.Proofs.Ytonilojjahfboaa
