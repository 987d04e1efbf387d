/- The arena's Free in one contract, for any list and for one handle. Conditions: each contract's own premises. -/
import Derived.Test.YtaanohgkdpohhaaArenaFree
namespace Go.Proofs.Ytaanohgkdpohhaa
open Go.RowKit Go.Maps

theorem Ar.Ok.mono {s : Ar} {c c' : Nat} (h : s.Ok c) (hc : c ≤ c') (hl : c' ≤ 1099511627776) : s.Ok c' :=
  ⟨h.room, h.fresh, h.nodup, h.mem, fun x => by have := h.gens x; omega, hl⟩
theorem ArC.mono {w : World} {ab bg bt : Nat} {v : Value} {s : Ar} {c c' : Nat} (h : ArC w ab bg bt v s c) (hc : c ≤ c') (hl : c' ≤ 1099511627776) : ArC w ab bg bt v s c' := by
  obtain ⟨n, f, m, h1, h2⟩ := h.gens
  exact ⟨h.ok.mono hc hl, h.blk, ⟨n, f, m, Nat.le_trans h1 hc, h2⟩, h.taken, h.row, h.ne⟩

/-- what Free answers, and leaves -/
def Ar.freeRes (s : Ar) (hs : List (Int × Int)) : Int := if s.chk [] hs then 0 else 51
def Ar.frees (s : Ar) (hs : List (Int × Int)) : Ar := if s.chk [] hs then s.puts hs else s

theorem free_any (ab bg bt b off cap : Nat) (v : Value) (s : Ar) (c : Nat) (hs : List (Int × Int)) (w : World) (h : ArC w ab bg bt v s c) (hh : HsAt w b off hs) (hl : hs.length ≤ 1048576) (hbf : ¬ arFp ab bg bt v b) (hcn : c + hs.length ≤ 1099511627776) :
    Calls Try.prog 145 #[.pointer (some ⟨ab, 0, none⟩), .slice (some ⟨b, off, none⟩) hs.length cap] w (ArPost w ab bg bt v (s.frees hs) (c + hs.length) (.int .i64 (s.freeRes hs))) := by
  unfold Ar.frees Ar.freeRes
  cases hc : s.chk [] hs
  · refine (free_no ab bg bt b off cap v s c hs w h hh hl hc).mono ?_
    rintro e w' ⟨rfl, hb⟩
    exact ⟨rfl, v, (h.keep (fun k hk => hb.block k (h.lt hk))).mono (by omega) hcn, Chg.of_below hb _, fun _ hk => .inl hk⟩
  · exact free_yes ab bg bt b off cap v s c hs w h hh hl hc hbf hcn

theorem HsAt.one {w : World} {b : Nat} {x g : Int} {t : TypeId} {z : Nat × Nat} (hb : w.heap[b]? = some (.cells #[.int .i64 x, .int .i64 g] t z)) (hx : I64 x) (hg : I64 g) : HsAt w b 0 [(x, g)] := by
  refine ⟨by simp [hx, hg], fun i y g' he => ?_, (Array.getElem?_eq_some_iff.1 hb).1⟩
  cases i with
  | zero =>
    simp at he
    obtain ⟨rfl, rfl⟩ := he
    exact ⟨by rw [cell_of_blk hb]; rfl, by rw [cell_of_blk hb]; rfl⟩
  | succ i => simp at he

/-- Free of one handle -/
def Ar.drop1 (s : Ar) (x g : Int) : Ar := if s.live x g then s.put x else s
def Ar.drop1Res (s : Ar) (x g : Int) : Int := if s.live x g then 0 else 51

theorem chk_one (s : Ar) (x g : Int) : s.chk [] [(x, g)] = s.live x g := by simp [Ar.chk]

theorem free_one (ab bg bt b cap : Nat) (v : Value) (s : Ar) (c : Nat) (x g : Int) (t : TypeId) (z : Nat × Nat) (w : World) (h : ArC w ab bg bt v s c) (hb : w.heap[b]? = some (.cells #[.int .i64 x, .int .i64 g] t z)) (hx : I64 x) (hg : I64 g) (hbf : ¬ arFp ab bg bt v b) (hcn : c + 1 ≤ 1099511627776) :
    Calls Try.prog 145 #[.pointer (some ⟨ab, 0, none⟩), .slice (some ⟨b, 0, none⟩) 1 cap] w (ArPost w ab bg bt v (s.drop1 x g) (c + 1) (.int .i64 (s.drop1Res x g))) := by
  have := free_any ab bg bt b 0 cap v s c [(x, g)] w h (HsAt.one hb hx hg) (by simp) hbf hcn
  simpa only [Ar.frees, Ar.freeRes, chk_one, Ar.puts, List.foldl_cons, List.foldl_nil, List.length_singleton, Ar.drop1, Ar.drop1Res] using this

theorem take_to (ab bg bt : Nat) (v : Value) (s : Ar) (c : Nat) (w : World) (x g e : Int) (h : ArC w ab bg bt v s c) (hr : s.takeRes = (x, g, e)) :
    Calls Try.prog 77 #[.pointer (some ⟨ab, 0, none⟩)] w (ArPost w ab bg bt v s.take c (.tuple #[.agg #[.int .i64 x, .int .i64 g], .int .i64 e])) := by
  have := take_any ab bg bt v s c w h
  rw [hr] at this
  exact this

/-- what is left of a call: the arena, and the blocks that stay -/
theorem ArC.stay {w w' : World} {ab bg bt : Nat} {v : Value} {s : Ar} {c : Nat} (h : ArC w ab bg bt v s c) (hb : Below w.heap.size w w') : ArC w' ab bg bt v s c := h.keep (fun _ hk => hb.block _ (h.lt hk))

/-- a block beside the arena -/
structure Boxed (w : World) (b : Nat) (X : Obj) (ab bg bt : Nat) (v : Value) : Prop where
  at' : w.heap[b]? = some X
  out : ¬ arFp ab bg bt v b
theorem Boxed.lt {w : World} {b : Nat} {X : Obj} {ab bg bt : Nat} {v : Value} (h : Boxed w b X ab bg bt v) : b < w.heap.size := (Array.getElem?_eq_some_iff.1 h.at').1
theorem Boxed.new {w : World} {ab bg bt : Nat} {v : Value} {s : Ar} {c : Nat} (h : ArC w ab bg bt v s c) (X : Obj) : Boxed (w.alloc X) w.heap.size X ab bg bt v :=
  ⟨heap_new _ _, fun hk => by have := h.lt hk; omega⟩
theorem Boxed.alloc {w : World} {b : Nat} {X : Obj} {ab bg bt : Nat} {v : Value} (h : Boxed w b X ab bg bt v) (Y : Obj) : Boxed (w.alloc Y) b X ab bg bt v :=
  ⟨(Below.heap_alloc _ _ _ h.lt).trans h.at', h.out⟩
theorem Boxed.below {w w' : World} {b : Nat} {X : Obj} {ab bg bt : Nat} {v : Value} (h : Boxed w b X ab bg bt v) (hb : Below w.heap.size w w') : Boxed w' b X ab bg bt v :=
  ⟨(hb.block _ h.lt).trans h.at', h.out⟩
theorem arFp_step {b n : Nat} {ab bg bt : Nat} {v v' : Value} (h : ¬ arFp ab bg bt v b) (hb : b < n) (ho : ∀ k, v'.ownBlock = some k → v.ownBlock = some k ∨ n ≤ k) : ¬ arFp ab bg bt v' b := by
  rintro (e | e | e | e)
  · exact h (.inl e)
  · exact h (.inr (.inl e))
  · exact h (.inr (.inr (.inl e)))
  · rcases ho b e with e' | e'
    · exact h (.inr (.inr (.inr e')))
    · omega
theorem Boxed.step {w w' : World} {b : Nat} {X : Obj} {ab bg bt : Nat} {v v' : Value} (h : Boxed w b X ab bg bt v) (hc : Chg w w' (arFp ab bg bt v)) (ho : ∀ k, v'.ownBlock = some k → v.ownBlock = some k ∨ w.heap.size ≤ k) : Boxed w' b X ab bg bt v' :=
  ⟨(hc.block _ h.lt h.out).trans h.at', arFp_step h.out h.lt ho⟩
theorem ArC.alloc {w : World} {ab bg bt : Nat} {v : Value} {s : Ar} {c : Nat} (h : ArC w ab bg bt v s c) (X : Obj) : ArC (w.alloc X) ab bg bt v s c := h.keep (fun _ hk => Below.heap_alloc _ _ _ (h.lt hk))
theorem Boxed.cell {w : World} {b : Nat} {cs : Array Value} {t : TypeId} {z : Nat × Nat} {ab bg bt : Nat} {v : Value} (h : Boxed w b (.cells cs t z) ab bg bt v) (i : Nat) : w.cell? ⟨b, i, none⟩ = cs[i]? := cell_of_blk h.at' i

theorem arFp_ge {w0 ab bg bt : Nat} {v : Value} (h1 : w0 ≤ ab) (h2 : w0 ≤ bg) (h3 : w0 ≤ bt) (h4 : ∀ k, v.ownBlock = some k → w0 ≤ k) : ∀ k, arFp ab bg bt v k → w0 ≤ k := by
  rintro k (rfl | rfl | rfl | e)
  · exact h1
  · exact h2
  · exact h3
  · exact h4 k e
theorem own_step {w0 n : Nat} {v v' : Value} (h4 : ∀ k, v.ownBlock = some k → w0 ≤ k) (hn : w0 ≤ n) (ho : ∀ k, v'.ownBlock = some k → v.ownBlock = some k ∨ n ≤ k) : ∀ k, v'.ownBlock = some k → w0 ≤ k := by
  intro k hk
  rcases ho k hk with e | e
  · exact h4 k e
  · omega

/-- an arena that was made since the world w -/
structure ArS (w W : World) (ab bg bt : Nat) (v : Value) (s : Ar) (c : Nat) : Prop where
  ar : ArC W ab bg bt v s c
  bel : Below w.heap.size w W
  own : ∀ k, arFp ab bg bt v k → w.heap.size ≤ k
theorem ArS.alloc {w W : World} {ab bg bt : Nat} {v : Value} {s : Ar} {c : Nat} (h : ArS w W ab bg bt v s c) (X : Obj) : ArS w (W.alloc X) ab bg bt v s c :=
  ⟨h.ar.alloc X, h.bel.alloc h.bel.size X, h.own⟩
theorem ArS.drew {w W : World} {ab bg bt : Nat} {v : Value} {s : Ar} {c : Nat} (h : ArS w W ab bg bt v s c) : ArS w W.drew ab bg bt v s c :=
  ⟨h.ar.keep (fun _ _ => rfl), h.bel.drew, h.own⟩
theorem ArS.below {w W W' : World} {ab bg bt : Nat} {v : Value} {s : Ar} {c : Nat} (h : ArS w W ab bg bt v s c) (hb : Below W.heap.size W W') : ArS w W' ab bg bt v s c :=
  ⟨h.ar.stay hb, h.bel.trans (hb.mono h.bel.size), h.own⟩
theorem ArS.step {w W W' : World} {ab bg bt : Nat} {v v' : Value} {s s' : Ar} {c c' : Nat} (h : ArS w W ab bg bt v s c) (hA : ArC W' ab bg bt v' s' c') (hc : Chg W W' (arFp ab bg bt v)) (ho : ∀ k, v'.ownBlock = some k → v.ownBlock = some k ∨ W.heap.size ≤ k) : ArS w W' ab bg bt v' s' c' := by
  refine ⟨hA, h.bel.trans (hc.below h.bel.size h.own), ?_⟩
  rintro k (e | e | e | e)
  · exact h.own k (.inl e)
  · exact h.own k (.inr (.inl e))
  · exact h.own k (.inr (.inr (.inl e)))
  · rcases ho k e with e' | e'
    · exact h.own k (.inr (.inr (.inr e')))
    · have := h.bel.size; omega
theorem ArS.made {w W : World} {rm : Nat} (hA : ArC W (w.heap.size + 2) w.heap.size (w.heap.size + 1) (.slice none 0 0) (Ar.made rm) 0) (hb : Below w.heap.size w W) : ArS w W (w.heap.size + 2) w.heap.size (w.heap.size + 1) (.slice none 0 0) (Ar.made rm) 0 :=
  ⟨hA, hb, arFp_ge (by omega) (by omega) (by omega) (by simp [Value.ownBlock])⟩
theorem ArS.from {w w0 W : World} {ab bg bt : Nat} {v : Value} {s : Ar} {c : Nat} (h : ArS w0 W ab bg bt v s c) (hb : Below w.heap.size w w0) : ArS w W ab bg bt v s c :=
  ⟨h.ar, hb.trans (h.bel.mono hb.size), fun k hk => Nat.le_trans hb.size (h.own k hk)⟩
end Go.Proofs.Ytaanohgkdpohhaa
