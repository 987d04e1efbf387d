/- Plain facts for ArenaTurns: an arena all of whose slots are taken, freed in some order, taken again. -/
import Derived.Test.YtfkckdfldalceaaArenaMany
namespace Go.Proofs.Ytfkckdfldalceaa
open Go.RowKit Go.Maps

/-- the first handles of all -/
def firsts (n : Nat) : List (Int × Int) := (List.range n).map fun (i : Nat) => ((i : Int), (0 : Int))
theorem firsts_length (n : Nat) : (firsts n).length = n := by simp [firsts]
theorem firsts_get {n i : Nat} (h : i < n) : (firsts n)[i]? = some ((i : Int), 0) := by simp [firsts, h]

theorem made_after (N : Nat) : ∀ j, j ≤ N → (Ar.made N).after j = { room := N, gens := fun _ => 0, free := [], fresh := j } ∧ (Ar.made N).got j = firsts j
  | 0, _ => ⟨rfl, rfl⟩
  | j + 1, h => by
    obtain ⟨h1, h2⟩ := made_after N j (by omega)
    have e : (Ar.made N).after (j + 1) = ((Ar.made N).after j).take := rfl
    refine ⟨?_, ?_⟩
    · rw [e, h1]
      unfold Ar.take Ar.grow
      simp; omega
    · have e2 : (Ar.made N).got (j + 1) = (Ar.made N).got j ++ [(((Ar.made N).after j).takeRes.1, ((Ar.made N).after j).takeRes.2.1)] := rfl
      have e3 : firsts (j + 1) = firsts j ++ [((j : Int), 0)] := by simp [firsts, List.range_succ]
      have e4 : ((Ar.made N).after j).takeRes = ((j : Int), 0, 0) := by
        rw [h1]; unfold Ar.takeRes; simp; omega
      rw [e2, h2, e4, e3]

/-- all slots were taken; F: what was freed since, the first first -/
structure TurnsInv (N : Nat) (s : Ar) (F : List (Int × Int)) : Prop where
  room : s.room = N
  fresh : s.fresh = N
  free : s.free = F.map (·.1)
  zero : ∀ p ∈ F, p.2 = 0
  gens : ∀ x, s.gens x = if x ∈ F.map (·.1) then 1 else 0

theorem TurnsInv.start (N : Nat) : TurnsInv N ((Ar.made N).after N) [] := by
  rw [(made_after N N (Nat.le_refl _)).1]
  exact ⟨rfl, rfl, rfl, by simp, by simp⟩

theorem TurnsInv.no {N : Nat} {s : Ar} {F : List (Int × Int)} (h : TurnsInv N s F) {x : Int} (hx : x ∈ F.map (·.1)) : s.drop1 x 0 = s ∧ s.drop1Res x 0 = 51 := by
  have : s.live x 0 = false := by simp only [Ar.live]; rw [h.gens x, if_pos hx]; simp
  simp [Ar.drop1, Ar.drop1Res, this]

theorem TurnsInv.yes {N : Nat} {s : Ar} {F : List (Int × Int)} (h : TurnsInv N s F) {x : Int} (hx : x ∉ F.map (·.1)) (h0 : 0 ≤ x) (h1 : x < N) : TurnsInv N (s.drop1 x 0) (F ++ [(x, 0)]) ∧ s.drop1Res x 0 = 0 := by
  have ht : s.taken x = true := Ar.taken_iff.2 ⟨h0, by rw [h.fresh]; exact h1, by rw [h.free]; exact hx⟩
  have hl : s.live x 0 = true := by simp only [Ar.live, ht]; rw [h.gens x, if_neg hx]; rfl
  refine ⟨?_, by simp [Ar.drop1Res, hl]⟩
  have e : s.drop1 x 0 = s.put x := by simp [Ar.drop1, hl]
  rw [e]
  refine ⟨h.room, h.fresh, ?_, ?_, ?_⟩
  · simp [Ar.put, h.free]
  · intro p hp
    rw [List.mem_append, List.mem_singleton] at hp
    rcases hp with hp | rfl
    · exact h.zero p hp
    · rfl
  · intro y
    simp only [Ar.put]
    by_cases e : y = x
    · subst e; rw [if_pos rfl, h.gens, if_neg hx]; simp
    · rw [if_neg e, h.gens y]
      by_cases hy : y ∈ F.map (·.1)
      · rw [if_pos hy, if_pos (by simp at hy ⊢; exact .inl hy)]
      · rw [if_neg hy, if_neg (by simp at hy ⊢; exact ⟨hy, e⟩)]

/-- what is left to be taken again: the first m of F -/
structure BackInv (N : Nat) (s : Ar) (F : List (Int × Int)) (m : Nat) : Prop where
  room : s.room = N
  fresh : s.fresh = N
  free : s.free = (F.take m).map (·.1)
  gens : ∀ p ∈ F, s.gens p.1 = p.2 + 1

theorem TurnsInv.back {N : Nat} {s : Ar} {F : List (Int × Int)} (h : TurnsInv N s F) : BackInv N s F F.length :=
  ⟨h.room, h.fresh, by rw [List.take_length]; exact h.free, fun p hp => by rw [h.gens, if_pos (List.mem_map_of_mem hp), h.zero p hp]; rfl⟩

theorem BackInv.take {N : Nat} {s : Ar} {F : List (Int × Int)} {m : Nat} (h : BackInv N s F (m + 1)) {x g : Int} (he : F[m]? = some (x, g)) : s.takeRes = (x, g + 1, 0) ∧ BackInv N s.take F m := by
  obtain ⟨hlt, e2⟩ := List.getElem?_eq_some_iff.1 he
  have hf : s.free = (F.take m).map (·.1) ++ [x] := by rw [h.free, List.take_succ_eq_append_getElem hlt, e2]; simp
  have e1 : s.free.getLast? = some x := by rw [hf]; simp
  have et : s.take = s.pop := by unfold Ar.take; rw [e1]
  refine ⟨?_, ?_⟩
  · unfold Ar.takeRes; rw [e1]; simp only; rw [h.gens _ (List.mem_of_getElem? he)]
  · rw [et]
    exact ⟨h.room, h.fresh, by simp [Ar.pop, hf], h.gens⟩

theorem BackInv.done {N : Nat} {s : Ar} {F : List (Int × Int)} (h : BackInv N s F 0) : s.takeRes = (0, 0, 50) ∧ s.take = s ∧ (s.fresh : Int) - s.free.length = N := by
  have hf : s.free = [] := by simpa using h.free
  have e1 : s.free.getLast? = none := by rw [hf]; rfl
  refine ⟨?_, ?_, ?_⟩
  · unfold Ar.takeRes; rw [e1]; simp [h.fresh, h.room]
  · unfold Ar.take; rw [e1]; simp [h.fresh, h.room]
  · rw [hf, h.fresh]; simp

theorem ownsRow_base {w : World} {base base' : Nat} {e : TypeId} {size : Nat} {v : Value} {n : Nat} {xs : List Value} (h : w.ownsRow base e size v n xs) (hb : base' ≤ base) : w.ownsRow base' e size v n xs := by
  refine ⟨h.1, ?_⟩
  rcases h.2 with h0 | ⟨g, cap, cur, h0, h1, r⟩
  · exact .inl h0
  · exact .inr ⟨g, cap, cur, h0, Nat.le_trans hb h1, r⟩
theorem RowH.base {w w0 wr : World} {v : Value} {l : List (Int × Int)} (h : RowH w0 wr v l) (hb : w.heap.size ≤ w0.heap.size) : RowH w wr v l := ⟨ownsRow_base h.row hb, h.i64⟩

def TurnsAt (w : World) (N ab bg bt c : Nat) (lv fv : Value) (wr : World) : Prop :=
  ∃ v s F, ArS w wr ab bg bt v s c ∧ TurnsInv N s F ∧ Rows2 w wr ab bg bt v lv fv (firsts N) F ∧ F.length ≤ c

theorem TurnsAt.start {w w1 W : World} {N ab bg bt : Nat} {v rv v' : Value} (hS : ArS w w1 ab bg bt v (Ar.made N) 0) (hM : ManyAt w1 W ab bg bt v (Ar.made N) 0 N rv v') : TurnsAt w N ab bg bt 0 rv (.slice none 0 0) W := by
  have hS' := hS.step hM.ar hM.chg hM.own
  have hr := hM.row.base (w := w) hS.bel.size
  rw [(made_after N N (Nat.le_refl _)).2] at hr
  exact ⟨v', _, [], hS', TurnsInv.start N, ⟨hr, ⟨World.ownsRow_nil _ _ _ _, by simp⟩, hM.out, by simp [Value.ownBlock], by simp [Value.ownBlock]⟩, by simp⟩

def TurnsRel (w : World) (N ab bg bt pn : Nat) (lv fv i : Value) (wr : World) : Prop :=
  ∃ k : Nat, k ≤ pn ∧ i = .int .i64 k ∧ TurnsAt w N ab bg bt k lv fv wr

def BackRel (w : World) (N ab bg bt c : Nat) (lv fv : Value) (F : List (Int × Int)) (i : Value) (wr : World) : Prop :=
  ∃ (m : Nat) (v : Value) (s : Ar), m ≤ F.length ∧ i = .int .i64 ((m : Int) - 1) ∧ ArS w wr ab bg bt v s c ∧ BackInv N s F m ∧ Rows2 w wr ab bg bt v lv fv (firsts N) F

theorem TurnsAt.no {w wr w4 : World} {N ab bg bt c : Nat} {v v4 lv fv : Value} {s : Ar} {F : List (Int × Int)} {X Y : Obj} (hS : ArS w wr ab bg bt v s c) (hinv : TurnsInv N s F) (hR : Rows2 w wr ab bg bt v lv fv (firsts N) F) (hF : F.length ≤ c)
    (hA : ArC w4 ab bg bt v4 s (c + 1)) (hc : Chg ((wr.alloc X).alloc Y) w4 (arFp ab bg bt v)) (ho : ∀ k, v4.ownBlock = some k → v.ownBlock = some k ∨ ((wr.alloc X).alloc Y).heap.size ≤ k) : TurnsAt w N ab bg bt (c + 1) lv fv w4 :=
  ⟨v4, s, F, ((hS.alloc X).alloc Y).step hA hc ho, hinv, ((hR.alloc X).alloc Y).step hc ho, by omega⟩

theorem TurnsAt.yes {w wr w4 W' : World} {N ab bg bt c : Nat} {v v4 lv fv fv' : Value} {s s' : Ar} {F : List (Int × Int)} {x : Int} {X Y Z : Obj} (hS : ArS w wr ab bg bt v s c) (hinv : TurnsInv N s' (F ++ [(x, 0)])) (hR : Rows2 w wr ab bg bt v lv fv (firsts N) F) (hF : F.length ≤ c) (hxi : I64 x)
    (hA : ArC w4 ab bg bt v4 s' (c + 1)) (hc : Chg ((wr.alloc X).alloc Y) w4 (arFp ab bg bt v)) (ho : ∀ k, v4.ownBlock = some k → v.ownBlock = some k ∨ ((wr.alloc X).alloc Y).heap.size ≤ k)
    (hrow : W'.ownsRow w.heap.size 30 2 fv' (F.length + 1) (hcells F ++ [.int .i64 x, .int .i64 0])) (hgr : (w4.alloc Z).grownBy W' fv.ownBlock) (hat : fv'.ownBlock = fv.ownBlock ∨ fv'.ownBlock = some (w4.alloc Z).heap.size) : TurnsAt w N ab bg bt (c + 1) lv fv' W' := by
  have hS1 := (((hS.alloc X).alloc Y).step hA hc ho).alloc Z
  have hR1 := (((hR.alloc X).alloc Y).step hc ho).alloc Z
  have hR2 := Rows2.more hS1.ar hR1.swap hgr (L' := F ++ [(x, 0)]) (by rw [hcells_append, List.length_append]; exact hrow) (by
    intro p hp
    rw [List.mem_append, List.mem_singleton] at hp
    rcases hp with hp | rfl
    · exact hR.hG.i64 p hp
    · exact ⟨hxi, by constructor <;> omega⟩) hat
  exact ⟨v4, s', _, hS1.grown hgr (fun k hk => ⟨hR1.oG k hk, (hR1.hG.lt hk).1⟩), hinv, hR2.swap, by simp; omega⟩
end Go.Proofs.Ytfkckdfldalceaa
