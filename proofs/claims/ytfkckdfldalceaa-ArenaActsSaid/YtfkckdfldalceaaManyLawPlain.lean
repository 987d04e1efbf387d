/- Plain facts for ArenaMany: two arenas of one state, beside a row of handles and a set. -/
import Derived.Test.YtfkckdfldalceaaSame5
import Derived.Test.YtfkckdfldalceaaArenaTurnsPlain
namespace Go.Proofs.Ytfkckdfldalceaa
open Go.RowKit Go.Maps

/-- a set of numbers in a map, each once -/
def SetX (w : World) (b : Nat) (l : List Int) : Prop :=
  ∃ f, mapR w Try.prog 3 b l.length f ∧ ∀ x, I64 x → f (.int .i64 x) = if l.contains x then some (.bool true) else none
theorem SetX.made (w : World) : SetX (w.alloc (.map #[] 0)) w.heap.size [] := ⟨_, mapR_made w Try.prog 3, fun _ _ => rfl⟩
theorem SetX.look {w : World} {b : Nat} {l : List Int} (h : SetX w b l) {x : Int} (hx : I64 x) : (Instr.lookup 40 (.map (some b)) (.int .i64 x) false).run Try.prog w = .ok (.bool (l.contains x)) w := by
  obtain ⟨f, m, hf⟩ := h
  rw [m.look lawInt Try.underlying40 (zeroBool _) (keyInt hx), hf x hx]
  cases l.contains x <;> rfl
theorem SetX.of_block {w w' : World} {b : Nat} {l : List Int} (h : SetX w b l) (hb : w'.heap[b]? = w.heap[b]?) : SetX w' b l := by
  obtain ⟨f, m, r⟩ := h
  exact ⟨f, m.of_block hb, r⟩
theorem SetX.lt {w : World} {b : Nat} {l : List Int} (h : SetX w b l) : b < w.heap.size := by
  obtain ⟨f, m, r⟩ := h
  exact m.lt
theorem SetX.len {w : World} {b : Nat} {l : List Int} (h : SetX w b l) (ty : TypeId) : (Builtin.len_ #[40] ty #[.map (some b)]).run Try.prog w = .ok (.int .i64 l.length) w := by
  obtain ⟨f, m, r⟩ := h
  exact m.len Try.underlying40 ty
theorem wpList_setX (w : World) {ops : Array Oper} {rest : List Oper} {o : Oper} {a : Act} {Q : Exit → Act → World → Prop}
    (hg : o.guard = none) (m x : Operand) (hop : o.op = Op.mapUpdate 40 m x (.const (.bool true))) (b : Nat) (l : List Int)
    (hm : a.eval m = .map (some b)) (hown : SetX w b l) (hn : l.length < maxLen) (y : Int) (hy : I64 y) (hx : a.eval x = .int .i64 y) (hnot : l.contains y = false)
    (hK : ∀ w', SetX w' b (l ++ [y]) → w.mapTurned w' b → (∀ p, w'.cell? p = w.cell? p) → (∀ p, w'.frozen? p = w.frozen? p) → w'.heap.size = w.heap.size → wpList Try.prog ops Q rest (a.put o.dst undef) w') :
    wpList Try.prog ops Q (o :: rest) a w := by
  obtain ⟨f, mr, h2⟩ := hown
  refine wpList_store w hg m x (.const (.bool true)) 40 hop 3 4 lawInt Try.underlying40 b l.length f hm mr hn _ (.bool true) _ hx rfl (keyInt hy) ?_
  intro w' m1 t1 c1 f1 z1
  rw [h2 y hy, hnot] at m1
  refine hK w' ⟨_, by rw [List.length_append]; exact m1, fun u hu => ?_⟩ t1 c1 f1 z1
  unfold upd
  by_cases e : u = y
  · subst e; simp
  · rw [if_neg (by simpa using e), h2 u hu]; simp [e]

/-- two arenas of one state; a row of handles; a set -/
structure Pair (w wr : World) (ab bg bt ab2 bg2 bt2 bs : Nat) (v v2 lv : Value) (s s2 : Ar) (c c2 : Nat) (L : List (Int × Int)) (G : List Int) : Prop where
  A : ArS w wr ab bg bt v s c
  B : ArS w wr ab2 bg2 bt2 v2 s2 c2
  dis : ∀ k, arFp ab bg bt v k → ¬ arFp ab2 bg2 bt2 v2 k
  row : RowH w wr lv L
  oA : ∀ k, lv.ownBlock = some k → ¬ arFp ab bg bt v k
  oB : ∀ k, lv.ownBlock = some k → ¬ arFp ab2 bg2 bt2 v2 k
  set : SetX wr bs G
  sA : ¬ arFp ab bg bt v bs
  sB : ¬ arFp ab2 bg2 bt2 v2 bs
  sL : lv.ownBlock ≠ some bs
  sG : w.heap.size ≤ bs

section
variable {w wr w' : World} {ab bg bt ab2 bg2 bt2 bs : Nat} {v v' v2 v2' lv : Value} {s s2 s' : Ar} {c c2 c' : Nat} {L : List (Int × Int)} {G G' : List Int}

theorem Pair.below (h : Pair w wr ab bg bt ab2 bg2 bt2 bs v v2 lv s s2 c c2 L G) (hb : Below wr.heap.size wr w') : Pair w w' ab bg bt ab2 bg2 bt2 bs v v2 lv s s2 c c2 L G :=
  ⟨h.A.below hb, h.B.below hb, h.dis, h.row.of_block (fun _ hk => hb.block _ (h.row.lt hk).2), h.oA, h.oB, h.set.of_block (hb.block _ h.set.lt), h.sA, h.sB, h.sL, h.sG⟩
theorem Pair.alloc (h : Pair w wr ab bg bt ab2 bg2 bt2 bs v v2 lv s s2 c c2 L G) (X : Obj) : Pair w (wr.alloc X) ab bg bt ab2 bg2 bt2 bs v v2 lv s s2 c c2 L G :=
  h.below ((Below.refl _ _).alloc (Nat.le_refl _) X)
theorem Pair.stepA (h : Pair w wr ab bg bt ab2 bg2 bt2 bs v v2 lv s s2 c c2 L G) (hA : ArC w' ab bg bt v' s' c') (hc : Chg wr w' (arFp ab bg bt v)) (ho : ∀ k, v'.ownBlock = some k → v.ownBlock = some k ∨ wr.heap.size ≤ k) :
    Pair w w' ab bg bt ab2 bg2 bt2 bs v' v2 lv s' s2 c' c2 L G := by
  have hB : ∀ k, arFp ab2 bg2 bt2 v2 k → w'.heap[k]? = wr.heap[k]? := fun k hk => hc.block k (h.B.ar.lt hk) (fun e => h.dis k e hk)
  refine ⟨h.A.step hA hc ho, ⟨h.B.ar.keep hB, h.A.bel.trans (hc.below h.A.bel.size h.A.own), h.B.own⟩, fun k hk hk' => ?_, h.row.of_block (fun k hk => hc.block k (h.row.lt hk).2 (h.oA k hk)), fun k hk => arFp_step (h.oA k hk) (h.row.lt hk).2 ho, h.oB,
    h.set.of_block (hc.block _ h.set.lt h.sA), arFp_step h.sA h.set.lt ho, h.sB, h.sL, h.sG⟩
  exact arFp_step (fun e => h.dis k e hk') (h.B.ar.lt hk') ho hk
theorem Pair.swap (h : Pair w wr ab bg bt ab2 bg2 bt2 bs v v2 lv s s2 c c2 L G) : Pair w wr ab2 bg2 bt2 ab bg bt bs v2 v lv s2 s c2 c L G :=
  ⟨h.B, h.A, fun k hk hk' => h.dis k hk' hk, h.row, h.oB, h.oA, h.set, h.sB, h.sA, h.sL, h.sG⟩
theorem Pair.turned (h : Pair w wr ab bg bt ab2 bg2 bt2 bs v v2 lv s s2 c c2 L G) (hs : SetX w' bs G') (ht : wr.mapTurned w' bs) : Pair w w' ab bg bt ab2 bg2 bt2 bs v v2 lv s s2 c c2 L G' := by
  have hb : ∀ k, k ≠ bs → w'.heap[k]? = wr.heap[k]? := fun k hk => turned_block ht hk
  have hg := ht.grown
  have bel : Below w.heap.size w w' := below_turned h.A.bel ht h.sG
  exact ⟨⟨h.A.ar.keep (fun k hk => hb k (fun e => h.sA (e ▸ hk))), bel, h.A.own⟩, ⟨h.B.ar.keep (fun k hk => hb k (fun e => h.sB (e ▸ hk))), bel, h.B.own⟩, h.dis, h.row.of_block (fun k hk => hb k (fun e => h.sL (e ▸ hk))), h.oA, h.oB, hs, h.sA, h.sB, h.sL, h.sG⟩
theorem Pair.make {X : Obj} (hA : ArS w wr ab bg bt v s c) (hB : ArS w wr ab2 bg2 bt2 v2 s2 c2) (hd : ∀ k, arFp ab bg bt v k → ¬ arFp ab2 bg2 bt2 v2 k) (hr : RowH w wr lv L) (o1 : ∀ k, lv.ownBlock = some k → ¬ arFp ab bg bt v k) (o2 : ∀ k, lv.ownBlock = some k → ¬ arFp ab2 bg2 bt2 v2 k) (hX : X = .map #[] 0) :
    Pair w (wr.alloc X) ab bg bt ab2 bg2 bt2 wr.heap.size v v2 lv s s2 c c2 L [] := by
  subst hX
  exact ⟨hA.alloc _, hB.alloc _, hd, hr.of_block (fun k hk => Below.heap_alloc _ _ _ (hr.lt hk).2), o1, o2, SetX.made wr, fun e => Nat.lt_irrefl _ (hA.ar.lt e), fun e => Nat.lt_irrefl _ (hB.ar.lt e), fun e => Nat.lt_irrefl _ (hr.lt e).2, hA.bel.size⟩
end

/-- both arenas in one state, all taken, F freed since -/
def ManyLawAt (w : World) (N ab bg bt ab2 bg2 bt2 bs c : Nat) (lv : Value) (wr : World) : Prop :=
  ∃ v v2 s F, Pair w wr ab bg bt ab2 bg2 bt2 bs v v2 lv s s c c (firsts N) (F.map (·.1)) ∧ TurnsInv N s F ∧ F.length ≤ c
def ManyLawRel (w : World) (N ab bg bt ab2 bg2 bt2 bs pn : Nat) (lv : Value) (i : Value) (wr : World) : Prop :=
  ∃ k : Nat, k ≤ pn ∧ i = .int .i64 k ∧ ManyLawAt w N ab bg bt ab2 bg2 bt2 bs k lv wr

theorem TurnsInv.avail {N : Nat} {s : Ar} {F : List (Int × Int)} (h : TurnsInv N s F) : s.avail = F.length := by
  unfold Ar.avail; rw [h.room, h.fresh, h.free, List.length_map]; omega

/-- an arena while another one beside it changes -/
theorem ArS.beside {w W W' : World} {ab bg bt : Nat} {v : Value} {s : Ar} {c : Nat} {S : Nat → Prop} (h : ArS w W ab bg bt v s c) (hc : Chg W W' S) (hS : ∀ k, S k → w.heap.size ≤ k) (hd : ∀ k, arFp ab bg bt v k → ¬ S k) : ArS w W' ab bg bt v s c :=
  ⟨h.ar.keep (fun k hk => hc.block k (h.ar.lt hk) (hd k hk)), h.bel.trans (hc.below h.bel.size hS), h.own⟩

theorem two_full {w w3 w4 w5 : World} {N ab bg bt ab2 bg2 bt2 : Nat} {v v2 v4 v5 rv rv2 : Value} (hA : ArS w w3 ab bg bt v (Ar.made N) 0) (hB : ArS w w3 ab2 bg2 bt2 v2 (Ar.made N) 0) (hd : ∀ k, arFp ab bg bt v k → ¬ arFp ab2 bg2 bt2 v2 k)
    (hM : ManyAt w3 w4 ab bg bt v (Ar.made N) 0 N rv v4) (hM2 : ManyAt w4 w5 ab2 bg2 bt2 v2 (Ar.made N) 0 N rv2 v5) :
    ArS w w5 ab bg bt v4 ((Ar.made N).after N) 0 ∧ ArS w w5 ab2 bg2 bt2 v5 ((Ar.made N).after N) 0 ∧ (∀ k, arFp ab bg bt v4 k → ¬ arFp ab2 bg2 bt2 v5 k) ∧ RowH w w5 rv (firsts N) ∧ RowH w w5 rv2 (firsts N) ∧ (∀ k, rv.ownBlock = some k → ¬ arFp ab bg bt v4 k) ∧ (∀ k, rv.ownBlock = some k → ¬ arFp ab2 bg2 bt2 v5 k) := by
  have hA4 := hA.step hM.ar hM.chg hM.own
  have hB4 := hB.beside hM.chg hA.own (fun k hk hk' => hd k hk' hk)
  have d4 : ∀ k, arFp ab bg bt v4 k → ¬ arFp ab2 bg2 bt2 v2 k := fun k hk hk' => arFp_step (fun e => hd k e hk') (hB.ar.lt hk') hM.own hk
  have hA5 := hA4.beside hM2.chg hB4.own d4
  have hB5 := hB4.step hM2.ar hM2.chg hM2.own
  have d5 : ∀ k, arFp ab bg bt v4 k → ¬ arFp ab2 bg2 bt2 v5 k := fun k hk hk' => arFp_step (d4 k hk) (hA4.ar.lt hk) hM2.own hk'
  have hr := hM.row.base (w := w) hA.bel.size
  have hr2 := hM2.row.base (w := w) hA4.bel.size
  rw [(made_after N N (Nat.le_refl _)).2] at hr hr2
  have nb : ∀ k, rv.ownBlock = some k → ¬ arFp ab2 bg2 bt2 v2 k := fun k hk hf => by
    have := (hM.row.lt hk).1
    have := hB.ar.lt hf
    omega
  exact ⟨hA5, hB5, d5, hr.of_block (fun k hk => hM2.chg.block k (hr.lt hk).2 (nb k hk)), hr2, hM.out, fun k hk => arFp_step (nb k hk) (hr.lt hk).2 hM2.own⟩

theorem Ar.got_get (s : Ar) : ∀ (C j : Nat), j < C → (s.got C)[j]? = some ((s.after j).takeRes.1, (s.after j).takeRes.2.1)
  | 0, j, h => absurd h (Nat.not_lt_zero _)
  | C + 1, j, h => by
    have e : s.got (C + 1) = s.got C ++ [((s.after C).takeRes.1, (s.after C).takeRes.2.1)] := rfl
    rw [e]
    by_cases hj : j < C
    · rw [List.getElem?_append_left (by rw [Ar.got_length]; exact hj)]
      exact Ar.got_get s C j hj
    · obtain rfl : j = C := by omega
      rw [List.getElem?_append_right (by rw [Ar.got_length]; exact Nat.le_refl _), Ar.got_length]
      simp

/-- behind Many of the first arena: its row in the place of the elder one -/
theorem Pair.many {w wr w7 : World} {ab bg bt ab2 bg2 bt2 bs C : Nat} {v v2 v7 lv rv : Value} {s s2 : Ar} {c c2 : Nat} {L : List (Int × Int)} {G : List Int} (h : Pair w wr ab bg bt ab2 bg2 bt2 bs v v2 lv s s2 c c2 L G) (hM : ManyAt wr w7 ab bg bt v s c C rv v7) :
    Pair w w7 ab bg bt ab2 bg2 bt2 bs v7 v2 rv (s.after C) s2 c c2 (s.got C) G := by
  have P := h.stepA hM.ar hM.chg hM.own
  refine ⟨P.A, P.B, P.dis, hM.row.base h.A.bel.size, hM.out, fun k hk hf => ?_, P.set, P.sA, P.sB, fun e => ?_, P.sG⟩
  · have := (hM.row.lt hk).1; have := h.B.ar.lt hf; omega
  · have := (hM.row.lt e).1; have := h.set.lt; omega

def TakeRel (w : World) (ab bg bt ab2 bg2 bt2 bs c C : Nat) (v7 rv : Value) (s : Ar) (G : List Int) (i : Value) (wr : World) : Prop :=
  ∃ (j : Nat) (v2 : Value), j ≤ C ∧ i = .int .i64 j ∧ Pair w wr ab bg bt ab2 bg2 bt2 bs v7 v2 rv (s.after C) (s.after j) c c (s.got C) G
end Go.Proofs.Ytfkckdfldalceaa
