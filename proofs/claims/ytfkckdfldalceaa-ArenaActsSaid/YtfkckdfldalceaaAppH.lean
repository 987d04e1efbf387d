/- Laws for slices of handles: append to a row of the call's own, from any slice of handles, nil among them; in a plain list of operations, and as a step of a region that draws. Conditions: each law's own premises. -/
import Derived.Test.YtfkckdfldalceaaArenaMany
import Derived.Laws.AppendOwnNone
namespace Go.Proofs.Ytfkckdfldalceaa
open Go.RowKit Go.Maps

/-- handles behind a slice value -/
structure HsS (w : World) (v : Value) (l : List (Int × Int)) : Prop where
  i64 : ∀ p ∈ l, I64 p.1 ∧ I64 p.2
  at' : ∃ a cap, v = .slice a l.length cap ∧ ((a = none ∧ l = [] ∧ cap = 0) ∨ ∃ ad : Addr, a = some ad ∧ ∀ j u, (hcells l)[j]? = some u → w.cell? (ad.add j) = some u)

theorem run_appH (w : World) (base : Nat) (ty : TypeId) (v sv : Value) (l l2 : List (Int × Int)) (hrow : w.ownsRow base 30 2 v l.length (hcells l)) (hs : HsS w sv l2) (hlen : l.length + l2.length ≤ 1099511627776) (hbase : base ≤ w.heap.size) :
    ∃ v' w', (Builtin.append_ #[28, 28] ty #[v, sv]).run Try.prog w = .ok v' w' ∧ w'.ownsRow base 30 2 v' (l ++ l2).length (hcells (l ++ l2)) ∧ w.grownBy w' v.ownBlock ∧ (v'.ownBlock = v.ownBlock ∨ v'.ownBlock = some w.heap.size) := by
  obtain ⟨i0, hi, hz0, hz1, hz2⟩ := info_parts infoHandle
  obtain ⟨a, cap, rfl, h | ⟨ad, rfl, hn⟩⟩ := hs.at'
  · obtain ⟨rfl, rfl, rfl⟩ := h
    refine ⟨v, w, ?_, by simpa using hrow, ⟨rfl, rfl, rfl, Nat.le_refl _, fun _ _ _ => rfl⟩, .inl rfl⟩
    exact run_append_owned_none (P := Try.prog) (w := w) base 28 ty 30 i0 2 Try.underlying28 hi v l.length (hcells l) hrow
  · obtain ⟨v', w', hr, h2, h3, _, h5⟩ := run_append_own_at (P := Try.prog) w base 28 ty 30 i0 (.agg #[.int .i64 0, .int .i64 0]) 2 16 Try.underlying28 hi hz0 hz1 hz2 rfl (by decide) v l.length (hcells l) hrow ad l2.length cap (hcells l2) (by rw [hcells_length]) hn (hcells_one _) (by unfold maxLen; omega) (by omega) hbase
    exact ⟨v', w', hr, by rw [List.length_append, hcells_append]; exact h2, h3, h5⟩

theorem wpList_appH (w : World) {ops : Array Oper} {rest : List Oper} {o : Oper} {a : Act} {Q : Exit → Act → World → Prop} (hgd : o.guard = none) (s x : Operand)
    (ho : o.op = .call { callee := .builtin .append, args := #[s, x], argTypes := #[28, 28] }) (base : Nat) (v sv : Value) (l l2 : List (Int × Int)) (hsv : a.eval s = v) (hx : a.eval x = sv)
    (hrow : w.ownsRow base 30 2 v l.length (hcells l)) (hs : HsS w sv l2) (hlen : l.length + l2.length ≤ 1099511627776) (hbase : base ≤ w.heap.size)
    (h : ∀ v' w' n, Hid (n = (l ++ l2).length) → w'.ownsRow base 30 2 v' n (hcells (l ++ l2)) → w.grownBy w' v.ownBlock → (v'.ownBlock = v.ownBlock ∨ v'.ownBlock = some w.heap.size) → wpList Try.prog ops Q rest (a.put o.dst v') w') :
    wpList Try.prog ops Q (o :: rest) a w := by
  refine wpList_plain hgd fun K hK => ?_
  obtain ⟨v', w', hr, h2, h3, h5⟩ := run_appH w base o.type v sv l l2 hrow hs hlen hbase
  unfold Oper.wp execOp
  simp only [ho, resolve, invoke, builtin, Sem.run_bind, Sem.run_pure, Result.andThen_ok, List.map_toArray, List.map_cons, List.map_nil, hsv, hx, hr]
  exact hK _ _ (h v' w' _ rfl h2 h3 h5)

theorem step_appH (w : World) {ops : Array Oper} {o : Oper} {a : Act} {K : Act → World → Prop} {Q : Exit → Act → World → Prop} {E : Prop} (hgd : o.guard = none) (s x : Operand)
    (ho : o.op = .call { callee := .builtin .append, args := #[s, x], argTypes := #[28, 28] }) (base : Nat) (v sv : Value) (l l2 : List (Int × Int)) (hsv : a.eval s = v) (hx : a.eval x = sv)
    (hrow : w.ownsRow base 30 2 v l.length (hcells l)) (hs : HsS w sv l2) (hlen : l.length + l2.length ≤ 1099511627776) (hbase : base ≤ w.heap.size)
    (h : ∀ v' w' n, Hid (n = (l ++ l2).length) → w'.ownsRow base 30 2 v' n (hcells (l ++ l2)) → w.grownBy w' v.ownBlock → (v'.ownBlock = v.ownBlock ∨ v'.ownBlock = some w.heap.size) → K (a.put o.dst v') w') :
    if Region.wanted o (yielded ops a.tmps) = true then Oper.wp Try.prog o a w K Q else E := by
  have hw : Region.wanted o (yielded ops a.tmps) = true := by simp [Region.wanted, hgd]
  rw [if_pos hw]
  obtain ⟨v', w', hr, h2, h3, h5⟩ := run_appH w base o.type v sv l l2 hrow hs hlen hbase
  unfold Oper.wp execOp
  simp only [ho, resolve, invoke, builtin, Sem.run_bind, Sem.run_pure, Result.andThen_ok, List.map_toArray, List.map_cons, List.map_nil, hsv, hx, hr]
  exact h v' w' _ rfl h2 h3 h5

/-- one handle in a block of its own -/
theorem HsS.one {w : World} {b c : Nat} {x g : Int} {t : TypeId} {z : Nat × Nat} (hb : w.heap[b]? = some (.cells #[.int .i64 x, .int .i64 g] t z)) (hx : I64 x) (hg : I64 g) : HsS w (.slice (some ⟨b, 0, none⟩) 1 c) [(x, g)] := by
  refine ⟨by simp [hx, hg], some ⟨b, 0, none⟩, c, rfl, .inr ⟨_, rfl, fun j u hu => ?_⟩⟩
  rw [addr_add, cell_of_blk hb]
  have e : hcells [(x, g)] = [.int .i64 x, .int .i64 g] := rfl
  rw [e] at hu
  simpa using hu
theorem HsS.row {w0 w : World} {v : Value} {l : List (Int × Int)} (h : RowH w0 w v l) : HsS w v l := by
  obtain ⟨a, cap, hv⟩ := h.shape
  subst hv
  refine ⟨h.i64, a, cap, rfl, ?_⟩
  rcases h.row.2 with ⟨e, h0⟩ | ⟨g, cap', cur, e, _⟩
  · simp only [Value.slice.injEq] at e
    obtain ⟨rfl, _, rfl⟩ := e
    exact .inl ⟨rfl, List.eq_nil_of_length_eq_zero h0, rfl⟩
  · simp only [Value.slice.injEq] at e
    obtain ⟨rfl, _, rfl⟩ := e
    exact .inr ⟨_, rfl, fun j u hu => h.row.cells (g := g) rfl j u hu⟩
theorem row_shape3 {w : World} {base n size : Nat} {e : TypeId} {v : Value} {xs : List Value} (h : w.ownsRow base e size v n xs) (hn : 0 < n) : ∃ g cap, v = .slice (some ⟨g, 0, none⟩) n cap := by
  rcases h.2 with ⟨_, h0⟩ | ⟨g, cap, cur, h0, _⟩
  · omega
  · exact ⟨g, cap, h0⟩
theorem row_shape4 {w : World} {base n size : Nat} {e : TypeId} {v : Value} {xs : List Value} (h : w.ownsRow base e size v n xs) : ∃ a cap, v = .slice a n cap := by
  rcases h.2 with ⟨h0, h1⟩ | ⟨g, cap, cur, h0, _⟩
  · exact ⟨none, 0, by rw [h0, h1]⟩
  · exact ⟨_, _, h0⟩
end Go.Proofs.Ytfkckdfldalceaa
