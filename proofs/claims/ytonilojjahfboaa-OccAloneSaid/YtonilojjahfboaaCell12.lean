/- The store of package cell: Handle, Look. Conditions: each contract's own premises. -/
import Derived.Test.YtonilojjahfboaaCell11
namespace Go.Proofs.Ytonilojjahfboaa
open Go.RowKit Go.Maps

theorem StC.preH {w : World} {s : Sto} (h : StC w s) {k : Ky} (hk : k.Ok) (X Y : Obj) (nq : Nat) :
    (Instr.lookup 59 (.map (some s.mb)) (.agg #[.int .i64 k.kind, .int .i64 k.a, .int .i64 k.b, .string k.s]) false).run Try.prog (((w.alloc X).alloc Y).drewN nq) = .ok (ptrOf (s.f k)) (((w.alloc X).alloc Y).drewN nq) := h.pre2 hk X Y nq
/-- what Handle answers -/
def handV : Option Sl → Value
  | none => .tuple #[.agg #[.int .i64 0, .int .i64 0], .bool false]
  | some x => .tuple #[.agg #[.int .i64 x.hs, .int .i64 x.hg], .bool true]
/-- what Look answers -/
def lookV : Option Cl → Value
  | none => .tuple #[.agg #[.int .u64 0, .string ⟨#[]⟩, .bool false], .bool false]
  | some x => .tuple #[.agg #[.int .u64 x.st, .string x.text, .bool (!x.ab)], .bool true]
/-- which, by cells -/
def WhichG (g : Ky → Option Cl) (p : Cl → Bool) (n : Nat) (w : World) (e : Ending) (w' : World) : Prop :=
  ∃ v ks, e = .returned v ∧ KySorted ks ∧ ks.length ≤ n ∧ (∀ k, k ∈ ks ↔ ∃ c, g k = some c ∧ p c = true) ∧ kK.Own w' w.heap.size v ks ∧ Below w.heap.size w w'
def heldC (who : Int) (x : Cl) : Bool := x.lk && (x.who == who)
def hasC (x : Cl) : Bool := !x.ab
theorem WhichPost.g {s : Sto} {p : Sl → Bool} {q : Cl → Bool} {w w' : World} {e : Ending} (h : StC w s) (hq : ∀ x : Sl, p x = q x.cl) (hp : WhichPost s p w e w') : WhichG s.g q s.cnt w e w' := by
  obtain ⟨v, ks, rfl, h1, ⟨_, h3, h4, h5⟩, h6, h7⟩ := hp
  refine ⟨v, ks, rfl, h1, h4, fun k => ?_, h6, h7⟩
  have e1 : (∃ x, s.f k = some x ∧ p x = true) ↔ ∃ c, s.g k = some c ∧ q c = true := by
    unfold Sto.g
    constructor
    · rintro ⟨x, hx, hp⟩
      exact ⟨x.cl, by rw [hx]; rfl, by rw [← hq]; exact hp⟩
    · rintro ⟨c, hc, hp⟩
      cases hf : s.f k with
      | none => rw [hf] at hc; cases hc
      | some x =>
        rw [hf] at hc
        simp only [Option.map_some, Option.some.injEq] at hc
        subst hc
        exact ⟨x, rfl, by rw [hq]; exact hp⟩
  constructor
  · intro hk
    exact e1.1 ((h5 k (h3 k hk)).1 hk)
  · intro hk
    obtain ⟨x, hx, hp⟩ := e1.2 hk
    exact (h5 k (h.slot k x hx).1).2 ⟨x, hx, hp⟩
theorem held_g (s : Sto) (b : Nat) (who : Int) (w : World) (h : StC w s) (hb : s.sb = b) (hn : s.cnt ≤ 1000000) :
    Calls Try.prog 20 #[.pointer (some ⟨b, 0, none⟩), .int .i64 who] w (WhichG s.g (heldC who) s.cnt w) :=
  (held_any s b who w h hb hn).mono fun _ _ hp => hp.g h (fun _ => rfl)
theorem keys_g (s : Sto) (b : Nat) (w : World) (h : StC w s) (hb : s.sb = b) (hn : s.cnt ≤ 1000000) :
    Calls Try.prog 14 #[.pointer (some ⟨b, 0, none⟩)] w (WhichG s.g hasC s.cnt w) :=
  (keys_any s b w h hb hn).mono fun _ _ hp => hp.g h (fun _ => rfl)
theorem sorted_uniq {α : Type} {R : α → α → Prop} (asy : ∀ a b, R a b → ¬ R b a) : ∀ {a b : List α}, a.Pairwise R → b.Pairwise R → (∀ k, k ∈ a ↔ k ∈ b) → a = b
  | [], [], _, _, _ => rfl
  | [], y :: b, _, _, h => absurd ((h y).2 (List.mem_cons.2 (.inl rfl))) (fun e => by cases e)
  | x :: a, [], _, _, h => absurd ((h x).1 (List.mem_cons.2 (.inl rfl))) (fun e => by cases e)
  | x :: a, y :: b, ha, hb, h => by
    obtain ⟨ha1, ha2⟩ := List.pairwise_cons.1 ha
    obtain ⟨hb1, hb2⟩ := List.pairwise_cons.1 hb
    have e : x = y := Classical.byContradiction fun hn => by
      have h1 : x ∈ b := (List.mem_cons.1 ((h x).1 (List.mem_cons.2 (.inl rfl)))).resolve_left hn
      have h2 : y ∈ a := (List.mem_cons.1 ((h y).2 (List.mem_cons.2 (.inl rfl)))).resolve_left (fun e => hn e.symm)
      exact asy _ _ (ha1 y h2) (hb1 x h1)
    subst e
    have irr : ∀ z, ¬ R z z := fun z hz => asy z z hz hz
    rw [sorted_uniq asy ha2 hb2 (fun k => ⟨fun hk => (List.mem_cons.1 ((h k).1 (List.mem_cons.2 (.inr hk)))).resolve_left (fun e => irr x (by have := ha1 k hk; rw [e] at this; exact this)),
      fun hk => (List.mem_cons.1 ((h k).2 (List.mem_cons.2 (.inr hk)))).resolve_left (fun e => irr x (by have := hb1 k hk; rw [e] at this; exact this))⟩)]
theorem ky_asymm (a b : Ky) (h : a.cmp b < 0) : ¬ b.cmp a < 0 := by
  have := Ky.cmp_neg a b
  omega
theorem KySorted.uniq {a b : List Ky} (ha : KySorted a) (hb : KySorted b) (h : ∀ k, k ∈ a ↔ k ∈ b) : a = b := sorted_uniq ky_asymm ha hb h
/-- a key's slice of its own -/
theorem ksv_new {w : World} {s : Sto} (h : StC w s) {k : Ky} (hk : k.Ok) : KsV (w.alloc (.cells #[.int .i64 k.kind, .int .i64 k.a, .int .i64 k.b, .string k.s] 35)) s.fp (some ⟨w.heap.size, 0, none⟩) [k] := fun _ =>
  ⟨_, 0, rfl, KsAt.one (heap_new w _) hk, fun e => by have := h.lt e; omega⟩
theorem Bx.key {w : World} {s : Sto} {b : Nat} {k : Ky} (h : Bx w s b (.cells #[.int .i64 k.kind, .int .i64 k.a, .int .i64 k.b, .string k.s] 35)) :
    w.cell? ⟨b, 0, none⟩ = some (.int .i64 k.kind) ∧ w.cell? ⟨b, 1, none⟩ = some (.int .i64 k.a) ∧ w.cell? ⟨b, 2, none⟩ = some (.int .i64 k.b) ∧ w.cell? ⟨b, 3, none⟩ = some (.string k.s) ∧ b < w.heap.size :=
  ⟨h.cell 0, h.cell 1, h.cell 2, h.cell 3, h.lt⟩
end Go.Proofs.Ytonilojjahfboaa
