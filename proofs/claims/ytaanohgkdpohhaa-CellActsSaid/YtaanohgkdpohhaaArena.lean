/- The arena (package arena): a plain form of its state, what it is in memory, and what each of its functions does. Conditions: each contract's own premises. -/
import Derived.Test.YtaanohgkdpohhaaWb0
import Derived.Test.YtaanohgkdpohhaaRows
import Derived.Test.YtaanohgkdpohhaaBase
import Derived.WalkKit
import Derived.WalkSpells
import Derived.WalkLawsBesides
import Derived.WalkSmall
import Derived.Maps.OwnSet
import Derived.Deep.QuietTactic
import Derived.BigQuiet
import Derived.Lib.Hide
namespace Go.Proofs.Ytaanohgkdpohhaa
open Go.RowKit Go.Maps

theorem lawInt : Keyed Try.prog 3 := int_keyed Try.underlying3
theorem zeroInt (w : World) : (zeroValue 3).run Try.prog w = .ok (.int .i64 0) w := by kernel_rfl
theorem zeroBool (w : World) : (zeroValue 4).run Try.prog w = .ok (.bool false) w := by kernel_rfl

theorem keyInt {x : Int} (h : I64 x) : keyOf Try.prog 3 (.int .i64 x) = some (.int .i64 x) := keyOf_int_mk Try.underlying3 h.wf

/-- the plain arena; free: the one freed last is last -/
structure Ar where
  room : Nat
  gens : Int → Int
  free : List Int
  fresh : Nat

def Ar.taken (s : Ar) (x : Int) : Bool := decide (0 ≤ x) && decide (x < s.fresh) && !s.free.contains x

structure Ar.Ok (s : Ar) (c : Nat) : Prop where
  room : s.room ≤ 1048576
  fresh : s.fresh ≤ s.room
  nodup : s.free.Nodup
  mem : ∀ x ∈ s.free, 0 ≤ x ∧ x < s.fresh
  gens : ∀ x, 0 ≤ s.gens x ∧ s.gens x ≤ c
  cnt : c ≤ 1099511627776

structure ArC (w : World) (ab bg bt : Nat) (v : Value) (s : Ar) (c : Nat) : Prop where
  ok : s.Ok c
  blk : w.heap[ab]? = some (.cells #[.int .i64 s.room, .map (some bg), .map (some bt), v, .int .i64 s.fresh] 156 (0, 0))
  gens : ∃ n f, mapR w Try.prog 3 bg n f ∧ n ≤ c ∧ ∀ x, I64 x → (f (.int .i64 x)).getD (.int .i64 0) = .int .i64 (s.gens x)
  taken : ∃ n f, mapR w Try.prog 3 bt n f ∧ n + s.free.length = s.fresh ∧ ∀ x, I64 x → f (.int .i64 x) = if s.taken x then some (.bool true) else none
  row : w.ownsRow 0 3 1 v s.free.length (s.free.map (.int .i64))
  ne : bg ≠ bt

theorem ArC.lookG {w : World} {ab bg bt : Nat} {v : Value} {s : Ar} {c : Nat} (h : ArC w ab bg bt v s c) {x : Int} (hx : I64 x) {W : World} (hW : W.heap[bg]? = w.heap[bg]?) :
    (Instr.lookup 153 (.map (some bg)) (.int .i64 x) false).run Try.prog W = .ok (.int .i64 (s.gens x)) W := by
  obtain ⟨n, fg, mg, _, hg⟩ := h.gens
  rw [(mg.of_block (w' := W) hW).look lawInt Try.underlying153 (zeroInt _) (keyInt hx), hg x hx]
theorem ArC.lookT {w : World} {ab bg bt : Nat} {v : Value} {s : Ar} {c : Nat} (h : ArC w ab bg bt v s c) {x : Int} (hx : I64 x) {W : World} (hW : W.heap[bt]? = w.heap[bt]?) :
    (Instr.lookup 154 (.map (some bt)) (.int .i64 x) false).run Try.prog W = .ok (.bool (s.taken x)) W := by
  obtain ⟨n, ft, mt, _, hft⟩ := h.taken
  rw [(mt.of_block (w' := W) hW).look lawInt Try.underlying154 (zeroBool _) (keyInt hx), hft x hx]
  cases s.taken x <;> rfl
theorem ArC.ltG {w : World} {ab bg bt : Nat} {v : Value} {s : Ar} {c : Nat} (h : ArC w ab bg bt v s c) : bg < w.heap.size := by obtain ⟨_, _, m, _⟩ := h.gens; exact m.lt
theorem ArC.ltT {w : World} {ab bg bt : Nat} {v : Value} {s : Ar} {c : Nat} (h : ArC w ab bg bt v s c) : bt < w.heap.size := by obtain ⟨_, _, m, _⟩ := h.taken; exact m.lt
theorem ArC.ltA {w : World} {ab bg bt : Nat} {v : Value} {s : Ar} {c : Nat} (h : ArC w ab bg bt v s c) : ab < w.heap.size := (Array.getElem?_eq_some_iff.1 h.blk).1

set_option maxHeartbeats 400000 in
theorem live_yes (ab bg bt : Nat) (v : Value) (s : Ar) (c : Nat) (w : World) (x g : Int) (hx : I64 x) (h : ArC w ab bg bt v s c) (ht : s.taken x = true) :
    Calls Try.prog 25 #[.pointer (some ⟨ab, 0, none⟩), .agg #[.int .i64 x, .int .i64 g]] w fun e w' => e = .returned (.bool (s.gens x == g)) ∧ Below w.heap.size w w' := by
  have c1 := cell_of_blk h.blk 1
  have c2 := cell_of_blk h.blk 2
  simp at c1 c2
  have la := h.ltA
  have l1 := fun nq => h.lookG hx (W := (w.alloc (Obj.cells #[.int .i64 x, .int .i64 g] 44)).drewN nq) (Below.heap_alloc w _ _ h.ltG)
  have l2 := fun nq => h.lookT hx (W := (w.alloc (Obj.cells #[.int .i64 x, .int .i64 g] 44)).drewN nq) (Below.heap_alloc w _ _ h.ltT)
  rw [ht] at l2
  clear h ht
  go_enter Try.func25, Try.ntmps25
  go_wp2
  go_quiet (fail)
  go_wp2
  go_ret
  exact ⟨rfl, below_drewN ((Below.refl _ _).alloc (Nat.le_refl _) _) _⟩

set_option maxHeartbeats 400000 in
theorem live_no (ab bg bt : Nat) (v : Value) (s : Ar) (c : Nat) (w : World) (x g : Int) (hx : I64 x) (h : ArC w ab bg bt v s c) (ht : s.taken x = false) :
    Calls Try.prog 25 #[.pointer (some ⟨ab, 0, none⟩), .agg #[.int .i64 x, .int .i64 g]] w fun e w' => e = .returned (.bool false) ∧ Below w.heap.size w w' := by
  have c1 := cell_of_blk h.blk 1
  have c2 := cell_of_blk h.blk 2
  simp at c1 c2
  have la := h.ltA
  have l2 := fun nq => h.lookT hx (W := (w.alloc (Obj.cells #[.int .i64 x, .int .i64 g] 44)).drewN nq) (Below.heap_alloc w _ _ h.ltT)
  rw [ht] at l2
  clear h ht
  go_enter Try.func25, Try.ntmps25
  go_wp2
  go_quiet (fail)
  go_wp2
  go_ret
  exact ⟨rfl, below_drewN ((Below.refl _ _).alloc (Nat.le_refl _) _) _⟩

/-- is a handle live? -/
def Ar.live (s : Ar) (x g : Int) : Bool := s.taken x && (s.gens x == g)

theorem live_any (ab bg bt : Nat) (v : Value) (s : Ar) (c : Nat) (w : World) (x g : Int) (hx : I64 x) (h : ArC w ab bg bt v s c) :
    Calls Try.prog 25 #[.pointer (some ⟨ab, 0, none⟩), .agg #[.int .i64 x, .int .i64 g]] w fun e w' => e = .returned (.bool (s.live x g)) ∧ Below w.heap.size w w' := by
  cases ht : s.taken x
  · exact (live_no ab bg bt v s c w x g hx h ht).mono fun _ _ ⟨h1, h2⟩ => ⟨by rw [h1, Ar.live, ht]; rfl, h2⟩
  · exact (live_yes ab bg bt v s c w x g hx h ht).mono fun _ _ ⟨h1, h2⟩ => ⟨by rw [h1, Ar.live, ht]; rfl, h2⟩


theorem ArC.neGA {w : World} {ab bg bt : Nat} {v : Value} {s : Ar} {c : Nat} (h : ArC w ab bg bt v s c) : bg ≠ ab := by
  rintro rfl
  obtain ⟨_, _, ⟨_, ⟨_, _, hb, _⟩, _⟩, _⟩ := h.gens
  rw [h.blk] at hb; cases hb
theorem ArC.neTA {w : World} {ab bg bt : Nat} {v : Value} {s : Ar} {c : Nat} (h : ArC w ab bg bt v s c) : bt ≠ ab := by
  rintro rfl
  obtain ⟨_, _, ⟨_, ⟨_, _, hb, _⟩, _⟩, _⟩ := h.taken
  rw [h.blk] at hb; cases hb

/-! the plain arena -/
theorem Ar.taken_iff {s : Ar} {x : Int} : s.taken x = true ↔ 0 ≤ x ∧ x < s.fresh ∧ x ∉ s.free := by
  simp [Ar.taken, and_assoc]

/-- what Take does to the plain arena -/
def Ar.pop (s : Ar) : Ar := { s with free := s.free.dropLast }
def Ar.grow (s : Ar) : Ar := { s with fresh := s.fresh + 1 }
def Ar.put (s : Ar) (x : Int) : Ar := { s with free := s.free ++ [x], gens := fun y => if y = x then s.gens x + 1 else s.gens y }


theorem Ar.Ok.pop {s : Ar} {c : Nat} (h : s.Ok c) : s.pop.Ok c :=
  ⟨h.room, h.fresh, (List.dropLast_sublist _).nodup h.nodup, fun x hx => h.mem x ((List.dropLast_sublist _).subset hx), h.gens, h.cnt⟩
theorem Ar.Ok.grow {s : Ar} {c : Nat} (h : s.Ok c) (hr : s.fresh < s.room) : s.grow.Ok c :=
  ⟨h.room, hr, h.nodup, fun x hx => by have := h.mem x hx; simp [Ar.grow]; omega, h.gens, h.cnt⟩
theorem Ar.Ok.put {s : Ar} {c : Nat} (h : s.Ok c) {x : Int} (ht : s.taken x = true) (hc : c + 1 ≤ 1099511627776) : (s.put x).Ok (c + 1) := by
  obtain ⟨h0, h1, h2⟩ := Ar.taken_iff.1 ht
  refine ⟨h.room, h.fresh, ?_, ?_, ?_, hc⟩
  · simp only [Ar.put]
    rw [List.nodup_append]
    exact ⟨h.nodup, by simp, fun a ha b hb => by simp at hb; subst hb; intro e; subst e; exact h2 ha⟩
  · intro y hy
    simp only [Ar.put, List.mem_append, List.mem_singleton] at hy
    rcases hy with hy | rfl
    · exact h.mem y hy
    · exact ⟨h0, h1⟩
  · intro y
    have := h.gens y
    have := h.gens x
    simp only [Ar.put]
    split <;> omega
theorem Ar.taken_pop {s : Ar} {c : Nat} (h : s.Ok c) {l : List Int} {x : Int} (hs : s.free = l ++ [x]) (y : Int) : s.pop.taken y = (decide (y = x) || s.taken y) := by
  have hm := h.mem x (by rw [hs]; simp)
  have hn := h.nodup
  rw [hs, List.nodup_append] at hn
  rw [Bool.eq_iff_iff]
  simp only [Bool.or_eq_true, Ar.taken_iff, decide_eq_true_eq]
  simp only [Ar.pop, hs, List.dropLast_concat, List.mem_append, List.mem_singleton]
  constructor
  · rintro ⟨h1, h2, h3⟩
    by_cases e : y = x
    · exact .inl e
    · exact .inr ⟨h1, h2, by simp [e, h3]⟩
  · rintro (rfl | ⟨h1, h2, h3⟩)
    · exact ⟨hm.1, hm.2, fun hy => hn.2.2 y hy y (by simp) rfl⟩
    · exact ⟨h1, h2, fun hy => h3 (.inl hy)⟩
theorem Ar.taken_grow {s : Ar} {c : Nat} (h : s.Ok c) (y : Int) : s.grow.taken y = (decide (y = (s.fresh : Int)) || s.taken y) := by
  rw [Bool.eq_iff_iff]
  simp only [Bool.or_eq_true, Ar.taken_iff, decide_eq_true_eq]
  simp only [Ar.grow]
  constructor
  · rintro ⟨h1, h2, h3⟩
    by_cases e : y = s.fresh
    · exact .inl e
    · exact .inr ⟨h1, by omega, h3⟩
  · rintro (rfl | ⟨h1, h2, h3⟩)
    · exact ⟨by omega, by omega, fun hy => by have := h.mem _ hy; omega⟩
    · exact ⟨h1, by omega, h3⟩
theorem Ar.taken_put {s : Ar} (x y : Int) : (s.put x).taken y = (!decide (y = x) && s.taken y) := by
  rw [Bool.eq_iff_iff]
  simp only [Bool.and_eq_true, Ar.taken_iff, Bool.not_eq_true', decide_eq_false_iff_not]
  simp only [Ar.put, List.mem_append, List.mem_singleton]
  constructor
  · rintro ⟨h1, h2, h3⟩
    exact ⟨fun e => h3 (.inr e), h1, h2, fun hy => h3 (.inl hy)⟩
  · rintro ⟨e, h1, h2, h3⟩
    exact ⟨h1, h2, fun hy => hy.elim h3 e⟩
theorem Ar.Ok.i64 {s : Ar} {c : Nat} (h : s.Ok c) {x : Int} (ht : s.taken x = true) : I64 x := by
  obtain ⟨h0, h1, _⟩ := Ar.taken_iff.1 ht
  have := h.room; have := h.fresh
  constructor <;> omega

/-- the blocks that an arena lies in -/
def arFp (ab bg bt : Nat) (v : Value) (k : Nat) : Prop := k = ab ∨ k = bg ∨ k = bt ∨ v.ownBlock = some k

/-- what a call leaves: its answer, the arena's new state, and that nothing else has changed -/
def ArPost (w : World) (ab bg bt : Nat) (v : Value) (s' : Ar) (c' : Nat) (r : Value) (e : Ending) (w' : World) : Prop :=
  e = .returned r ∧ ∃ v', ArC w' ab bg bt v' s' c' ∧ Chg w w' (arFp ab bg bt v) ∧ ∀ k, v'.ownBlock = some k → v.ownBlock = some k ∨ w.heap.size ≤ k

theorem ArC.keep {w w' : World} {ab bg bt : Nat} {v : Value} {s : Ar} {c : Nat} (h : ArC w ab bg bt v s c) (hb : ∀ k, arFp ab bg bt v k → w'.heap[k]? = w.heap[k]?) : ArC w' ab bg bt v s c := by
  obtain ⟨n, f, m, h1⟩ := h.gens
  obtain ⟨n', f', m', h2⟩ := h.taken
  exact ⟨h.ok, (hb ab (.inl rfl)).trans h.blk, ⟨n, f, m.of_block (hb bg (.inr (.inl rfl))), h1⟩, ⟨n', f', m'.of_block (hb bt (.inr (.inr (.inl rfl)))), h2⟩,
    ownsRow_of_block h.row (fun k hk => hb k (.inr (.inr (.inr hk)))), h.ne⟩
theorem ArC.lt {w : World} {ab bg bt : Nat} {v : Value} {s : Ar} {c : Nat} (h : ArC w ab bg bt v s c) {k : Nat} (hk : arFp ab bg bt v k) : k < w.heap.size := by
  rcases hk with rfl | rfl | rfl | hk
  · exact h.ltA
  · exact h.ltG
  · exact h.ltT
  · exact (h.row.lt k hk).2
theorem ArC.neRA {w : World} {ab bg bt : Nat} {v : Value} {s : Ar} {c : Nat} (h : ArC w ab bg bt v s c) {k : Nat} (hk : v.ownBlock = some k) : k ≠ ab ∧ k ≠ bg ∧ k ≠ bt := by
  rcases h.row.2 with ⟨rfl, _⟩ | ⟨g, cap, cur, rfl, _, hg, _⟩
  · simp [Value.ownBlock] at hk
  · simp [Value.ownBlock] at hk; subst hk
    refine ⟨?_, ?_, ?_⟩
    · rintro rfl; rw [h.blk] at hg; simp at hg
    · rintro rfl; obtain ⟨_, _, ⟨_, ⟨_, _, hb, _⟩, _⟩, _⟩ := h.gens; rw [hg] at hb; cases hb
    · rintro rfl; obtain ⟨_, _, ⟨_, ⟨_, _, hb, _⟩, _⟩, _⟩ := h.taken; rw [hg] at hb; cases hb
end Go.Proofs.Ytaanohgkdpohhaa
