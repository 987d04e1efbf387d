/- The arena (package arena): a plain form of its state, what it is in memory, and what each of its functions does. Conditions: each contract's own premises. The arena's New, Take, Len, Room: what each does. Conditions: each contract's own premises. The arena's Take: a fresh slot, and none. Conditions: each contract's own premises. The arena's Free: what it does. Conditions: each contract's own premises. The arena's Free in one contract, for any list and for one handle. Conditions: each contract's own premises. Plain facts on arenas for the laws of layer 5: what Take and Free do to the handles that are live and to those that are gone. No program here beyond the plain arena. -/
import Derived.Test.YtkhkdedjffkhdaaGreatBsA
import Derived.Test.YtkhkdedjffkhdaaGreatRows
import Derived.WalkKit
import Derived.WalkSpells
import Derived.WalkLawsBesides
import Derived.WalkSmall
import Derived.Maps.OwnSet
import Derived.Deep.QuietTactic
import Derived.BigQuiet
import Derived.Lib.Hide
import Derived.StillTailTactics
import Derived.Deep.RegionLaw
import Derived.BigRegion
import Derived.Deep.AppendLies
namespace Go.Proofs.YtkhkdedjffkhdaaGreat
open Go.RowKit Go.Maps

theorem lawInt : Keyed Tryz.prog 3 := int_keyed Tryz.underlying3
theorem zeroInt (w : World) : (zeroValue 3).run Tryz.prog w = .ok (.int .i64 0) w := by kernel_rfl
theorem zeroBool (w : World) : (zeroValue 4).run Tryz.prog w = .ok (.bool false) w := by kernel_rfl

theorem keyInt {x : Int} (h : I64 x) : keyOf Tryz.prog 3 (.int .i64 x) = some (.int .i64 x) := keyOf_int_mk Tryz.underlying3 h.wf

/-- the plain arena; free: the one freed last is last -/
structure Ar where
  room : Nat
  gens : Int → Int
  free : List Int
  fresh : Nat

def Ar.taken (s : Ar) (x : Int) : Bool := decide (0 ≤ x) && decide (x < s.fresh) && !s.free.contains x

structure Ar.Ok (s : Ar) (c : Nat) : Prop where
  room : s.room ≤ 1048576
  fresh : s.fresh ≤ s.room
  nodup : s.free.Nodup
  mem : ∀ x ∈ s.free, 0 ≤ x ∧ x < s.fresh
  gens : ∀ x, 0 ≤ s.gens x ∧ s.gens x ≤ c
  cnt : c ≤ 1099511627776

structure ArC (w : World) (ab bg bt : Nat) (v : Value) (s : Ar) (c : Nat) : Prop where
  ok : s.Ok c
  blk : w.heap[ab]? = some (.cells #[.int .i64 s.room, .map (some bg), .map (some bt), v, .int .i64 s.fresh] 85 (0, 0))
  gens : ∃ n f, mapR w Tryz.prog 3 bg n f ∧ n ≤ c ∧ ∀ x, I64 x → (f (.int .i64 x)).getD (.int .i64 0) = .int .i64 (s.gens x)
  taken : ∃ n f, mapR w Tryz.prog 3 bt n f ∧ n + s.free.length = s.fresh ∧ ∀ x, I64 x → f (.int .i64 x) = if s.taken x then some (.bool true) else none
  row : w.ownsRow 0 3 1 v s.free.length (s.free.map (.int .i64))
  ne : bg ≠ bt

theorem ArC.lookG {w : World} {ab bg bt : Nat} {v : Value} {s : Ar} {c : Nat} (h : ArC w ab bg bt v s c) {x : Int} (hx : I64 x) {W : World} (hW : W.heap[bg]? = w.heap[bg]?) :
    (Instr.lookup 81 (.map (some bg)) (.int .i64 x) false).run Tryz.prog W = .ok (.int .i64 (s.gens x)) W := by
  obtain ⟨n, fg, mg, _, hg⟩ := h.gens
  rw [(mg.of_block (w' := W) hW).look lawInt Tryz.underlying81 (zeroInt _) (keyInt hx), hg x hx]
theorem ArC.lookT {w : World} {ab bg bt : Nat} {v : Value} {s : Ar} {c : Nat} (h : ArC w ab bg bt v s c) {x : Int} (hx : I64 x) {W : World} (hW : W.heap[bt]? = w.heap[bt]?) :
    (Instr.lookup 82 (.map (some bt)) (.int .i64 x) false).run Tryz.prog W = .ok (.bool (s.taken x)) W := by
  obtain ⟨n, ft, mt, _, hft⟩ := h.taken
  rw [(mt.of_block (w' := W) hW).look lawInt Tryz.underlying82 (zeroBool _) (keyInt hx), hft x hx]
  cases s.taken x <;> rfl
theorem ArC.ltG {w : World} {ab bg bt : Nat} {v : Value} {s : Ar} {c : Nat} (h : ArC w ab bg bt v s c) : bg < w.heap.size := by obtain ⟨_, _, m, _⟩ := h.gens; exact m.lt
theorem ArC.ltT {w : World} {ab bg bt : Nat} {v : Value} {s : Ar} {c : Nat} (h : ArC w ab bg bt v s c) : bt < w.heap.size := by obtain ⟨_, _, m, _⟩ := h.taken; exact m.lt
theorem ArC.ltA {w : World} {ab bg bt : Nat} {v : Value} {s : Ar} {c : Nat} (h : ArC w ab bg bt v s c) : ab < w.heap.size := (Array.getElem?_eq_some_iff.1 h.blk).1

set_option maxHeartbeats 400000 in
theorem live_yes (ab bg bt : Nat) (v : Value) (s : Ar) (c : Nat) (w : World) (x g : Int) (hx : I64 x) (h : ArC w ab bg bt v s c) (ht : s.taken x = true) :
    Calls Tryz.prog 138 #[.pointer (some ⟨ab, 0, none⟩), .agg #[.int .i64 x, .int .i64 g]] w fun e w' => e = .returned (.bool (s.gens x == g)) ∧ Below w.heap.size w w' := by
  have c1 := cell_of_blk h.blk 1
  have c2 := cell_of_blk h.blk 2
  simp at c1 c2
  have la := h.ltA
  have l1 := fun nq => h.lookG hx (W := (w.alloc (Obj.cells #[.int .i64 x, .int .i64 g] 117)).drewN nq) (Below.heap_alloc w _ _ h.ltG)
  have l2 := fun nq => h.lookT hx (W := (w.alloc (Obj.cells #[.int .i64 x, .int .i64 g] 117)).drewN nq) (Below.heap_alloc w _ _ h.ltT)
  rw [ht] at l2
  clear h ht
  go_enter Tryz.func138, Tryz.ntmps138
  go_wp2
  go_quiet (fail)
  go_wp2
  go_ret
  exact ⟨rfl, below_drewN ((Below.refl _ _).alloc (Nat.le_refl _) _) _⟩

set_option maxHeartbeats 400000 in
theorem live_no (ab bg bt : Nat) (v : Value) (s : Ar) (c : Nat) (w : World) (x g : Int) (hx : I64 x) (h : ArC w ab bg bt v s c) (ht : s.taken x = false) :
    Calls Tryz.prog 138 #[.pointer (some ⟨ab, 0, none⟩), .agg #[.int .i64 x, .int .i64 g]] w fun e w' => e = .returned (.bool false) ∧ Below w.heap.size w w' := by
  have c1 := cell_of_blk h.blk 1
  have c2 := cell_of_blk h.blk 2
  simp at c1 c2
  have la := h.ltA
  have l2 := fun nq => h.lookT hx (W := (w.alloc (Obj.cells #[.int .i64 x, .int .i64 g] 117)).drewN nq) (Below.heap_alloc w _ _ h.ltT)
  rw [ht] at l2
  clear h ht
  go_enter Tryz.func138, Tryz.ntmps138
  go_wp2
  go_quiet (fail)
  go_wp2
  go_ret
  exact ⟨rfl, below_drewN ((Below.refl _ _).alloc (Nat.le_refl _) _) _⟩

/-- is a handle live? -/
def Ar.live (s : Ar) (x g : Int) : Bool := s.taken x && (s.gens x == g)

theorem live_any (ab bg bt : Nat) (v : Value) (s : Ar) (c : Nat) (w : World) (x g : Int) (hx : I64 x) (h : ArC w ab bg bt v s c) :
    Calls Tryz.prog 138 #[.pointer (some ⟨ab, 0, none⟩), .agg #[.int .i64 x, .int .i64 g]] w fun e w' => e = .returned (.bool (s.live x g)) ∧ Below w.heap.size w w' := by
  cases ht : s.taken x
  · exact (live_no ab bg bt v s c w x g hx h ht).mono fun _ _ ⟨h1, h2⟩ => ⟨by rw [h1, Ar.live, ht]; rfl, h2⟩
  · exact (live_yes ab bg bt v s c w x g hx h ht).mono fun _ _ ⟨h1, h2⟩ => ⟨by rw [h1, Ar.live, ht]; rfl, h2⟩


theorem ArC.neGA {w : World} {ab bg bt : Nat} {v : Value} {s : Ar} {c : Nat} (h : ArC w ab bg bt v s c) : bg ≠ ab := by
  rintro rfl
  obtain ⟨_, _, ⟨_, ⟨_, _, hb, _⟩, _⟩, _⟩ := h.gens
  rw [h.blk] at hb; cases hb
theorem ArC.neTA {w : World} {ab bg bt : Nat} {v : Value} {s : Ar} {c : Nat} (h : ArC w ab bg bt v s c) : bt ≠ ab := by
  rintro rfl
  obtain ⟨_, _, ⟨_, ⟨_, _, hb, _⟩, _⟩, _⟩ := h.taken
  rw [h.blk] at hb; cases hb

/-! the plain arena -/
theorem Ar.taken_iff {s : Ar} {x : Int} : s.taken x = true ↔ 0 ≤ x ∧ x < s.fresh ∧ x ∉ s.free := by
  simp [Ar.taken, and_assoc]

/-- what Take does to the plain arena -/
def Ar.pop (s : Ar) : Ar := { s with free := s.free.dropLast }
def Ar.grow (s : Ar) : Ar := { s with fresh := s.fresh + 1 }
def Ar.put (s : Ar) (x : Int) : Ar := { s with free := s.free ++ [x], gens := fun y => if y = x then s.gens x + 1 else s.gens y }


theorem Ar.Ok.pop {s : Ar} {c : Nat} (h : s.Ok c) : s.pop.Ok c :=
  ⟨h.room, h.fresh, (List.dropLast_sublist _).nodup h.nodup, fun x hx => h.mem x ((List.dropLast_sublist _).subset hx), h.gens, h.cnt⟩
theorem Ar.Ok.grow {s : Ar} {c : Nat} (h : s.Ok c) (hr : s.fresh < s.room) : s.grow.Ok c :=
  ⟨h.room, hr, h.nodup, fun x hx => by have := h.mem x hx; simp [Ar.grow]; omega, h.gens, h.cnt⟩
theorem Ar.Ok.put {s : Ar} {c : Nat} (h : s.Ok c) {x : Int} (ht : s.taken x = true) (hc : c + 1 ≤ 1099511627776) : (s.put x).Ok (c + 1) := by
  obtain ⟨h0, h1, h2⟩ := Ar.taken_iff.1 ht
  refine ⟨h.room, h.fresh, ?_, ?_, ?_, hc⟩
  · simp only [Ar.put]
    rw [List.nodup_append]
    exact ⟨h.nodup, by simp, fun a ha b hb => by simp at hb; subst hb; intro e; subst e; exact h2 ha⟩
  · intro y hy
    simp only [Ar.put, List.mem_append, List.mem_singleton] at hy
    rcases hy with hy | rfl
    · exact h.mem y hy
    · exact ⟨h0, h1⟩
  · intro y
    have := h.gens y
    have := h.gens x
    simp only [Ar.put]
    split <;> omega
theorem Ar.taken_pop {s : Ar} {c : Nat} (h : s.Ok c) {l : List Int} {x : Int} (hs : s.free = l ++ [x]) (y : Int) : s.pop.taken y = (decide (y = x) || s.taken y) := by
  have hm := h.mem x (by rw [hs]; simp)
  have hn := h.nodup
  rw [hs, List.nodup_append] at hn
  rw [Bool.eq_iff_iff]
  simp only [Bool.or_eq_true, Ar.taken_iff, decide_eq_true_eq]
  simp only [Ar.pop, hs, List.dropLast_concat, List.mem_append, List.mem_singleton]
  constructor
  · rintro ⟨h1, h2, h3⟩
    by_cases e : y = x
    · exact .inl e
    · exact .inr ⟨h1, h2, by simp [e, h3]⟩
  · rintro (rfl | ⟨h1, h2, h3⟩)
    · exact ⟨hm.1, hm.2, fun hy => hn.2.2 y hy y (by simp) rfl⟩
    · exact ⟨h1, h2, fun hy => h3 (.inl hy)⟩
theorem Ar.taken_grow {s : Ar} {c : Nat} (h : s.Ok c) (y : Int) : s.grow.taken y = (decide (y = (s.fresh : Int)) || s.taken y) := by
  rw [Bool.eq_iff_iff]
  simp only [Bool.or_eq_true, Ar.taken_iff, decide_eq_true_eq]
  simp only [Ar.grow]
  constructor
  · rintro ⟨h1, h2, h3⟩
    by_cases e : y = s.fresh
    · exact .inl e
    · exact .inr ⟨h1, by omega, h3⟩
  · rintro (rfl | ⟨h1, h2, h3⟩)
    · exact ⟨by omega, by omega, fun hy => by have := h.mem _ hy; omega⟩
    · exact ⟨h1, by omega, h3⟩
theorem Ar.taken_put {s : Ar} (x y : Int) : (s.put x).taken y = (!decide (y = x) && s.taken y) := by
  rw [Bool.eq_iff_iff]
  simp only [Bool.and_eq_true, Ar.taken_iff, Bool.not_eq_true', decide_eq_false_iff_not]
  simp only [Ar.put, List.mem_append, List.mem_singleton]
  constructor
  · rintro ⟨h1, h2, h3⟩
    exact ⟨fun e => h3 (.inr e), h1, h2, fun hy => h3 (.inl hy)⟩
  · rintro ⟨e, h1, h2, h3⟩
    exact ⟨h1, h2, fun hy => hy.elim h3 e⟩
theorem Ar.Ok.i64 {s : Ar} {c : Nat} (h : s.Ok c) {x : Int} (ht : s.taken x = true) : I64 x := by
  obtain ⟨h0, h1, _⟩ := Ar.taken_iff.1 ht
  have := h.room; have := h.fresh
  constructor <;> omega

/-- the blocks that an arena lies in -/
def arFp (ab bg bt : Nat) (v : Value) (k : Nat) : Prop := k = ab ∨ k = bg ∨ k = bt ∨ v.ownBlock = some k

/-- what a call leaves: its answer, the arena's new state, and that nothing else has changed -/
def ArPost (w : World) (ab bg bt : Nat) (v : Value) (s' : Ar) (c' : Nat) (r : Value) (e : Ending) (w' : World) : Prop :=
  e = .returned r ∧ ∃ v', ArC w' ab bg bt v' s' c' ∧ Chg w w' (arFp ab bg bt v) ∧ ∀ k, v'.ownBlock = some k → v.ownBlock = some k ∨ w.heap.size ≤ k

theorem ArC.keep {w w' : World} {ab bg bt : Nat} {v : Value} {s : Ar} {c : Nat} (h : ArC w ab bg bt v s c) (hb : ∀ k, arFp ab bg bt v k → w'.heap[k]? = w.heap[k]?) : ArC w' ab bg bt v s c := by
  obtain ⟨n, f, m, h1⟩ := h.gens
  obtain ⟨n', f', m', h2⟩ := h.taken
  exact ⟨h.ok, (hb ab (.inl rfl)).trans h.blk, ⟨n, f, m.of_block (hb bg (.inr (.inl rfl))), h1⟩, ⟨n', f', m'.of_block (hb bt (.inr (.inr (.inl rfl)))), h2⟩,
    ownsRow_of_block h.row (fun k hk => hb k (.inr (.inr (.inr hk)))), h.ne⟩
theorem ArC.lt {w : World} {ab bg bt : Nat} {v : Value} {s : Ar} {c : Nat} (h : ArC w ab bg bt v s c) {k : Nat} (hk : arFp ab bg bt v k) : k < w.heap.size := by
  rcases hk with rfl | rfl | rfl | hk
  · exact h.ltA
  · exact h.ltG
  · exact h.ltT
  · exact (h.row.lt k hk).2
theorem ArC.neRA {w : World} {ab bg bt : Nat} {v : Value} {s : Ar} {c : Nat} (h : ArC w ab bg bt v s c) {k : Nat} (hk : v.ownBlock = some k) : k ≠ ab ∧ k ≠ bg ∧ k ≠ bt := by
  rcases h.row.2 with ⟨rfl, _⟩ | ⟨g, cap, cur, rfl, _, hg, _⟩
  · simp [Value.ownBlock] at hk
  · simp [Value.ownBlock] at hk; subst hk
    refine ⟨?_, ?_, ?_⟩
    · rintro rfl; rw [h.blk] at hg; simp at hg
    · rintro rfl; obtain ⟨_, _, ⟨_, ⟨_, _, hb, _⟩, _⟩, _⟩ := h.gens; rw [hg] at hb; cases hb
    · rintro rfl; obtain ⟨_, _, ⟨_, ⟨_, _, hb, _⟩, _⟩, _⟩ := h.taken; rw [hg] at hb; cases hb
end Go.Proofs.YtkhkdedjffkhdaaGreat
namespace Go.Proofs.YtkhkdedjffkhdaaGreat
open Go.RowKit Go.Maps

set_option maxHeartbeats 400000 in
theorem len_any0 (ab bt n : Nat) (w : World) (c2 : w.cell? ⟨ab, 2, none⟩ = some (.map (some bt))) (hl : (Builtin.len_ #[82] 3 #[.map (some bt)]).run Tryz.prog w = .ok (.int .i64 n) w) :
    Calls Tryz.prog 8 #[.pointer (some ⟨ab, 0, none⟩)] w fun e w' => e = .returned (.int .i64 n) ∧ w = w' := by
  go_enter Tryz.func8, Tryz.ntmps8
  go_wp2
  go_ret
  exact ⟨rfl, rfl⟩
theorem len_any (ab bg bt : Nat) (v : Value) (s : Ar) (c : Nat) (w : World) (h : ArC w ab bg bt v s c) :
    Calls Tryz.prog 8 #[.pointer (some ⟨ab, 0, none⟩)] w fun e w' => e = .returned (.int .i64 ((s.fresh : Int) - s.free.length)) ∧ w = w' := by
  have c2 := cell_of_blk h.blk 2
  simp at c2
  obtain ⟨n, f, m, hn, _⟩ := h.taken
  refine (len_any0 ab bt n w c2 (m.len Tryz.underlying82 _)).mono ?_
  rintro e w' ⟨rfl, rfl⟩
  exact ⟨by rw [show (n : Int) = (s.fresh : Int) - s.free.length by omega], rfl⟩

theorem new_any0 (rm : Int) (w : World) (h0 : 0 ≤ rm) (h1 : rm ≤ 1048576) :
    Calls Tryz.prog 24 #[.int .i64 rm] w fun e w' => e = .returned (.tuple #[.pointer (some ⟨w.heap.size + 2, 0, none⟩), .int .i64 0]) ∧
     w' = ((w.alloc (.map #[] 0)).alloc (.map #[] 0)).alloc (.cells #[.int .i64 rm, .map (some w.heap.size), .map (some (w.heap.size + 1)), .slice none 0 0, .int .i64 0] 85) := by
  have hmm := @run_makeMap Tryz.prog
  go_enter Tryz.func24, Tryz.ntmps24
  go_wp2
  go_ret2
  exact ⟨rfl, rfl⟩

/-- an arena of which nothing was taken yet -/
def Ar.made (room : Nat) : Ar := { room := room, gens := fun _ => 0, free := [], fresh := 0 }

theorem new_any (rm : Nat) (w : World) (h1 : rm ≤ 1048576) :
    Calls Tryz.prog 24 #[.int .i64 rm] w fun e w' => e = .returned (.tuple #[.pointer (some ⟨w.heap.size + 2, 0, none⟩), .int .i64 0]) ∧
     ArC w' (w.heap.size + 2) w.heap.size (w.heap.size + 1) (.slice none 0 0) (Ar.made rm) 0 ∧ Below w.heap.size w w' := by
  refine (new_any0 rm w (by omega) (by omega)).mono ?_
  rintro e w' ⟨rfl, rfl⟩
  refine ⟨rfl, ⟨⟨h1, Nat.zero_le _, List.nodup_nil, by simp [Ar.made], by simp [Ar.made], by omega⟩, ?_, ?_, ?_, World.ownsRow_nil _ _ _ _, by omega⟩, ?_⟩
  · have := heap_new ((w.alloc (.map #[] 0)).alloc (.map #[] 0)) (.cells #[.int .i64 rm, .map (some w.heap.size), .map (some (w.heap.size + 1)), .slice none 0 0, .int .i64 0] 85)
    rw [size_alloc, size_alloc] at this
    exact this
  · refine ⟨0, _, ((mapR_made w Tryz.prog 3).of_block ?_), Nat.le_refl _, fun x _ => rfl⟩
    rw [Below.heap_alloc _ _ _ (by rw [size_alloc, size_alloc]; omega), Below.heap_alloc _ _ _ (by simp)]
  · have m := mapR_made (w.alloc (.map #[] 0)) Tryz.prog 3
    rw [size_alloc] at m
    refine ⟨0, _, (m.of_block ?_), rfl, fun x _ => ?_⟩
    · rw [Below.heap_alloc _ _ _ (by rw [size_alloc, size_alloc]; omega)]
    · have : (Ar.made rm).taken x = false := by
        rw [Bool.eq_false_iff]; intro h; have := (Ar.taken_iff.1 h); simp [Ar.made] at this; omega
      rw [this]; rfl
  · exact ((((Below.refl _ _).alloc (Nat.le_refl _) _).alloc (by simp) _).alloc (by simp; omega) _)

set_option maxRecDepth 100000 in
theorem take_free0 (ab bg bt g k cap nt : Nat) (ft : Lit → Option Value) (s s' : Ar) (c : Nat) (w : World) (x : Int) (hx : I64 x) (h : ArC w ab bg bt (.slice (some ⟨g, 0, none⟩) (k + 1) cap) s c) (hk : (k : Int) ≤ 1048576) (hgl : g < w.heap.size) (hcap : k + 1 ≤ cap)
    (hcell : w.cell? ⟨g, k, none⟩ = some (.int .i64 x)) (mt : mapR w Tryz.prog 3 bt nt ft) (hnt : nt < maxLen)
    (hend : ∀ w1, mapR w1 Tryz.prog 3 bt (if (ft (.int .i64 x)).isSome then nt else nt + 1) (upd ft (.int .i64 x) (some (.bool true))) →
       ((w.setCell ⟨ab, 3, none⟩ (.slice (some ⟨g, 0, none⟩) k cap)).alloc (.cells #[.int .i64 0, .int .i64 0] 117)).mapTurned w1 bt →
       ArPost w ab bg bt (.slice (some ⟨g, 0, none⟩) (k + 1) cap) s' c (.tuple #[.agg #[.int .i64 x, .int .i64 (s.gens x)], .int .i64 0]) (.returned (.tuple #[.agg #[.int .i64 x, .int .i64 (s.gens x)], .int .i64 0])) ((w1.setCell ⟨w.heap.size, 0, none⟩ (.int .i64 x)).setCell ⟨w.heap.size, 1, none⟩ (.int .i64 (s.gens x)))) :
    Calls Tryz.prog 109 #[.pointer (some ⟨ab, 0, none⟩)] w (ArPost w ab bg bt (.slice (some ⟨g, 0, none⟩) (k + 1) cap) s' c (.tuple #[.agg #[.int .i64 x, .int .i64 (s.gens x)], .int .i64 0])) := by
  have c1 := cell_of_blk h.blk 1
  have c2 := cell_of_blk h.blk 2
  have c3 := cell_of_blk h.blk 3
  have c4 := cell_of_blk h.blk 4
  have f3 := frozen_of_blk h.blk 3
  simp at c1 c2 c3 c4
  have la := h.ltA
  have H := Lib.hid hend
  clear hend
  go_enter Tryz.func109, Tryz.ntmps109
  go_wp2_with (at_mapUpdate; go_must (refine wpList_store _ rfl _ _ _ 82 rfl 3 4 lawInt Tryz.underlying82 bt nt ft rfl ?m hnt _ (.bool true) _ rfl rfl (keyInt hx) ?_; (exact mt.of_block ((Below.heap_alloc _ _ _ (by simp [World.setCell]; exact h.ltT)).trans (Below.heap_setCell _ _ _ _ h.neTA))); intro w1 mt1 hturn hc1 hf1 hs1))
  have hl := h.lookG hx (W := w1) (by rw [turned_block hturn h.ne, Below.heap_alloc _ _ _ (by simp [World.setCell]; exact h.ltG), Below.heap_setCell _ _ _ _ h.neGA])
  have M1 := Lib.hid mt1
  have T1 := Lib.hid hturn
  clear mt1 hturn h mt hnt
  rw [hl]
  go_wp2
  refine bodyPost_ret (v := .tuple #[.agg #[.int .i64 x, .int .i64 (s.gens x)], .int .i64 0]) ?_ rfl (H.out w1 M1.out T1.out)
  simp [results, Tryz.results109, go_sem, hc1]

theorem take_free_close {ab bg bt g k cap nt : Nat} {ft : Lit → Option Value} {s : Ar} {c : Nat} {w : World} {x : Int} {l : List Int} (hx : I64 x) (h : ArC w ab bg bt (.slice (some ⟨g, 0, none⟩) (k + 1) cap) s c)
    (hs : s.free = l ++ [x]) (hn : nt + s.free.length = s.fresh) (hft : ∀ x, I64 x → ft (.int .i64 x) = if s.taken x then some (.bool true) else none) (r : Value) (w1 : World)
    (m1 : mapR w1 Tryz.prog 3 bt (if (ft (.int .i64 x)).isSome then nt else nt + 1) (upd ft (.int .i64 x) (some (.bool true))))
    (ht : ((w.setCell ⟨ab, 3, none⟩ (.slice (some ⟨g, 0, none⟩) k cap)).alloc (.cells #[.int .i64 0, .int .i64 0] 117)).mapTurned w1 bt) (u0 u1 : Value) :
    ArPost w ab bg bt (.slice (some ⟨g, 0, none⟩) (k + 1) cap) s.pop c r (.returned r) ((w1.setCell ⟨w.heap.size, 0, none⟩ u0).setCell ⟨w.heap.size, 1, none⟩ u1) := by
  have hsz : w1.heap.size = w.heap.size + 1 := by rw [turned_size ht, size_alloc, size_setCell]
  have hblk : ∀ i, i < w.heap.size → i ≠ bt → i ≠ ab → ((w1.setCell ⟨w.heap.size, 0, none⟩ u0).setCell ⟨w.heap.size, 1, none⟩ u1).heap[i]? = w.heap[i]? := fun i hi h1 h2 => by
    rw [Below.heap_setCell _ _ _ _ (by show i ≠ w.heap.size; omega), Below.heap_setCell _ _ _ _ (by show i ≠ w.heap.size; omega), turned_block ht h1, Below.heap_alloc _ _ _ (by rw [size_setCell]; exact hi), Below.heap_setCell _ _ _ _ h2]
  have hA : ((w1.setCell ⟨w.heap.size, 0, none⟩ u0).setCell ⟨w.heap.size, 1, none⟩ u1).heap[ab]? = some (.cells #[.int .i64 s.room, .map (some bg), .map (some bt), (.slice (some ⟨g, 0, none⟩) k cap), .int .i64 s.fresh] 85 (0, 0)) := by
    have := h.ltA
    rw [Below.heap_setCell _ _ _ _ (by show ab ≠ w.heap.size; omega), Below.heap_setCell _ _ _ _ (by show ab ≠ w.heap.size; omega), turned_block ht h.neTA.symm, Below.heap_alloc _ _ _ (by rw [size_setCell]; exact this), blk_setCell h.blk]
    rfl
  have hT : ((w1.setCell ⟨w.heap.size, 0, none⟩ u0).setCell ⟨w.heap.size, 1, none⟩ u1).heap[bt]? = w1.heap[bt]? := by
    have := h.ltT
    rw [Below.heap_setCell _ _ _ _ (by show bt ≠ w.heap.size; omega), Below.heap_setCell _ _ _ _ (by show bt ≠ w.heap.size; omega)]
  have hgne := h.neRA (k := g) rfl
  have hnt : s.taken x = false := by
    rw [Bool.eq_false_iff]; intro e; exact (Ar.taken_iff.1 e).2.2 (by rw [hs]; simp)
  have hlen : s.free.length = l.length + 1 := by rw [hs]; simp
  have hk : l.length = k := by have := h.row.1; simp at this; have h2 := h.row.2; rcases h2 with ⟨h3, _⟩ | ⟨_, _, _, h3, _⟩ <;> simp at h3; omega
  refine ⟨rfl, .slice (some ⟨g, 0, none⟩) k cap, ⟨h.ok.pop, hA, ?_, ?_, ?_, h.ne⟩, ?_, fun i hi => .inl hi⟩
  · obtain ⟨n, f, m, e1, e2⟩ := h.gens
    exact ⟨n, f, m.of_block (hblk bg h.ltG h.ne h.neGA), e1, e2⟩
  · rw [hft x hx, hnt] at m1
    refine ⟨nt + 1, _, m1.of_block hT, ?_, fun y hy => ?_⟩
    · simp only [Ar.pop, hs, List.dropLast_concat]; omega
    · rw [Ar.taken_pop h.ok hs]
      unfold upd
      by_cases e : y = x
      · subst e; simp
      · rw [if_neg (by simpa using e), hft y hy]; simp [e]
  · have hrow := h.row
    rw [hs] at hrow
    simp only [List.map_append, List.length_append, List.length_singleton, hk] at hrow
    have := ownsRow_pop (by simp [hk]) hrow
    simp only [Ar.pop, hs, List.dropLast_concat, hk]
    exact ownsRow_of_block this (fun i hi => by simp [Value.ownBlock] at hi; subst hi; exact hblk g (h.row.lt g rfl).2 hgne.2.2 hgne.1)
  · exact ((((Chg.refl w _).setCell (p := ⟨ab, 3, none⟩) (fun _ => .inl rfl) _).alloc _).turned ht (fun _ => .inr (.inr (.inl rfl)))).setCell (p := ⟨w.heap.size, 0, none⟩) (fun e => absurd e (Nat.lt_irrefl _)) _ |>.setCell (p := ⟨w.heap.size, 1, none⟩) (fun e => absurd e (Nat.lt_irrefl _)) _

theorem take_free (ab bg bt : Nat) (v : Value) (s : Ar) (c : Nat) (w : World) (l : List Int) (x : Int) (h : ArC w ab bg bt v s c) (hs : s.free = l ++ [x]) :
    Calls Tryz.prog 109 #[.pointer (some ⟨ab, 0, none⟩)] w (ArPost w ab bg bt v s.pop c (.tuple #[.agg #[.int .i64 x, .int .i64 (s.gens x)], .int .i64 0])) := by
  have hm := h.ok.mem x (by rw [hs]; simp)
  have hx : I64 x := by have := h.ok.room; have := h.ok.fresh; constructor <;> omega
  obtain ⟨nt, ft, mt, hnt, hft⟩ := h.taken
  have hrow := h.row
  rcases hrow.2 with ⟨_, h0⟩ | ⟨g, cap, cur, rfl, _, hg, hcap, hml, hsz, htk⟩
  · rw [hs] at h0; simp at h0
  · have hlen : s.free.length = l.length + 1 := by rw [hs]; simp
    rw [hlen] at h ⊢ hcap
    refine take_free0 ab bg bt g l.length cap nt ft s s.pop c w x hx h (by have := h.ok.room; have := h.ok.fresh; omega) (hrow.lt g rfl).2 hcap ?_ mt (by have := h.ok.room; have := h.ok.fresh; unfold maxLen; omega) (fun w1 m1 t1 => take_free_close hx h hs hnt hft _ w1 m1 t1 _ _)
    rw [cell_of_blk hg]
    have : cur.toList[l.length]? = some (.int .i64 x) := by
      have e : (cur.toList.take (s.free.length * 1))[l.length]? = cur.toList[l.length]? := by rw [List.getElem?_take]; rw [if_pos (by omega)]
      rw [← e, htk, hs]; simp
    simpa using this
end Go.Proofs.YtkhkdedjffkhdaaGreat
namespace Go.Proofs.YtkhkdedjffkhdaaGreat
open Go.RowKit Go.Maps

/-- a slice value that holds nothing -/
theorem emptySlice {w : World} {v : Value} {e : TypeId} {xs : List Value} (h : w.ownsRow 0 e 1 v 0 xs) : ∃ a cap, v = .slice a 0 cap := by
  rcases h.2 with ⟨h0, _⟩ | ⟨g, cap, cur, h0, _⟩
  · exact ⟨_, _, h0⟩
  · exact ⟨_, _, h0⟩

set_option maxRecDepth 100000 in
/-- what Take answers where there is no room -/
theorem take_full0 (ab : Nat) (r : Nat) (a : Option Addr) (cap : Nat) (w : World) (c0 : w.cell? ⟨ab, 0, none⟩ = some (.int .i64 r)) (c3 : w.cell? ⟨ab, 3, none⟩ = some (.slice a 0 cap)) (c4 : w.cell? ⟨ab, 4, none⟩ = some (.int .i64 r)) (la : ab < w.heap.size) :
    Calls Tryz.prog 109 #[.pointer (some ⟨ab, 0, none⟩)] w fun e w' => e = .returned (.tuple #[.agg #[.int .i64 0, .int .i64 0], .int .i64 50]) ∧ Below w.heap.size w w' := by
  go_enter Tryz.func109, Tryz.ntmps109
  go_wp2
  refine bodyPost_ret (v := .tuple #[.agg #[.int .i64 0, .int .i64 0], .int .i64 50]) ?_ rfl ⟨rfl, (Below.refl _ _).alloc (Nat.le_refl _) _⟩
  simp [results, Tryz.results109, go_sem]

theorem take_full (ab bg bt : Nat) (v : Value) (s : Ar) (c : Nat) (w : World) (h : ArC w ab bg bt v s c) (hs : s.free = []) (hr : s.fresh = s.room) :
    Calls Tryz.prog 109 #[.pointer (some ⟨ab, 0, none⟩)] w (ArPost w ab bg bt v s c (.tuple #[.agg #[.int .i64 0, .int .i64 0], .int .i64 50])) := by
  have hrow := h.row
  rw [hs] at hrow
  obtain ⟨a, cap, rfl⟩ := emptySlice hrow
  have c0 := cell_of_blk h.blk 0
  have c3 := cell_of_blk h.blk 3
  have c4 := cell_of_blk h.blk 4
  simp at c0 c3 c4
  rw [hr] at c4
  refine (take_full0 ab s.room a cap w c0 c3 c4 h.ltA).mono ?_
  rintro e w' ⟨rfl, hb⟩
  exact ⟨rfl, _, h.keep (fun k hk => hb.block k (h.lt hk)), Chg.of_below hb _, fun _ hk => .inl hk⟩

set_option maxRecDepth 100000 in
theorem take_grow0 (ab bg bt fr r cap nt : Nat) (a : Option Addr) (ft : Lit → Option Value) (s s' : Ar) (c : Nat) (w : World) (h : ArC w ab bg bt (.slice a 0 cap) s c) (hfr : s.fresh = fr) (hr : s.room = r) (hne : ((fr : Int) == r) = false) (hlt : (fr : Int) ≤ 1048576)
    (mt : mapR w Tryz.prog 3 bt nt ft) (hnt : nt < maxLen)
    (hend : ∀ w1, mapR w1 Tryz.prog 3 bt (if (ft (.int .i64 fr)).isSome then nt else nt + 1) (upd ft (.int .i64 fr) (some (.bool true))) →
       ((w.setCell ⟨ab, 4, none⟩ (.int .i64 (fr + 1))).alloc (.cells #[.int .i64 0, .int .i64 0] 117)).mapTurned w1 bt →
       ArPost w ab bg bt (.slice a 0 cap) s' c (.tuple #[.agg #[.int .i64 fr, .int .i64 (s.gens fr)], .int .i64 0]) (.returned (.tuple #[.agg #[.int .i64 fr, .int .i64 (s.gens fr)], .int .i64 0])) ((w1.setCell ⟨w.heap.size, 0, none⟩ (.int .i64 fr)).setCell ⟨w.heap.size, 1, none⟩ (.int .i64 (s.gens fr)))) :
    Calls Tryz.prog 109 #[.pointer (some ⟨ab, 0, none⟩)] w (ArPost w ab bg bt (.slice a 0 cap) s' c (.tuple #[.agg #[.int .i64 fr, .int .i64 (s.gens fr)], .int .i64 0])) := by
  have hx : I64 fr := by constructor <;> omega
  have c0 := cell_of_blk h.blk 0
  have c1 := cell_of_blk h.blk 1
  have c2 := cell_of_blk h.blk 2
  have c3 := cell_of_blk h.blk 3
  have c4 := cell_of_blk h.blk 4
  have f4 := frozen_of_blk h.blk 4
  simp at c0 c1 c2 c3 c4
  rw [hfr] at c4
  rw [hr] at c0
  have la := h.ltA
  have H := Lib.hid hend
  clear hend hfr hr
  go_enter Tryz.func109, Tryz.ntmps109
  go_wp2_with (at_mapUpdate; go_must (refine wpList_store _ rfl _ _ _ 82 rfl 3 4 lawInt Tryz.underlying82 bt nt ft rfl ?m hnt _ (.bool true) _ rfl rfl (keyInt hx) ?_; (exact mt.of_block ((Below.heap_alloc _ _ _ (by simp [World.setCell]; exact h.ltT)).trans (Below.heap_setCell _ _ _ _ h.neTA))); intro w1 mt1 hturn hc1 hf1 hs1))
  have hl := h.lookG hx (W := w1) (by rw [turned_block hturn h.ne, Below.heap_alloc _ _ _ (by simp [World.setCell]; exact h.ltG), Below.heap_setCell _ _ _ _ h.neGA])
  have M1 := Lib.hid mt1
  have T1 := Lib.hid hturn
  clear mt1 hturn h mt hnt
  rw [hl]
  go_wp2
  refine bodyPost_ret (v := .tuple #[.agg #[.int .i64 fr, .int .i64 (s.gens fr)], .int .i64 0]) ?_ rfl (H.out w1 M1.out T1.out)
  simp [results, Tryz.results109, go_sem, hc1]

theorem take_grow_close {ab bg bt nt cap : Nat} {a : Option Addr} {ft : Lit → Option Value} {s : Ar} {c : Nat} {w : World} (h : ArC w ab bg bt (.slice a 0 cap) s c)
    (hr : s.fresh < s.room) (hn : nt + s.free.length = s.fresh) (hft : ∀ x, I64 x → ft (.int .i64 x) = if s.taken x then some (.bool true) else none) (r : Value) (w1 : World)
    (m1 : mapR w1 Tryz.prog 3 bt (if (ft (.int .i64 s.fresh)).isSome then nt else nt + 1) (upd ft (.int .i64 s.fresh) (some (.bool true))))
    (ht : ((w.setCell ⟨ab, 4, none⟩ (.int .i64 (s.fresh + 1))).alloc (.cells #[.int .i64 0, .int .i64 0] 117)).mapTurned w1 bt) (u0 u1 : Value) :
    ArPost w ab bg bt (.slice a 0 cap) s.grow c r (.returned r) ((w1.setCell ⟨w.heap.size, 0, none⟩ u0).setCell ⟨w.heap.size, 1, none⟩ u1) := by
  have hx : I64 s.fresh := by have := h.ok.room; constructor <;> omega
  have hblk : ∀ i, i < w.heap.size → i ≠ bt → i ≠ ab → ((w1.setCell ⟨w.heap.size, 0, none⟩ u0).setCell ⟨w.heap.size, 1, none⟩ u1).heap[i]? = w.heap[i]? := fun i hi h1 h2 => by
    rw [Below.heap_setCell _ _ _ _ (by show i ≠ w.heap.size; omega), Below.heap_setCell _ _ _ _ (by show i ≠ w.heap.size; omega), turned_block ht h1, Below.heap_alloc _ _ _ (by rw [size_setCell]; exact hi), Below.heap_setCell _ _ _ _ h2]
  have hA : ((w1.setCell ⟨w.heap.size, 0, none⟩ u0).setCell ⟨w.heap.size, 1, none⟩ u1).heap[ab]? = some (.cells #[.int .i64 s.room, .map (some bg), .map (some bt), (.slice a 0 cap), .int .i64 (s.fresh + 1)] 85 (0, 0)) := by
    have := h.ltA
    rw [Below.heap_setCell _ _ _ _ (by show ab ≠ w.heap.size; omega), Below.heap_setCell _ _ _ _ (by show ab ≠ w.heap.size; omega), turned_block ht h.neTA.symm, Below.heap_alloc _ _ _ (by rw [size_setCell]; exact this), blk_setCell h.blk]
    rfl
  have hT : ((w1.setCell ⟨w.heap.size, 0, none⟩ u0).setCell ⟨w.heap.size, 1, none⟩ u1).heap[bt]? = w1.heap[bt]? := by
    have := h.ltT
    rw [Below.heap_setCell _ _ _ _ (by show bt ≠ w.heap.size; omega), Below.heap_setCell _ _ _ _ (by show bt ≠ w.heap.size; omega)]
  have hnt : s.taken s.fresh = false := by
    rw [Bool.eq_false_iff]; intro e; have := (Ar.taken_iff.1 e).2.1; omega
  refine ⟨rfl, .slice a 0 cap, ⟨h.ok.grow hr, by rw [hA]; simp [Ar.grow], ?_, ?_, ?_, h.ne⟩, ?_, fun i hi => .inl hi⟩
  · obtain ⟨n, f, m, e1, e2⟩ := h.gens
    exact ⟨n, f, m.of_block (hblk bg h.ltG h.ne h.neGA), e1, e2⟩
  · rw [hft _ hx, hnt] at m1
    refine ⟨nt + 1, _, m1.of_block hT, ?_, fun y hy => ?_⟩
    · simp only [Ar.grow]; omega
    · rw [Ar.taken_grow h.ok]
      unfold upd
      by_cases e : y = s.fresh
      · subst e; simp
      · rw [if_neg (by simpa using e), hft y hy]; simp [e]
  · exact ownsRow_of_block h.row (fun i hi => hblk i (h.row.lt i hi).2 (h.neRA hi).2.2 (h.neRA hi).1)
  · exact ((((Chg.refl w _).setCell (p := ⟨ab, 4, none⟩) (fun _ => .inl rfl) _).alloc _).turned ht (fun _ => .inr (.inr (.inl rfl)))).setCell (p := ⟨w.heap.size, 0, none⟩) (fun e => absurd e (Nat.lt_irrefl _)) _ |>.setCell (p := ⟨w.heap.size, 1, none⟩) (fun e => absurd e (Nat.lt_irrefl _)) _

theorem take_grow (ab bg bt : Nat) (v : Value) (s : Ar) (c : Nat) (w : World) (h : ArC w ab bg bt v s c) (hs : s.free = []) (hr : s.fresh < s.room) :
    Calls Tryz.prog 109 #[.pointer (some ⟨ab, 0, none⟩)] w (ArPost w ab bg bt v s.grow c (.tuple #[.agg #[.int .i64 s.fresh, .int .i64 (s.gens s.fresh)], .int .i64 0])) := by
  obtain ⟨nt, ft, mt, hnt, hft⟩ := h.taken
  have hrow := h.row
  rw [hs] at hrow
  obtain ⟨a, cap, rfl⟩ := emptySlice hrow
  have hro := h.ok.room
  exact take_grow0 ab bg bt s.fresh s.room cap nt a ft s s.grow c w h rfl rfl (beq_eq_false_iff_ne.2 (by omega)) (by omega) mt (by unfold maxLen; omega) (fun w1 m1 t1 => take_grow_close h hr hnt hft _ w1 m1 t1 _ _)

/-- what Take answers: the slot, the generation, the error -/
def Ar.takeRes (s : Ar) : Int × Int × Int :=
  match s.free.getLast? with
  | some x => (x, s.gens x, 0)
  | none => if s.fresh = s.room then (0, 0, 50) else (s.fresh, s.gens s.fresh, 0)
def Ar.take (s : Ar) : Ar :=
  match s.free.getLast? with
  | some _ => s.pop
  | none => if s.fresh = s.room then s else s.grow

theorem take_any (ab bg bt : Nat) (v : Value) (s : Ar) (c : Nat) (w : World) (h : ArC w ab bg bt v s c) :
    Calls Tryz.prog 109 #[.pointer (some ⟨ab, 0, none⟩)] w (ArPost w ab bg bt v s.take c (.tuple #[.agg #[.int .i64 s.takeRes.1, .int .i64 s.takeRes.2.1], .int .i64 s.takeRes.2.2])) := by
  rcases List.eq_nil_or_concat s.free with hs | ⟨l, x, hs⟩
  · have e1 : s.free.getLast? = none := by rw [hs]; rfl
    unfold Ar.take Ar.takeRes
    rw [e1]
    by_cases hr : s.fresh = s.room
    · rw [if_pos hr, if_pos hr]
      exact take_full ab bg bt v s c w h hs hr
    · rw [if_neg hr, if_neg hr]
      exact take_grow ab bg bt v s c w h hs (by have := h.ok.fresh; omega)
  · rw [List.concat_eq_append] at hs
    have e1 : s.free.getLast? = some x := by rw [hs]; simp
    unfold Ar.take Ar.takeRes
    rw [e1]
    exact take_free ab bg bt v s c w l x h hs
end Go.Proofs.YtkhkdedjffkhdaaGreat
namespace Go.Proofs.YtkhkdedjffkhdaaGreat
open Go.RowKit Go.Maps

/-- handles in memory, one behind the other -/
structure HsAt (w : World) (b off : Nat) (hs : List (Int × Int)) : Prop where
  i64 : ∀ p ∈ hs, I64 p.1 ∧ I64 p.2
  cells : ∀ i x g, hs[i]? = some (x, g) → w.cell? ⟨b, off + i * 2, none⟩ = some (.int .i64 x) ∧ w.cell? ⟨b, off + i * 2 + 1, none⟩ = some (.int .i64 g)
  lt : b < w.heap.size

/-- the check of Free, of a list of handles: each is live, no slot stands twice -/
def Ar.chk (s : Ar) (seen : List Int) : List (Int × Int) → Bool
  | [] => true
  | p :: t => s.live p.1 p.2 && !seen.contains p.1 && s.chk (p.1 :: seen) t

/-- a set of numbers in a map -/
def SetOf (w : World) (b : Nat) (l : List Int) : Prop :=
  ∃ n f, mapR w Tryz.prog 3 b n f ∧ n ≤ l.length ∧ ∀ x, I64 x → f (.int .i64 x) = if l.contains x then some (.bool true) else none

theorem SetOf.look {w : World} {b : Nat} {l : List Int} (h : SetOf w b l) {x : Int} (hx : I64 x) : (Instr.lookup 82 (.map (some b)) (.int .i64 x) false).run Tryz.prog w = .ok (.bool (l.contains x)) w := by
  obtain ⟨n, f, m, _, hf⟩ := h
  rw [m.look lawInt Tryz.underlying82 (zeroBool _) (keyInt hx), hf x hx]
  cases l.contains x <;> rfl
theorem SetOf.of_block {w w' : World} {b : Nat} {l : List Int} (h : SetOf w b l) (hb : w'.heap[b]? = w.heap[b]?) : SetOf w' b l := by
  obtain ⟨n, f, m, r⟩ := h
  exact ⟨n, f, m.of_block hb, r⟩
theorem SetOf.lt {w : World} {b : Nat} {l : List Int} (h : SetOf w b l) : b < w.heap.size := by
  obtain ⟨n, f, m, r⟩ := h
  exact m.lt

def FreeRel (w : World) (hs : List (Int × Int)) (s : Ar) (i : Value) (wr : World) : Prop :=
  ∃ k : Nat, k ≤ hs.length ∧ i = .int .i64 k ∧ Below w.heap.size w wr ∧ SetOf wr w.heap.size ((hs.take k).map (·.1)).reverse ∧ s.chk [] hs = s.chk ((hs.take k).map (·.1)).reverse (hs.drop k)

theorem chk_step {s : Ar} {hs : List (Int × Int)} {k : Nat} {x g : Int} (he : hs[k]? = some (x, g)) :
    s.chk ((hs.take k).map (·.1)).reverse (hs.drop k) = (s.live x g && !((hs.take k).map (·.1)).reverse.contains x && s.chk ((hs.take (k + 1)).map (·.1)).reverse (hs.drop (k + 1))) := by
  have hlt := (List.getElem?_eq_some_iff.1 he).1
  have e2 := (List.getElem?_eq_some_iff.1 he).2
  rw [List.drop_eq_getElem_cons hlt, e2, List.take_succ_eq_append_getElem hlt, e2]
  simp [Ar.chk]

theorem SetOf.made (w : World) : SetOf (w.alloc (.map #[] 0)) w.heap.size [] := ⟨0, _, mapR_made w Tryz.prog 3, Nat.le_refl _, fun _ _ => rfl⟩

theorem FreeRel.start (w : World) (hs : List (Int × Int)) (s : Ar) : FreeRel w hs s (.int .i64 0) (w.alloc (.map #[] 0)) :=
  ⟨0, Nat.zero_le _, rfl, (Below.refl _ _).alloc (Nat.le_refl _) _, by simpa using SetOf.made w, by simp⟩

theorem HsAt.of_below {w wr : World} {b off B : Nat} {hs : List (Int × Int)} (h : HsAt w b off hs) (hb : Below B w wr) (hB : b < B) : HsAt wr b off hs :=
  ⟨h.i64, fun i x g e => ⟨(hb.cell (p := ⟨b, off + i * 2, none⟩) hB).trans (h.cells i x g e).1, (hb.cell (p := ⟨b, off + i * 2 + 1, none⟩) hB).trans (h.cells i x g e).2⟩, Nat.lt_of_lt_of_le h.lt hb.size⟩

theorem wpList_setAdd (w : World) {ops : Array Oper} {rest : List Oper} {o : Oper} {a : Act} {Q : Exit → Act → World → Prop}
    (hg : o.guard = none) (m x : Operand) (hop : o.op = Op.mapUpdate 82 m x (.const (.bool true))) (b : Nat) (l : List Int)
    (hm : a.eval m = .map (some b)) (hown : SetOf w b l) (hn : l.length < maxLen) (y : Int) (hy : I64 y) (hx : a.eval x = .int .i64 y)
    (hK : ∀ w', SetOf w' b (y :: l) → w.mapTurned w' b → (∀ p, w'.cell? p = w.cell? p) → (∀ p, w'.frozen? p = w.frozen? p) → w'.heap.size = w.heap.size → wpList Tryz.prog ops Q rest (a.put o.dst undef) w') :
    wpList Tryz.prog ops Q (o :: rest) a w := by
  obtain ⟨n, f, mr, h1, h2⟩ := hown
  refine wpList_store w hg m x (.const (.bool true)) 82 hop 3 4 lawInt Tryz.underlying82 b n f hm mr (by omega) _ (.bool true) _ hx rfl (keyInt hy) ?_
  intro w' m1 t1 c1 f1 z1
  refine hK w' ⟨_, _, m1, by simp only [List.length_cons]; split <;> omega, fun u hu => ?_⟩ t1 c1 f1 z1
  unfold upd
  by_cases e : u = y
  · subst e; simp
  · rw [if_neg (by simpa using e), h2 u hu]; simp [e]

theorem free_aux {w wr w1 : World} {x g : Int} {l : List Int} (hx : I64 x) (hbel : Below w.heap.size w wr) (hset : SetOf wr w.heap.size l) (hb1 : Below (wr.alloc (.cells #[.int .i64 x, .int .i64 g] 117)).heap.size (wr.alloc (.cells #[.int .i64 x, .int .i64 g] 117)) w1) :
    w1.cell? ⟨wr.heap.size, 0, none⟩ = some (.int .i64 x) ∧ w1.cell? ⟨wr.heap.size, 1, none⟩ = some (.int .i64 g) ∧ SetOf w1 w.heap.size l ∧ Below w.heap.size w w1 ∧ (Instr.lookup 82 (.map (some w.heap.size)) (.int .i64 x) false).run Tryz.prog w1 = .ok (.bool (l.contains x)) w1 ∧ wr.heap.size < w1.heap.size := by
  have e1 : w1.heap[wr.heap.size]? = some (.cells #[.int .i64 x, .int .i64 g] 117) := (hb1.block _ (by simp)).trans (heap_new _ _)
  have s1 : SetOf w1 w.heap.size l := hset.of_block ((hb1.block _ (by rw [size_alloc]; have := hset.lt; omega)).trans (Below.heap_alloc _ _ _ hset.lt))
  have hz := hb1.size
  rw [size_alloc] at hz
  exact ⟨by rw [cell_of_blk e1]; rfl, by rw [cell_of_blk e1]; rfl, s1, (hbel.alloc hbel.size _).trans (hb1.mono (by rw [size_alloc]; have := hbel.size; omega)), s1.look hx, hz⟩

theorem below_turned {B : Nat} {a b b' : World} {m : Nat} (h : Below B a b) (ht : b.mapTurned b' m) (hm : B ≤ m) : Below B a b' := by
  have hg := ht.grown
  exact h.trans ⟨hg.os, hg.tape, hg.output, hg.size, fun i hi => turned_block ht (by omega)⟩

theorem FreeRel.step {w w1 w2 : World} {hs : List (Int × Int)} {s : Ar} {k : Nat} {x g : Int} {l : List Int} (hlt : k < hs.length) (he : hs[k]? = some (x, g)) (hl : l = ((hs.take k).map (·.1)).reverse) (b1 : Below w.heap.size w w1) (s2 : SetOf w2 w.heap.size (x :: l)) (t2 : w1.mapTurned w2 w.heap.size)
    (hc : s.chk [] hs = s.chk ((hs.take (k + 1)).map (·.1)).reverse (hs.drop (k + 1))) : FreeRel w hs s (.int .i64 ((k : Int) + 1)) w2 := by
  refine ⟨k + 1, hlt, by simp, below_turned b1 t2 (Nat.le_refl _), ?_, hc⟩
  have e2 := (List.getElem?_eq_some_iff.1 he).2
  rw [List.take_succ_eq_append_getElem hlt, e2, List.map_append, List.reverse_append, ← hl]
  exact s2

set_option maxRecDepth 100000 in
set_option maxHeartbeats 400000 in
theorem free_no (ab bg bt b off cap : Nat) (v : Value) (s : Ar) (c : Nat) (hs : List (Int × Int)) (w : World) (h : ArC w ab bg bt v s c) (hh : HsAt w b off hs) (hl : hs.length ≤ 1048576) (hc : s.chk [] hs = false) :
    Calls Tryz.prog 131 #[.pointer (some ⟨ab, 0, none⟩), .slice (some ⟨b, off, none⟩) hs.length cap] w fun e w' => e = .returned (.int .i64 51) ∧ Below w.heap.size w w' := by
  have hmm := @run_makeMap Tryz.prog
  have HC := Lib.hid hc
  clear hc
  go_enter Tryz.func131, Tryz.ntmps131
  go_wp2
  go_loopw [13] (fun i wr => FreeRel w hs s i wr) (fun i _ => hs.length - (intOf i).toNat)
  case atStart => exact FreeRel.start w hs s
  case round =>
    obtain ⟨k, hk, rfl, hbel, hset, hchk⟩ := hrel
    have CH := Lib.hid hchk
    clear hchk
    by_cases hlt : k < hs.length
    · obtain ⟨x, g, he⟩ : ∃ x g, hs[k]? = some (x, g) := ⟨_, _, List.getElem?_eq_getElem hlt⟩
      have hx := (hh.i64 (x, g) (List.mem_of_getElem? he)).1
      have hcells := (hh.of_below hbel hh.lt).cells k x g he
      have hA : ArC (wr.alloc (.cells #[.int .i64 x, .int .i64 g] 117)) ab bg bt v s c := h.keep (fun i hi => (Below.heap_alloc _ _ _ (Nat.lt_of_lt_of_le (h.lt hi) hbel.size)).trans (hbel.block i (h.lt hi)))
      have hst := chk_step (s := s) he
      have ST := Lib.hid hst
      have HE := Lib.hid he
      clear hst he
      obtain ⟨hc0, hc1⟩ := hcells
      have hwl : w.heap.size < wr.heap.size := hset.lt
      obtain ⟨ct, hct⟩ : ∃ ct, ((hs.take k).map (·.1)).reverse.contains x = ct := ⟨_, rfl⟩
      have CT := Lib.hid hct
      clear hct
      have hln : ((hs.take k).map (·.1)).reverse.length < maxLen := by simp; unfold maxLen; omega
      obtain ⟨l, hl0⟩ : ∃ l, l = ((hs.take k).map (·.1)).reverse := ⟨_, rfl⟩
      rw [← hl0] at CT ST hln CH hset
      have HL := Lib.hid hl0
      clear hl0
      cases hlv : s.live x g
      · go_wp2_with (go_at_call 138; refine (live_any ab bg bt v s c _ x g hx hA).mono ?_; rintro e w1 ⟨rfl, hb1⟩; obtain ⟨r0, r1, s1, b1, hlk, hz1⟩ := free_aux hx hbel hset hb1; rw [CT.out] at hlk; clear hb1)
        go_ret
        exact ⟨rfl, b1⟩
      · cases ct
        · go_wp2_with (first | (go_at_call 138; refine (live_any ab bg bt v s c _ x g hx hA).mono ?_; rintro e w1 ⟨rfl, hb1⟩; obtain ⟨r0, r1, s1, b1, hlk, hz1⟩ := free_aux hx hbel hset hb1; rw [CT.out] at hlk; clear hb1) | (at_mapUpdate; refine wpList_setAdd _ rfl _ _ rfl w.heap.size l rfl s1 hln x hx rfl ?_; intro w2 s2 t2 c2 f2 z2))
          exact ⟨FreeRel.step hlt HE.out HL.out b1 s2 t2 (CH.out.trans (ST.out.trans (by rw [CT.out, hlv]; rfl))), by simp [intOf]; omega⟩
        · go_wp2_with (go_at_call 138; refine (live_any ab bg bt v s c _ x g hx hA).mono ?_; rintro e w1 ⟨rfl, hb1⟩; obtain ⟨r0, r1, s1, b1, hlk, hz1⟩ := free_aux hx hbel hset hb1; rw [CT.out] at hlk; clear hb1)
          go_ret
          exact ⟨rfl, b1⟩
    · exfalso
      rw [List.drop_eq_nil_of_le (by omega)] at CH
      have := CH.out.symm.trans HC.out
      simp [Ar.chk] at this

/-- what Free leaves -/
def Ar.puts (s : Ar) (l : List (Int × Int)) : Ar := l.foldl (fun s p => s.put p.1) s

theorem Ar.puts_snoc (s : Ar) (l : List (Int × Int)) (p : Int × Int) : s.puts (l ++ [p]) = (s.puts l).put p.1 := by simp [Ar.puts]

theorem Ar.taken_puts (l : List (Int × Int)) : ∀ (s : Ar) (y : Int), (s.puts l).taken y = (s.taken y && !(l.map (·.1)).contains y) := by
  induction l with
  | nil => intro s y; simp [Ar.puts]
  | cons p l ih =>
    intro s y
    show ((s.put p.1).puts l).taken y = _
    rw [ih, Ar.taken_put]
    by_cases e : y = p.1
    · subst e; simp
    · have e' : (y == p.1) = false := by simpa using e
      simp [e, e']

theorem Ar.chk_mem : ∀ (hs : List (Int × Int)) (s : Ar) (seen : List Int), s.chk seen hs = true → ∀ k x g, hs[k]? = some (x, g) → s.taken x = true ∧ s.live x g = true ∧ x ∉ seen ∧ x ∉ (hs.take k).map (·.1)
  | [], _, _, _, k, x, g, h => by simp at h
  | p :: t, s, seen, hc, k, x, g, h => by
    simp only [Ar.chk, Bool.and_eq_true] at hc
    obtain ⟨⟨h1, h2⟩, h3⟩ := hc
    cases k with
    | zero =>
      simp at h; subst h
      refine ⟨?_, h1, by simpa using h2, by simp⟩
      simp [Ar.live] at h1; exact h1.1
    | succ k =>
      simp at h
      obtain ⟨a1, a2, a3, a4⟩ := Ar.chk_mem t s _ h3 k x g h
      simp at a3 a4
      exact ⟨a1, a2, a3.2, by simp [a3.1]; exact a4⟩

def FreeRel2 (w : World) (ab bg bt : Nat) (v : Value) (s : Ar) (c : Nat) (hs : List (Int × Int)) (i : Value) (wr : World) : Prop :=
  ∃ (k : Nat) (vk : Value), k ≤ hs.length ∧ i = .int .i64 k ∧ ArC wr ab bg bt vk (s.puts (hs.take k)) (c + k) ∧ Chg w wr (arFp ab bg bt v) ∧ ∀ j, vk.ownBlock = some j → v.ownBlock = some j ∨ w.heap.size ≤ j

theorem HsAt.of_chg {w wr : World} {b off : Nat} {hs : List (Int × Int)} {S : Nat → Prop} (h : HsAt w b off hs) (hb : Chg w wr S) (hB : ¬ S b) : HsAt wr b off hs := by
  have e := hb.block b h.lt hB
  exact ⟨h.i64, fun i x g hi => ⟨(World.cell?_of_block (a := ⟨b, off + i * 2, none⟩) e).trans (h.cells i x g hi).1, (World.cell?_of_block (a := ⟨b, off + i * 2 + 1, none⟩) e).trans (h.cells i x g hi).2⟩, Nat.lt_of_lt_of_le h.lt hb.size⟩

theorem free_close {wr u1 w2 u2 w3 u3 w4 : World} {ab bg bt nt n2 ng : Nat} {vk v' : Value} {s : Ar} {c : Nat} {x : Int} {ft fg : Lit → Option Value} (h : ArC wr ab bg bt vk s c) (ht : s.taken x = true) (hcn : c + 1 ≤ 1099511627776)
    (hnt : nt + s.free.length = s.fresh) (hft : ∀ x, I64 x → ft (.int .i64 x) = if s.taken x then some (.bool true) else none)
    (hng : ng ≤ c) (hfg : ∀ x, I64 x → (fg (.int .i64 x)).getD (.int .i64 0) = .int .i64 (s.gens x))
    (a1 : Below wr.heap.size wr u1) (t2 : u1.mapTurned w2 bt) (e2 : n2 + (if (ft (.int .i64 x)).isSome then 1 else 0) = nt) (m2 : mapR w2 Tryz.prog 3 bt n2 (upd ft (.int .i64 x) none))
    (a2 : Below w2.heap.size w2 u2) (t3 : u2.mapTurned w3 bg) (m3 : mapR w3 Tryz.prog 3 bg (if (fg (.int .i64 x)).isSome then ng else ng + 1) (upd fg (.int .i64 x) (some (.int .i64 (s.gens x + 1)))))
    (a3 : Below w3.heap.size w3 u3) (hg : u3.grownBy w4 vk.ownBlock) (hrow : w4.ownsRow 0 3 1 v' (s.free.length + 1) (s.free.map (.int .i64) ++ [.int .i64 x])) (hat : v'.ownBlock = vk.ownBlock ∨ v'.ownBlock = some u3.heap.size) :
    ArC (w4.setCell ⟨ab, 3, none⟩ v') ab bg bt v' (s.put x) (c + 1) ∧ Chg wr (w4.setCell ⟨ab, 3, none⟩ v') (arFp ab bg bt vk) ∧ ∀ j, v'.ownBlock = some j → vk.ownBlock = some j ∨ wr.heap.size ≤ j := by
  have hx := h.ok.i64 ht
  have z2 := turned_size t2
  have z3 := turned_size t3
  have s1 := a1.size
  have s2 := a2.size
  have s3 := a3.size
  have s4 := hg.size
  have keep : ∀ i, i < wr.heap.size → i ≠ bt → i ≠ bg → vk.ownBlock ≠ some i → w4.heap[i]? = wr.heap[i]? := fun i hi n1 n2 n3 => by
    rw [hg.block i (by omega) (fun e => n3 e.symm), a3.block i (by omega), turned_block t3 n2, a2.block i (by omega), turned_block t2 n1, a1.block i hi]
  have nA : vk.ownBlock ≠ some ab := fun e => (h.neRA e).1 rfl
  have nG : vk.ownBlock ≠ some bg := fun e => (h.neRA e).2.1 rfl
  have nT : vk.ownBlock ≠ some bt := fun e => (h.neRA e).2.2 rfl
  have hA := keep ab h.ltA h.neTA.symm h.neGA.symm nA
  have hT : (w4.setCell ⟨ab, 3, none⟩ v').heap[bt]? = w2.heap[bt]? := by
    have := h.ltT
    rw [Below.heap_setCell _ _ _ _ h.neTA, hg.block bt (by omega) (fun e => nT e.symm), a3.block bt (by omega), turned_block t3 h.ne.symm, a2.block bt (by omega)]
  have hG : (w4.setCell ⟨ab, 3, none⟩ v').heap[bg]? = w3.heap[bg]? := by
    have := h.ltG
    rw [Below.heap_setCell _ _ _ _ h.neGA, hg.block bg (by omega) (fun e => nG e.symm), a3.block bg (by omega)]
  have hv : ∀ j, v'.ownBlock = some j → vk.ownBlock = some j ∨ wr.heap.size ≤ j := fun j hj => by
    rcases hat with e | e
    · exact .inl (e ▸ hj)
    · rw [e] at hj; cases hj; right; omega
  have hvA : v'.ownBlock ≠ some ab := fun e => by
    rcases hv ab e with e' | e'
    · exact nA e'
    · have := h.ltA; omega
  refine ⟨⟨h.ok.put ht hcn, ?_, ?_, ?_, ?_, h.ne⟩, ?_, hv⟩
  · rw [blk_setCell (hA.trans h.blk)]; rfl
  · refine ⟨_, _, m3.of_block hG, by split <;> omega, fun y hy => ?_⟩
    unfold upd
    by_cases e : y = x
    · subst e; simp [Ar.put]
    · rw [if_neg (by simpa using e), hfg y hy]; simp [Ar.put, e]
  · refine ⟨_, _, m2.of_block hT, ?_, fun y hy => ?_⟩
    · rw [hft x hx, ht] at e2
      simp at e2
      simp [Ar.put]; omega
    · rw [Ar.taken_put]
      unfold upd
      by_cases e : y = x
      · subst e; simp
      · rw [if_neg (by simpa using e), hft y hy]; simp [e]
  · have := ownsRow_of_block (w' := w4.setCell ⟨ab, 3, none⟩ v') hrow (fun j hj => Below.heap_setCell _ _ _ _ (fun e => hvA (by rw [hj]; exact congrArg some e)))
    simpa [Ar.put] using this
  · refine ⟨?_, ?_, ?_, ?_, fun i hi hn => ?_⟩
    · exact hg.os.trans (a3.os.trans (t3.grown.os.trans (a2.os.trans (t2.grown.os.trans a1.os))))
    · exact hg.tape.trans (a3.tape.trans (t3.grown.tape.trans (a2.tape.trans (t2.grown.tape.trans a1.tape))))
    · exact hg.output.trans (a3.output.trans (t3.grown.output.trans (a2.output.trans (t2.grown.output.trans a1.output))))
    · rw [size_setCell]; omega
    · rw [Below.heap_setCell _ _ _ _ (fun e => hn (.inl e))]
      exact keep i hi (fun e => hn (.inr (.inr (.inl e)))) (fun e => hn (.inr (.inl e))) (fun e => hn (.inr (.inr (.inr e))))

theorem infoInt : (Tryz.prog.info? 3).map (fun i => (i.zero, i.size, i.bytes)) = some (some (.int .i64 0), 1, 8) := by kernel_rfl

theorem FreeRel2.step {w wr w2 w3 w4 : World} {ab bg bt nt n2 ng k gg cap' : Nat} {v vk : Value} {s sk : Ar} {c : Nat} {x g : Int} {hs : List (Int × Int)} {ft fg : Lit → Option Value} {X Y : Obj} (h : ArC wr ab bg bt vk sk (c + k)) (hlt : k < hs.length) (hsk : sk = s.puts (hs.take k)) (he : hs[k]? = some (x, g)) (hchk : s.chk [] hs = true) (hcn : c + hs.length ≤ 1099511627776)
    (hchg : Chg w wr (arFp ab bg bt v)) (hown : ∀ j, vk.ownBlock = some j → v.ownBlock = some j ∨ w.heap.size ≤ j)
    (hnt : nt + sk.free.length = sk.fresh) (hft : ∀ x, I64 x → ft (.int .i64 x) = if sk.taken x then some (.bool true) else none)
    (hng : ng ≤ c + k) (hfg : ∀ x, I64 x → (fg (.int .i64 x)).getD (.int .i64 0) = .int .i64 (sk.gens x))
    (t2 : (wr.alloc X).drew.mapTurned w2 bt) (e2 : n2 + (if (ft (.int .i64 x)).isSome then 1 else 0) = nt) (m2 : mapR w2 Tryz.prog 3 bt n2 (upd ft (.int .i64 x) none))
    (t3 : w2.drew.mapTurned w3 bg) (m3 : mapR w3 Tryz.prog 3 bg (if (fg (.int .i64 x)).isSome then ng else ng + 1) (upd fg (.int .i64 x) (some (.int .i64 (sk.gens x + 1)))))
    (hg : (w3.alloc Y).drew.grownBy w4 vk.ownBlock) (hrow : w4.ownsRow 0 3 1 (.slice (some ⟨gg, 0, none⟩) (sk.free.length + 1) cap') (sk.free.length + 1) (sk.free.map (.int .i64) ++ [.int .i64 x])) (hat : vk.ownBlock = some gg ∨ gg = w3.heap.size + 1) :
    FreeRel2 w ab bg bt v s c hs (.int .i64 ((k : Int) + 1)) (w4.setCell ⟨ab, 3, none⟩ (.slice (some ⟨gg, 0, none⟩) (sk.free.length + 1) cap')) := by
  have ht : sk.taken x = true := by
    obtain ⟨h1, _, _, h4⟩ := Ar.chk_mem hs s [] hchk k x g he
    rw [hsk, Ar.taken_puts, h1]; simpa using h4
  obtain ⟨a1, a2, a3⟩ := free_close h ht (by omega) hnt hft hng hfg (((Below.refl _ _).alloc (Nat.le_refl _) _).drew) t2 e2 m2 ((Below.refl _ _).drew) t3 m3 (((Below.refl _ _).alloc (Nat.le_refl _) _).drew) hg hrow
    (by rcases hat with e | e
        · exact .inl e.symm
        · right; rw [e]; exact congrArg some (size_alloc w3 Y).symm)
  have e2 := (List.getElem?_eq_some_iff.1 he).2
  refine ⟨k + 1, .slice (some ⟨gg, 0, none⟩) (sk.free.length + 1) cap', hlt, by simp, ?_, hchg.trans a2 ?_, ?_⟩
  · rw [List.take_succ_eq_append_getElem hlt, e2, Ar.puts_snoc, ← hsk]
    exact a1
  · intro i hi hf
    rcases hf with hf | hf | hf | hf
    · exact .inl hf
    · exact .inr (.inl hf)
    · exact .inr (.inr (.inl hf))
    · rcases hown i hf with e | e
      · exact .inr (.inr (.inr e))
      · omega
  · intro j hj
    rcases a3 j hj with e | e
    · exact hown j e
    · right; have := hchg.size; omega

set_option maxRecDepth 100000 in
set_option maxHeartbeats 400000 in
theorem free_yes (ab bg bt b off cap : Nat) (v : Value) (s : Ar) (c : Nat) (hs : List (Int × Int)) (w : World) (h : ArC w ab bg bt v s c) (hh : HsAt w b off hs) (hl : hs.length ≤ 1048576) (hc : s.chk [] hs = true) (hbf : ¬ arFp ab bg bt v b) (hcn : c + hs.length ≤ 1099511627776) :
    Calls Tryz.prog 131 #[.pointer (some ⟨ab, 0, none⟩), .slice (some ⟨b, off, none⟩) hs.length cap] w (ArPost w ab bg bt v (s.puts hs) (c + hs.length) (.int .i64 0)) := by
  have hmm := @run_makeMap Tryz.prog
  have HC := Lib.hid hc
  clear hc
  go_enter Tryz.func131, Tryz.ntmps131
  go_wp2
  go_loopw [13] (fun i wr => FreeRel w hs s i wr) (fun i _ => hs.length - (intOf i).toNat)
  case atStart => exact FreeRel.start w hs s
  case round =>
    obtain ⟨k, hk, rfl, hbel, hset, hchk⟩ := hrel
    by_cases hlt : k < hs.length
    · obtain ⟨x, g, he⟩ : ∃ x g, hs[k]? = some (x, g) := ⟨_, _, List.getElem?_eq_getElem hlt⟩
      have hx := (hh.i64 (x, g) (List.mem_of_getElem? he)).1
      have hcells := (hh.of_below hbel hh.lt).cells k x g he
      have hA : ArC (wr.alloc (.cells #[.int .i64 x, .int .i64 g] 117)) ab bg bt v s c := h.keep (fun i hi => (Below.heap_alloc _ _ _ (Nat.lt_of_lt_of_le (h.lt hi) hbel.size)).trans (hbel.block i (h.lt hi)))
      have hst := chk_step (s := s) he
      have hm := Ar.chk_mem hs s [] HC.out k x g he
      have hlv := hm.2.1
      have hct : ((hs.take k).map (·.1)).reverse.contains x = false := by simpa using hm.2.2.2
      rw [hlv, hct] at hst
      have CH := Lib.hid (hchk.trans hst)
      have CT := Lib.hid hct
      have HE := Lib.hid he
      clear hst he hct hm hchk
      obtain ⟨hc0, hc1⟩ := hcells
      have hwl : w.heap.size < wr.heap.size := hset.lt
      have hln : ((hs.take k).map (·.1)).reverse.length < maxLen := by simp; unfold maxLen; omega
      obtain ⟨l, hl0⟩ : ∃ l, l = ((hs.take k).map (·.1)).reverse := ⟨_, rfl⟩
      rw [← hl0] at hln hset CT
      have HL := Lib.hid hl0
      clear hl0
      go_wp2_with (first | (go_at_call 138; refine (live_any ab bg bt v s c _ x g hx hA).mono ?_; rintro e w1 ⟨rfl, hb1⟩; obtain ⟨r0, r1, s1, b1, hlk, hz1⟩ := free_aux hx hbel hset hb1; rw [CT.out] at hlk; clear hb1) | (at_mapUpdate; refine wpList_setAdd _ rfl _ _ rfl w.heap.size l rfl s1 hln x hx rfl ?_; intro w2 s2 t2 c2 f2 z2))
      exact ⟨FreeRel.step hlt HE.out HL.out b1 s2 t2 (CH.out.trans (by simp)), by simp [intOf]; omega⟩
    · have HB := Lib.hid hbel
      clear hset hchk hbel
      go_wp2
      obtain ⟨wo, rfl⟩ : ∃ wo : World, wo = wr := ⟨_, rfl⟩
      go_loopw [33] (fun i wr => FreeRel2 w ab bg bt v s c hs i wr) (fun i _ => hs.length - (intOf i).toNat)
      case atStart => exact ⟨0, v, Nat.zero_le _, rfl, by simpa [Ar.puts] using h.keep (fun i hi => HB.out.block i (h.lt hi)), Chg.of_below HB.out _, fun j hj => .inl hj⟩
      case round =>
        obtain ⟨k, vk, hk, rfl, hA, hchg, hown⟩ := hrel
        obtain ⟨sk, hsk⟩ : ∃ sk, sk = s.puts (hs.take k) := ⟨_, rfl⟩
        rw [← hsk] at hA
        have SK := Lib.hid hsk
        clear hsk
        by_cases hlt : k < hs.length
        · obtain ⟨x, g, he⟩ : ∃ x g, hs[k]? = some (x, g) := ⟨_, _, List.getElem?_eq_getElem hlt⟩
          have hx := (hh.i64 (x, g) (List.mem_of_getElem? he)).1
          obtain ⟨hc0, hc1⟩ := (hh.of_chg hchg hbf).cells k x g he
          have HE := Lib.hid he
          clear he
          have ca1 := cell_of_blk hA.blk 1
          have ca2 := cell_of_blk hA.blk 2
          have ca3 := cell_of_blk hA.blk 3
          have fa3 := frozen_of_blk hA.blk 3
          have la := hA.ltA
          simp at ca1 ca2 ca3
          obtain ⟨nt, ft, mt, hnt, hft⟩ := hA.taken
          obtain ⟨ng, fg, mg, hng, hfg⟩ := hA.gens
          obtain ⟨i0, hi, hz0, hz1, hz2⟩ := info_parts infoInt
          have hg0 := (hA.ok.gens x).1
          have hg1 : sk.gens x ≤ 1099511627776 := by have := (hA.ok.gens x).2; have := hA.ok.cnt; omega
          have hngl : ng < maxLen := by have := hA.ok.cnt; unfold maxLen; omega
          have hfl : sk.free.length ≤ 1048576 := by have := hA.ok.fresh; have := hA.ok.room; omega
          have mt1 : mapR ((wr.alloc (.cells #[.int .i64 x, .int .i64 g] 117)).drew) Tryz.prog 3 bt nt ft := mt.of_block (Below.heap_alloc wr _ _ mt.lt)
          go_wp2_with fail
          refine wp_region_still_tail 6 (by kernel_rfl) (by kernel_rfl) ?_
          change wpStill _ _ (World.drew _) (fun a' => wpList _ _ _ _ a' (World.drew _)) _ _
          simp only [List.take_succ_cons, List.take_zero, List.drop_succ_cons, List.drop_zero]
          repeat still_step
          refine wpStill_nil ?_
          go_wp2_with (at_delete; go_must (refine wpList_drop _ rfl _ _ 82 3 rfl 4 lawInt Tryz.underlying82 bt nt ft rfl mt1 _ _ rfl (keyInt hx) ?_; intro w2 n2 e2 m2 t2 c2 f2 z2))
          have E2 := Lib.hid e2
          clear e2
          have hG2 : w2.heap[bg]? = wr.heap[bg]? := (turned_block t2 hA.ne).trans (Below.heap_alloc wr _ _ hA.ltG)
          have mg1 : mapR w2.drew Tryz.prog 3 bg ng fg := mg.of_block hG2
          have hl := hA.lookG hx (W := w2.drew) hG2
          have HG2 := Lib.hid hG2
          clear hG2
          have hwr : IntKind.i64.wrap (sk.gens x + 1) = sk.gens x + 1 := IntWalk.i64_in _ (by omega)
          refine wp_region_still_tail 8 (by kernel_rfl) (by kernel_rfl) ?_
          change wpStill _ _ (World.drew _) (fun a' => wpList _ _ _ _ a' (World.drew _)) _ _
          simp only [List.take_succ_cons, List.take_zero, List.drop_succ_cons, List.drop_zero]
          repeat still_step
          refine wpStill_nil ?_
          clear hl hwr
          go_wp2_with (at_mapUpdate; go_must (refine wpList_store _ rfl _ _ _ 81 rfl 3 3 lawInt Tryz.underlying81 bg ng fg rfl mg1 hngl _ (.int .i64 (sk.gens x + 1)) _ rfl rfl (keyInt hx) ?_; intro w3 m3 t3 c3 f3 z3))
          have M3 := Lib.hid m3
          have M2 := Lib.hid m2
          clear m3 m2 mt1 mg1 z2 z3
          have hr3 : w3.ownsRow 0 3 1 vk sk.free.length (sk.free.map (.int .i64)) := ownsRow_of_block hA.row (fun j hj => by
            rw [turned_block t3 (hA.neRA hj).2.1]
            show w2.heap[j]? = _
            rw [turned_block t2 (hA.neRA hj).2.2]
            exact Below.heap_alloc wr _ _ (hA.row.lt j hj).2)
          have hb3 : w3.heap[ab]? = _ := (turned_block t3 hA.neGA.symm).trans ((turned_block t2 hA.neTA.symm).trans ((Below.heap_alloc wr _ _ hA.ltA).trans hA.blk))
          have hx3 : w3.heap[wr.heap.size]? = _ := (turned_block t3 (Nat.ne_of_gt hA.ltG)).trans ((turned_block t2 (Nat.ne_of_gt hA.ltT)).trans (heap_new wr _))
          have d3 := cell_of_blk hb3 3
          have fz3 := frozen_of_blk hb3 3
          have dx := cell_of_blk hx3 0
          simp at d3 dx
          have l3 : ab < w3.heap.size := (Array.getElem?_eq_some_iff.1 hb3).1
          have l4 : wr.heap.size < w3.heap.size := (Array.getElem?_eq_some_iff.1 hx3).1
          have nA : vk.ownBlock ≠ some ab := fun e => (hA.neRA e).1 rfl
          have nX : vk.ownBlock ≠ some wr.heap.size := fun e => by have := (hA.row.lt _ e).2; omega
          have T2 := Lib.hid t2
          have T3 := Lib.hid t3
          clear hb3 hx3 c2 c3 f2 f3 t2 t3 hc0 hc1 ca1 ca2 ca3 fa3
          have k1 : sk.free.length + 1 ≤ maxLen := by unfold maxLen; omega
          have k2 : (sk.free.length + 1) * 8 ≤ 140737488355328 := by omega
          have k3 : ∀ u ∈ [Value.int .i64 x], u.oneCell' = true := by simp [Value.oneCell']
          have k4 : (w3.alloc (.cells #[.int .i64 x] 3)).drew.heap.size = w3.heap.size + 1 := size_alloc _ _
          have k5 : ∀ w4 : World, (w3.alloc (.cells #[.int .i64 x] 3)).drew.grownBy w4 vk.ownBlock → w4.frozen? ⟨ab, 3, none⟩ = false := fun w4 hg => (hg.frozen_far ⟨ab, 3, none⟩ (by rw [k4]; exact Nat.lt_succ_of_lt l3) (Ne.symm nA)).trans ((World.frozen?_of_block (a := ⟨ab, 3, none⟩) (Below.heap_alloc w3 _ _ l3)).trans fz3)
          have k6 : ∀ w4 : World, (w3.alloc (.cells #[.int .i64 x] 3)).drew.grownBy w4 vk.ownBlock → w4.cell? ⟨ab, 3, none⟩ = some vk := fun w4 hg => (hg.cell_far ⟨ab, 3, none⟩ (by rw [k4]; exact Nat.lt_succ_of_lt l3) (Ne.symm nA)).trans ((World.cell?_of_block (a := ⟨ab, 3, none⟩) (Below.heap_alloc w3 _ _ l3)).trans d3)
          have K6 := Lib.hid k6
          have K1 := Lib.hid k1
          have K2 := Lib.hid k2
          have K3 := Lib.hid k3
          have K4 := Lib.hid k4
          have K5 := Lib.hid k5
          clear k1 k2 k3 k4 k5 k6
          go_region_law (refine step_append_lies _ rfl _ _ _ rfl 0 3 i0 _ 1 8 Tryz.underlying83 hi hz0 hz1 hz2 rfl Nat.one_pos vk sk.free.length (sk.free.map (.int .i64)) rfl ((hr3.alloc _).drew) ⟨w3.heap.size, 0, none⟩ 1 1 [.int .i64 x] rfl rfl (World.news_of_block (cs := #[.int .i64 x]) (t := 3) (fr := (0, 0)) (heap_alloc_new w3 _)) K3.out Nat.one_pos K1.out K2.out (Nat.zero_le _) (w3.heap.size + 1) K4.out ?_; intro gg cap' w4 hown' hgrow hat hlt4; have f4 := K5.out w4 hgrow; have c4 := K6.out w4 hgrow)
          all_goals go_wp2_with fail
          all_goals exact ⟨FreeRel2.step hA hlt SK.out HE.out HC.out hcn hchg hown hnt hft hng hfg T2.out E2.out M2.out T3.out M3.out hgrow hown' hat, by simp [intOf]; omega⟩
        · go_wp2_with fail
          go_ret
          have hkk : k = hs.length := by omega
          subst hkk
          rw [List.take_length] at SK
          exact ⟨rfl, vk, SK.out ▸ hA, hchg, hown⟩
end Go.Proofs.YtkhkdedjffkhdaaGreat
namespace Go.Proofs.YtkhkdedjffkhdaaGreat
open Go.RowKit Go.Maps

theorem Ar.Ok.mono {s : Ar} {c c' : Nat} (h : s.Ok c) (hc : c ≤ c') (hl : c' ≤ 1099511627776) : s.Ok c' :=
  ⟨h.room, h.fresh, h.nodup, h.mem, fun x => by have := h.gens x; omega, hl⟩
theorem ArC.mono {w : World} {ab bg bt : Nat} {v : Value} {s : Ar} {c c' : Nat} (h : ArC w ab bg bt v s c) (hc : c ≤ c') (hl : c' ≤ 1099511627776) : ArC w ab bg bt v s c' := by
  obtain ⟨n, f, m, h1, h2⟩ := h.gens
  exact ⟨h.ok.mono hc hl, h.blk, ⟨n, f, m, Nat.le_trans h1 hc, h2⟩, h.taken, h.row, h.ne⟩

/-- what Free answers, and leaves -/
def Ar.freeRes (s : Ar) (hs : List (Int × Int)) : Int := if s.chk [] hs then 0 else 51
def Ar.frees (s : Ar) (hs : List (Int × Int)) : Ar := if s.chk [] hs then s.puts hs else s

theorem free_any (ab bg bt b off cap : Nat) (v : Value) (s : Ar) (c : Nat) (hs : List (Int × Int)) (w : World) (h : ArC w ab bg bt v s c) (hh : HsAt w b off hs) (hl : hs.length ≤ 1048576) (hbf : ¬ arFp ab bg bt v b) (hcn : c + hs.length ≤ 1099511627776) :
    Calls Tryz.prog 131 #[.pointer (some ⟨ab, 0, none⟩), .slice (some ⟨b, off, none⟩) hs.length cap] w (ArPost w ab bg bt v (s.frees hs) (c + hs.length) (.int .i64 (s.freeRes hs))) := by
  unfold Ar.frees Ar.freeRes
  cases hc : s.chk [] hs
  · refine (free_no ab bg bt b off cap v s c hs w h hh hl hc).mono ?_
    rintro e w' ⟨rfl, hb⟩
    exact ⟨rfl, v, (h.keep (fun k hk => hb.block k (h.lt hk))).mono (by omega) hcn, Chg.of_below hb _, fun _ hk => .inl hk⟩
  · exact free_yes ab bg bt b off cap v s c hs w h hh hl hc hbf hcn

theorem HsAt.one {w : World} {b : Nat} {x g : Int} {t : TypeId} {z : Nat × Nat} (hb : w.heap[b]? = some (.cells #[.int .i64 x, .int .i64 g] t z)) (hx : I64 x) (hg : I64 g) : HsAt w b 0 [(x, g)] := by
  refine ⟨by simp [hx, hg], fun i y g' he => ?_, (Array.getElem?_eq_some_iff.1 hb).1⟩
  cases i with
  | zero =>
    simp at he
    obtain ⟨rfl, rfl⟩ := he
    exact ⟨by rw [cell_of_blk hb]; rfl, by rw [cell_of_blk hb]; rfl⟩
  | succ i => simp at he

/-- Free of one handle -/
def Ar.drop1 (s : Ar) (x g : Int) : Ar := if s.live x g then s.put x else s
def Ar.drop1Res (s : Ar) (x g : Int) : Int := if s.live x g then 0 else 51

theorem chk_one (s : Ar) (x g : Int) : s.chk [] [(x, g)] = s.live x g := by simp [Ar.chk]

theorem free_one (ab bg bt b cap : Nat) (v : Value) (s : Ar) (c : Nat) (x g : Int) (t : TypeId) (z : Nat × Nat) (w : World) (h : ArC w ab bg bt v s c) (hb : w.heap[b]? = some (.cells #[.int .i64 x, .int .i64 g] t z)) (hx : I64 x) (hg : I64 g) (hbf : ¬ arFp ab bg bt v b) (hcn : c + 1 ≤ 1099511627776) :
    Calls Tryz.prog 131 #[.pointer (some ⟨ab, 0, none⟩), .slice (some ⟨b, 0, none⟩) 1 cap] w (ArPost w ab bg bt v (s.drop1 x g) (c + 1) (.int .i64 (s.drop1Res x g))) := by
  have := free_any ab bg bt b 0 cap v s c [(x, g)] w h (HsAt.one hb hx hg) (by simp) hbf hcn
  simpa only [Ar.frees, Ar.freeRes, chk_one, Ar.puts, List.foldl_cons, List.foldl_nil, List.length_singleton, Ar.drop1, Ar.drop1Res] using this

theorem take_to (ab bg bt : Nat) (v : Value) (s : Ar) (c : Nat) (w : World) (x g e : Int) (h : ArC w ab bg bt v s c) (hr : s.takeRes = (x, g, e)) :
    Calls Tryz.prog 109 #[.pointer (some ⟨ab, 0, none⟩)] w (ArPost w ab bg bt v s.take c (.tuple #[.agg #[.int .i64 x, .int .i64 g], .int .i64 e])) := by
  have := take_any ab bg bt v s c w h
  rw [hr] at this
  exact this

/-- what is left of a call: the arena, and the blocks that stay -/
theorem ArC.stay {w w' : World} {ab bg bt : Nat} {v : Value} {s : Ar} {c : Nat} (h : ArC w ab bg bt v s c) (hb : Below w.heap.size w w') : ArC w' ab bg bt v s c := h.keep (fun _ hk => hb.block _ (h.lt hk))

/-- a block beside the arena -/
structure Boxed (w : World) (b : Nat) (X : Obj) (ab bg bt : Nat) (v : Value) : Prop where
  at' : w.heap[b]? = some X
  out : ¬ arFp ab bg bt v b
theorem Boxed.lt {w : World} {b : Nat} {X : Obj} {ab bg bt : Nat} {v : Value} (h : Boxed w b X ab bg bt v) : b < w.heap.size := (Array.getElem?_eq_some_iff.1 h.at').1
theorem Boxed.new {w : World} {ab bg bt : Nat} {v : Value} {s : Ar} {c : Nat} (h : ArC w ab bg bt v s c) (X : Obj) : Boxed (w.alloc X) w.heap.size X ab bg bt v :=
  ⟨heap_new _ _, fun hk => by have := h.lt hk; omega⟩
theorem Boxed.alloc {w : World} {b : Nat} {X : Obj} {ab bg bt : Nat} {v : Value} (h : Boxed w b X ab bg bt v) (Y : Obj) : Boxed (w.alloc Y) b X ab bg bt v :=
  ⟨(Below.heap_alloc _ _ _ h.lt).trans h.at', h.out⟩
theorem Boxed.below {w w' : World} {b : Nat} {X : Obj} {ab bg bt : Nat} {v : Value} (h : Boxed w b X ab bg bt v) (hb : Below w.heap.size w w') : Boxed w' b X ab bg bt v :=
  ⟨(hb.block _ h.lt).trans h.at', h.out⟩
theorem arFp_step {b n : Nat} {ab bg bt : Nat} {v v' : Value} (h : ¬ arFp ab bg bt v b) (hb : b < n) (ho : ∀ k, v'.ownBlock = some k → v.ownBlock = some k ∨ n ≤ k) : ¬ arFp ab bg bt v' b := by
  rintro (e | e | e | e)
  · exact h (.inl e)
  · exact h (.inr (.inl e))
  · exact h (.inr (.inr (.inl e)))
  · rcases ho b e with e' | e'
    · exact h (.inr (.inr (.inr e')))
    · omega
theorem Boxed.step {w w' : World} {b : Nat} {X : Obj} {ab bg bt : Nat} {v v' : Value} (h : Boxed w b X ab bg bt v) (hc : Chg w w' (arFp ab bg bt v)) (ho : ∀ k, v'.ownBlock = some k → v.ownBlock = some k ∨ w.heap.size ≤ k) : Boxed w' b X ab bg bt v' :=
  ⟨(hc.block _ h.lt h.out).trans h.at', arFp_step h.out h.lt ho⟩
theorem ArC.alloc {w : World} {ab bg bt : Nat} {v : Value} {s : Ar} {c : Nat} (h : ArC w ab bg bt v s c) (X : Obj) : ArC (w.alloc X) ab bg bt v s c := h.keep (fun _ hk => Below.heap_alloc _ _ _ (h.lt hk))
theorem Boxed.cell {w : World} {b : Nat} {cs : Array Value} {t : TypeId} {z : Nat × Nat} {ab bg bt : Nat} {v : Value} (h : Boxed w b (.cells cs t z) ab bg bt v) (i : Nat) : w.cell? ⟨b, i, none⟩ = cs[i]? := cell_of_blk h.at' i

theorem arFp_ge {w0 ab bg bt : Nat} {v : Value} (h1 : w0 ≤ ab) (h2 : w0 ≤ bg) (h3 : w0 ≤ bt) (h4 : ∀ k, v.ownBlock = some k → w0 ≤ k) : ∀ k, arFp ab bg bt v k → w0 ≤ k := by
  rintro k (rfl | rfl | rfl | e)
  · exact h1
  · exact h2
  · exact h3
  · exact h4 k e
/-- an arena that was made since the world w -/
structure ArS (w W : World) (ab bg bt : Nat) (v : Value) (s : Ar) (c : Nat) : Prop where
  ar : ArC W ab bg bt v s c
  bel : Below w.heap.size w W
  own : ∀ k, arFp ab bg bt v k → w.heap.size ≤ k
theorem ArS.alloc {w W : World} {ab bg bt : Nat} {v : Value} {s : Ar} {c : Nat} (h : ArS w W ab bg bt v s c) (X : Obj) : ArS w (W.alloc X) ab bg bt v s c :=
  ⟨h.ar.alloc X, h.bel.alloc h.bel.size X, h.own⟩
theorem ArS.drew {w W : World} {ab bg bt : Nat} {v : Value} {s : Ar} {c : Nat} (h : ArS w W ab bg bt v s c) : ArS w W.drew ab bg bt v s c :=
  ⟨h.ar.keep (fun _ _ => rfl), h.bel.drew, h.own⟩
theorem ArS.below {w W W' : World} {ab bg bt : Nat} {v : Value} {s : Ar} {c : Nat} (h : ArS w W ab bg bt v s c) (hb : Below W.heap.size W W') : ArS w W' ab bg bt v s c :=
  ⟨h.ar.stay hb, h.bel.trans (hb.mono h.bel.size), h.own⟩
theorem ArS.step {w W W' : World} {ab bg bt : Nat} {v v' : Value} {s s' : Ar} {c c' : Nat} (h : ArS w W ab bg bt v s c) (hA : ArC W' ab bg bt v' s' c') (hc : Chg W W' (arFp ab bg bt v)) (ho : ∀ k, v'.ownBlock = some k → v.ownBlock = some k ∨ W.heap.size ≤ k) : ArS w W' ab bg bt v' s' c' := by
  refine ⟨hA, h.bel.trans (hc.below h.bel.size h.own), ?_⟩
  rintro k (e | e | e | e)
  · exact h.own k (.inl e)
  · exact h.own k (.inr (.inl e))
  · exact h.own k (.inr (.inr (.inl e)))
  · rcases ho k e with e' | e'
    · exact h.own k (.inr (.inr (.inr e')))
    · have := h.bel.size; omega
theorem ArS.made {w W : World} {rm : Nat} (hA : ArC W (w.heap.size + 2) w.heap.size (w.heap.size + 1) (.slice none 0 0) (Ar.made rm) 0) (hb : Below w.heap.size w W) : ArS w W (w.heap.size + 2) w.heap.size (w.heap.size + 1) (.slice none 0 0) (Ar.made rm) 0 :=
  ⟨hA, hb, arFp_ge (by omega) (by omega) (by omega) (by simp [Value.ownBlock])⟩
theorem ArS.from {w w0 W : World} {ab bg bt : Nat} {v : Value} {s : Ar} {c : Nat} (h : ArS w0 W ab bg bt v s c) (hb : Below w.heap.size w w0) : ArS w W ab bg bt v s c :=
  ⟨h.ar, hb.trans (h.bel.mono hb.size), fun k hk => Nat.le_trans hb.size (h.own k hk)⟩
end Go.Proofs.YtkhkdedjffkhdaaGreat
namespace Go.Proofs.YtkhkdedjffkhdaaGreat
open Go.RowKit Go.Maps

theorem Ar.take_cases {s : Ar} {c : Nat} (h : s.Ok c) :
    (s.free = [] ∧ s.fresh = s.room ∧ s.takeRes = (0, 0, 50) ∧ s.take = s) ∨
    (∃ x, s.takeRes = (x, s.gens x, 0) ∧ s.taken x = false ∧ 0 ≤ x ∧ x < s.room ∧ (∀ y, s.take.taken y = (decide (y = x) || s.taken y)) ∧ s.take.gens = s.gens ∧ s.take.room = s.room ∧ s.take.free.length + s.fresh + 1 = s.free.length + s.take.fresh ∧ s.take.Ok c ∧ (s.free.length : Int) - s.fresh + s.room > 0) := by
  have hro := h.fresh
  rcases List.eq_nil_or_concat s.free with hs | ⟨l, x, hs⟩
  · have e1 : s.free.getLast? = none := by rw [hs]; rfl
    by_cases hr : s.fresh = s.room
    · left
      refine ⟨hs, hr, ?_, ?_⟩
      · unfold Ar.takeRes; rw [e1]; simp [hr]
      · unfold Ar.take; rw [e1]; simp [hr]
    · right
      have et : s.take = s.grow := by unfold Ar.take; rw [e1]; simp [hr]
      refine ⟨s.fresh, ?_, ?_, by omega, by omega, ?_, ?_, ?_, ?_, ?_, ?_⟩
      · unfold Ar.takeRes; rw [e1]; simp [hr]
      · rw [Bool.eq_false_iff]; intro e; have := (Ar.taken_iff.1 e).2.1; omega
      · rw [et]; exact Ar.taken_grow h
      · rw [et]; rfl
      · rw [et]; rfl
      · rw [et]; simp [Ar.grow]; omega
      · rw [et]; exact h.grow (by omega)
      · rw [hs]; simp; omega
  · rw [List.concat_eq_append] at hs
    have e1 : s.free.getLast? = some x := by rw [hs]; simp
    have hm := h.mem x (by rw [hs]; simp)
    have et : s.take = s.pop := by unfold Ar.take; rw [e1]
    right
    refine ⟨x, ?_, ?_, hm.1, by omega, ?_, ?_, ?_, ?_, ?_, ?_⟩
    · unfold Ar.takeRes; rw [e1]
    · rw [Bool.eq_false_iff]; intro e; exact (Ar.taken_iff.1 e).2.2 (by rw [hs]; simp)
    · rw [et]; exact Ar.taken_pop h hs
    · rw [et]; rfl
    · rw [et]; rfl
    · rw [et]; simp [Ar.pop, hs]; omega
    · rw [et]; exact h.pop
    · rw [hs]; simp; omega

/-- live: all handles that are live; gone: some that never will be again -/
structure OnceInv (s : Ar) (L G : List (Int × Int)) : Prop where
  live : ∀ p ∈ L, s.taken p.1 = true ∧ p.2 = s.gens p.1
  apart : (L.map (·.1)).Nodup
  len : L.length + s.free.length = s.fresh
  gone : ∀ p ∈ G, p.2 < s.gens p.1

theorem OnceInv.start (rm : Nat) : OnceInv (Ar.made rm) [] [] := ⟨by simp, by simp, rfl, by simp⟩

/-- handles as cells -/
def hcells (l : List (Int × Int)) : List Value := l.flatMap fun p => [.int .i64 p.1, .int .i64 p.2]
/-- a slice of handles that the call owns -/
structure RowH (w wr : World) (v : Value) (l : List (Int × Int)) : Prop where
  row : wr.ownsRow w.heap.size 117 2 v l.length (hcells l)
  i64 : ∀ p ∈ l, I64 p.1 ∧ I64 p.2

/-- two slices of handles beside an arena -/
structure Rows2 (w wr : World) (ab bg bt : Nat) (v lv gv : Value) (L G : List (Int × Int)) : Prop where
  hL : RowH w wr lv L
  hG : RowH w wr gv G
  oL : ∀ k, lv.ownBlock = some k → ¬ arFp ab bg bt v k
  oG : ∀ k, gv.ownBlock = some k → ¬ arFp ab bg bt v k
  oLG : ∀ k, lv.ownBlock = some k → gv.ownBlock ≠ some k

theorem RowH.of_block {w wr w' : World} {v : Value} {l : List (Int × Int)} (h : RowH w wr v l) (hb : ∀ k, v.ownBlock = some k → w'.heap[k]? = wr.heap[k]?) : RowH w w' v l := ⟨ownsRow_of_block h.row hb, h.i64⟩
theorem RowH.lt {w wr : World} {v : Value} {l : List (Int × Int)} (h : RowH w wr v l) {k : Nat} (hk : v.ownBlock = some k) : w.heap.size ≤ k ∧ k < wr.heap.size := h.row.lt k hk
theorem RowH.shape {w wr : World} {v : Value} {l : List (Int × Int)} (h : RowH w wr v l) : ∃ a cap, v = .slice a l.length cap := by
  rcases h.row.2 with ⟨rfl, h0⟩ | ⟨g, cap, cur, h0, _⟩
  · exact ⟨none, 0, by rw [h0]⟩
  · exact ⟨_, _, h0⟩
theorem Rows2.of_block {w wr w' : World} {ab bg bt : Nat} {v lv gv : Value} {L G : List (Int × Int)} (h : Rows2 w wr ab bg bt v lv gv L G) (hb : ∀ k, k < wr.heap.size → ¬ arFp ab bg bt v k → w'.heap[k]? = wr.heap[k]?) : Rows2 w w' ab bg bt v lv gv L G :=
  ⟨h.hL.of_block (fun k hk => hb k (h.hL.lt hk).2 (h.oL k hk)), h.hG.of_block (fun k hk => hb k (h.hG.lt hk).2 (h.oG k hk)), h.oL, h.oG, h.oLG⟩
theorem Rows2.alloc {w wr : World} {ab bg bt : Nat} {v lv gv : Value} {L G : List (Int × Int)} (h : Rows2 w wr ab bg bt v lv gv L G) (X : Obj) : Rows2 w (wr.alloc X) ab bg bt v lv gv L G :=
  h.of_block (fun _ hk _ => Below.heap_alloc _ _ _ hk)
theorem Rows2.below {w wr w' : World} {ab bg bt : Nat} {v lv gv : Value} {L G : List (Int × Int)} (h : Rows2 w wr ab bg bt v lv gv L G) (hb : Below wr.heap.size wr w') : Rows2 w w' ab bg bt v lv gv L G :=
  h.of_block (fun _ hk _ => hb.block _ hk)
theorem Rows2.step {w wr w' : World} {ab bg bt : Nat} {v v' lv gv : Value} {L G : List (Int × Int)} (h : Rows2 w wr ab bg bt v lv gv L G) (hc : Chg wr w' (arFp ab bg bt v)) (ho : ∀ k, v'.ownBlock = some k → v.ownBlock = some k ∨ wr.heap.size ≤ k) : Rows2 w w' ab bg bt v' lv gv L G := by
  have h1 := h.of_block (w' := w') (fun k hk hn => hc.block k hk hn)
  exact ⟨h1.hL, h1.hG, fun k hk => arFp_step (h.oL k hk) (h.hL.lt hk).2 ho, fun k hk => arFp_step (h.oG k hk) (h.hG.lt hk).2 ho, h.oLG⟩

theorem ArS.grown {w W W' : World} {ab bg bt : Nat} {v : Value} {s : Ar} {c : Nat} {r : Option Nat} (h : ArS w W ab bg bt v s c) (hg : W.grownBy W' r) (hr : ∀ k, r = some k → ¬ arFp ab bg bt v k ∧ w.heap.size ≤ k) : ArS w W' ab bg bt v s c := by
  refine ⟨h.ar.keep (fun k hk => hg.block k (h.ar.lt hk) (fun e => (hr k e.symm).1 hk)), ?_, h.own⟩
  exact h.bel.trans ⟨hg.os, hg.tape, hg.output, hg.size, fun k hk => hg.block k (Nat.lt_of_lt_of_le hk h.bel.size) (fun e => by have := (hr k e.symm).2; omega)⟩

def OnceAt (w : World) (N ab bg bt c : Nat) (lv gv : Value) (wr : World) : Prop :=
  ∃ v s L G, ArS w wr ab bg bt v s c ∧ s.room = N ∧ OnceInv s L G ∧ Rows2 w wr ab bg bt v lv gv L G ∧ G.length ≤ c

theorem OnceAt.below {w W W' : World} {N ab bg bt c : Nat} {lv gv : Value} (h : OnceAt w N ab bg bt c lv gv W) (hb : Below W.heap.size W W') : OnceAt w N ab bg bt c lv gv W' := by
  obtain ⟨v, s, L, G, h1, h2, h3, h4, h5⟩ := h
  exact ⟨v, s, L, G, h1.below hb, h2, h3, h4.below hb, h5⟩
theorem ArS.mono {w W : World} {ab bg bt : Nat} {v : Value} {s : Ar} {c c' : Nat} (h : ArS w W ab bg bt v s c) (hc : c ≤ c') (hl : c' ≤ 1099511627776) : ArS w W ab bg bt v s c' := ⟨h.ar.mono hc hl, h.bel, h.own⟩
theorem Rows2.fresh {w w4 w6 : World} {ab bg bt : Nat} {v lv gv v6 : Value} {L G L' : List (Int × Int)} {s : Ar} {c : Nat} (hA : ArC w4 ab bg bt v s c) (R : Rows2 w w4 ab bg bt v lv gv L G) (hb : Below w4.heap.size w4 w6)
    (row : w6.ownsRow w.heap.size 117 2 v6 L'.length (hcells L')) (hi : ∀ p ∈ L', I64 p.1 ∧ I64 p.2) (hnew : ∀ k, v6.ownBlock = some k → w4.heap.size ≤ k) : Rows2 w w6 ab bg bt v v6 gv L' G := by
  have R' := R.below hb
  refine ⟨⟨row, hi⟩, R'.hG, fun k hk hf => ?_, R'.oG, fun k hk hk' => ?_⟩
  · have := hnew k hk; have := hA.lt hf; omega
  · have := hnew k hk; have := (R.hG.lt hk').2; omega

end Go.Proofs.YtkhkdedjffkhdaaGreat
