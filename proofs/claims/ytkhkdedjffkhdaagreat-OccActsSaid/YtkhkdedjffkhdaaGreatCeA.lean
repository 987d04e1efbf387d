/- Keys as keys of a map; the store of package cell: a plain form of its state and what it is in memory. Conditions: each lemma's own premises. The store of package cell: the functions that only read. Conditions: each contract's own premises. The store of package cell: New, Lock. Conditions: each contract's own premises. The store of package cell: Install. Conditions: each contract's own premises. The store of package cell as a plain function from keys to cells: what each function answers and leaves. Conditions: each contract's own premises. -/
import Derived.Test.YtkhkdedjffkhdaaGreatKyBase
import Derived.Test.YtkhkdedjffkhdaaGreatCell
import Derived.Test.YtkhkdedjffkhdaaGreatArA
namespace Go.Proofs.YtkhkdedjffkhdaaGreat
open Go.RowKit Go.Maps Go.WideMaps

/-- a slot -/
structure Sl where
  ad : Nat
  hs : Int
  hg : Int
  st : Nat
  lk : Bool
  ab : Bool
  text : ByteArray
  who : Int
def Sl.blk (x : Sl) : Obj := .cells #[.int .i64 x.hs, .int .i64 x.hg, .int .u64 (wd x.st x.lk x.ab), .string x.text, .int .i64 x.who] 119 (0, 0)
structure Sl.Ok (x : Sl) : Prop where
  st : Sm x.st
  text : x.text.size ≤ maxLen
  who : I64 x.who
def Sl.ptr (x : Sl) : Value := .pointer (some ⟨x.ad, 0, none⟩)

/-- a store: its blocks, its arena, its cells -/
structure Sto where
  sb : Nat
  ab : Nat
  bg : Nat
  bt : Nat
  mb : Nat
  v : Value
  ar : Ar
  c : Nat
  f : Ky → Option Sl

def ptrOf (o : Option Sl) : Value := (o.map Sl.ptr).getD (.pointer none)

structure StC (w : World) (s : Sto) : Prop where
  blk : w.heap[s.sb]? = some (.cells #[.pointer (some ⟨s.ab, 0, none⟩), .map (some s.mb)] 55 (0, 0))
  ar : ArC w s.ab s.bg s.bt s.v s.ar s.c
  map : ∃ n g, mapR w Tryz.prog 47 s.mb n g ∧ n + s.ar.free.length = s.ar.fresh ∧ ∀ k, k.Ok → g k.lit = (s.f k).map Sl.ptr
  slot : ∀ k x, s.f k = some x → k.Ok ∧ x.Ok ∧ w.heap[x.ad]? = some x.blk ∧ s.ar.live x.hs x.hg = true
  apart : ∀ k k' x x', s.f k = some x → s.f k' = some x' → k ≠ k' → x.ad ≠ x'.ad ∧ x.hs ≠ x'.hs
  ne : s.mb ≠ s.bg ∧ s.mb ≠ s.bt

/-- the blocks that a store lies in -/
def Sto.fp (s : Sto) (i : Nat) : Prop := i = s.sb ∨ i = s.mb ∨ arFp s.ab s.bg s.bt s.v i ∨ ∃ k x, s.f k = some x ∧ x.ad = i

section
variable {w w' : World} {s : Sto}
theorem StC.ltS (h : StC w s) : s.sb < w.heap.size := (Array.getElem?_eq_some_iff.1 h.blk).1
theorem StC.ltM (h : StC w s) : s.mb < w.heap.size := by obtain ⟨_, _, m, _⟩ := h.map; exact m.lt
theorem StC.ltX (h : StC w s) {k : Ky} {x : Sl} (hx : s.f k = some x) : x.ad < w.heap.size := (Array.getElem?_eq_some_iff.1 (h.slot k x hx).2.2.1).1
theorem StC.lt (h : StC w s) {i : Nat} (hi : s.fp i) : i < w.heap.size := by
  rcases hi with rfl | rfl | hi | ⟨k, x, hx, rfl⟩
  · exact h.ltS
  · exact h.ltM
  · exact h.ar.lt hi
  · exact h.ltX hx
theorem StC.keep (h : StC w s) (hb : ∀ i, s.fp i → w'.heap[i]? = w.heap[i]?) : StC w' s := by
  obtain ⟨n, g, m, h1⟩ := h.map
  exact ⟨(hb _ (.inl rfl)).trans h.blk, h.ar.keep (fun i hi => hb i (.inr (.inr (.inl hi)))), ⟨n, g, m.of_block (hb _ (.inr (.inl rfl))), h1⟩,
    fun k x hx => ⟨(h.slot k x hx).1, (h.slot k x hx).2.1, (hb _ (.inr (.inr (.inr ⟨k, x, hx, rfl⟩)))).trans (h.slot k x hx).2.2.1, (h.slot k x hx).2.2.2⟩, h.apart, h.ne⟩
theorem StC.alloc (h : StC w s) (X : Obj) : StC (w.alloc X) s := h.keep (fun _ hk => Below.heap_alloc _ _ _ (h.lt hk))
theorem StC.stay (h : StC w s) (hb : Below w.heap.size w w') : StC w' s := h.keep (fun _ hk => hb.block _ (h.lt hk))
theorem StC.drewN (h : StC w s) (n : Nat) : StC (w.drewN n) s := h.keep (fun _ _ => rfl)
theorem StC.drew (h : StC w s) : StC w.drew s := h.keep (fun _ _ => rfl)

theorem zeroSlot (w : World) : (zeroValue 88).run Tryz.prog w = .ok (.pointer none) w := by kernel_rfl
theorem StC.look (h : StC w s) {k : Ky} (hk : k.Ok) {W : World} (hW : W.heap[s.mb]? = w.heap[s.mb]?) :
    (Instr.lookup 53 (.map (some s.mb)) (.agg #[.int .i64 k.kind, .int .i64 k.a, .int .i64 k.b, .string k.s]) false).run Tryz.prog W = .ok (ptrOf (s.f k)) W := by
  obtain ⟨n, g, m, _, hg⟩ := h.map
  have e := (m.of_block (w' := W) hW).look lawKey Tryz.underlying53 (zeroSlot _) (key := k.val) (keyK hk)
  rw [hg k hk] at e
  exact e

/-- a store that was made since the world w -/
structure StS (w W : World) (s : Sto) : Prop where
  st : StC W s
  bel : Below w.heap.size w W
  own : ∀ i, s.fp i → w.heap.size ≤ i
end
/-- what a call leaves: its answer, the store's new state, and that nothing else has changed -/
def StPost (w : World) (s s' : Sto) (r : Value) (e : Ending) (w' : World) : Prop :=
  e = .returned r ∧ StC w' s' ∧ Chg w w' s.fp ∧ ∀ i, s'.fp i → s.fp i ∨ w.heap.size ≤ i
section
variable {w W W' : World} {s s' : Sto}
theorem StS.alloc (h : StS w W s) (X : Obj) : StS w (W.alloc X) s := ⟨h.st.alloc X, h.bel.alloc h.bel.size X, h.own⟩
theorem StS.drew (h : StS w W s) : StS w W.drew s := ⟨h.st.drew, h.bel.drew, h.own⟩
theorem StS.drewN (h : StS w W s) (n : Nat) : StS w (W.drewN n) s := ⟨h.st.drewN n, below_drewN h.bel n, h.own⟩
theorem StS.below (h : StS w W s) (hb : Below W.heap.size W W') : StS w W' s := ⟨h.st.stay hb, h.bel.trans (hb.mono h.bel.size), h.own⟩
theorem StS.step (h : StS w W s) (hA : StC W' s') (hc : Chg W W' s.fp) (ho : ∀ i, s'.fp i → s.fp i ∨ W.heap.size ≤ i) : StS w W' s' := by
  refine ⟨hA, h.bel.trans (hc.below h.bel.size h.own), fun i hi => ?_⟩
  rcases ho i hi with e | e
  · exact h.own i e
  · have := h.bel.size; omega
theorem StS.from {w0 : World} (h : StS w0 W s) (hb : Below w.heap.size w w0) : StS w W s := ⟨h.st, hb.trans (h.bel.mono hb.size), fun k hk => Nat.le_trans hb.size (h.own k hk)⟩
end
end Go.Proofs.YtkhkdedjffkhdaaGreat
namespace Go.Proofs.YtkhkdedjffkhdaaGreat
open Go.RowKit Go.Maps

/-- what a walk needs of a store ahead of a call that boxes the key -/
theorem StC.pre {w : World} {s : Sto} (h : StC w s) {k : Ky} (hk : k.Ok) : w.cell? ⟨s.sb, 0, none⟩ = some (.pointer (some ⟨s.ab, 0, none⟩)) ∧ w.cell? ⟨s.sb, 1, none⟩ = some (.map (some s.mb)) ∧ s.sb < w.heap.size ∧
    ∀ (X : Obj) (nq : Nat), (Instr.lookup 53 (.map (some s.mb)) (.agg #[.int .i64 k.kind, .int .i64 k.a, .int .i64 k.b, .string k.s]) false).run Tryz.prog ((w.alloc X).drewN nq) = .ok (ptrOf (s.f k)) ((w.alloc X).drewN nq) :=
  ⟨by rw [cell_of_blk h.blk]; rfl, by rw [cell_of_blk h.blk]; rfl, h.ltS, fun X _ => h.look hk (Below.heap_alloc w X _ h.ltM)⟩
theorem StC.cells {w : World} {s : Sto} (h : StC w s) {k : Ky} {x : Sl} (hx : s.f k = some x) : w.cell? ⟨x.ad, 0, none⟩ = some (.int .i64 x.hs) ∧ w.cell? ⟨x.ad, 1, none⟩ = some (.int .i64 x.hg) ∧ w.cell? ⟨x.ad, 2, none⟩ = some (.int .u64 (wd x.st x.lk x.ab)) ∧ w.cell? ⟨x.ad, 3, none⟩ = some (.string x.text) ∧ w.cell? ⟨x.ad, 4, none⟩ = some (.int .i64 x.who) ∧ x.ad < w.heap.size := by
  have hb := (h.slot k x hx).2.2.1
  refine ⟨?_, ?_, ?_, ?_, ?_, h.ltX hx⟩ <;> rw [cell_of_blk hb] <;> rfl

theorem cell_box {w : World} {X : Obj} {a i : Nat} {v : Value} (hl : a < w.heap.size) (hc : w.cell? ⟨a, i, none⟩ = some v) (n : Nat) : ((w.alloc X).drewN n).cell? ⟨a, i, none⟩ = some v :=
  (World.cell?_of_block (a := ⟨a, i, none⟩) (w' := (w.alloc X).drewN n) (w := w) (Below.heap_alloc w X _ hl)).trans hc

/-- does one hold a cell? -/
def Sto.holds (s : Sto) (k : Ky) (who : Int) : Bool := match s.f k with | none => false | some x => x.lk && (x.who == who)

set_option maxHeartbeats 400000 in
theorem holds_any (s : Sto) (k : Ky) (who : Int) (w : World) (h : StC w s) (hk : k.Ok) :
    Calls Tryz.prog 110 #[.pointer (some ⟨s.sb, 0, none⟩), .agg #[.int .i64 k.kind, .int .i64 k.a, .int .i64 k.b, .string k.s], .int .i64 who] w fun e w' => e = .returned (.bool (s.holds k who)) ∧ Below w.heap.size w w' := by
  obtain ⟨c0, c1, hl, lk0⟩ := h.pre hk
  have lk := lk0 (.cells #[.int .i64 k.kind, .int .i64 k.a, .int .i64 k.b, .string k.s] 47)
  clear c0 lk0
  unfold Sto.holds
  cases hx : s.f k with
  | none =>
    rw [hx] at lk
    simp only [ptrOf, Option.map_none, Option.getD_none] at lk
    clear h hx
    go_enter Tryz.func110, Tryz.ntmps110
    go_wp2
    go_quiet (fail)
    go_wp2
    go_ret
    exact ⟨rfl, below_drewN ((Below.refl _ _).alloc (Nat.le_refl _) _) _⟩
  | some x =>
    rw [hx] at lk
    simp only [ptrOf, Option.map_some, Option.getD_some, Sl.ptr] at lk
    obtain ⟨_, _, c2, _, c4, hxl⟩ := h.cells hx
    have hs := (h.slot k x hx).2.1.st
    clear h hx
    cases hlk : x.lk
    · rw [hlk] at c2
      go_enter Tryz.func110, Tryz.ntmps110
      go_wp2
      go_quiet (fail)
      go_wp2_with (go_at_call 53; refine (locked_any _ _ _ _ _ hs (cell_box hxl c2 _)).mono ?_; rintro e w' ⟨rfl, rfl⟩)
      go_ret
      exact ⟨by rw [hlk]; rfl, below_drewN ((Below.refl _ _).alloc (Nat.le_refl _) _) _⟩
    · rw [hlk] at c2
      go_enter Tryz.func110, Tryz.ntmps110
      go_wp2
      go_quiet (fail)
      go_wp2_with (go_at_call 53; refine (locked_any _ _ _ _ _ hs (cell_box hxl c2 _)).mono ?_; rintro e w' ⟨rfl, rfl⟩)
      go_ret
      exact ⟨by rw [hlk]; rfl, below_drewN ((Below.refl _ _).alloc (Nat.le_refl _) _) _⟩

theorem below_box2 (w : World) (X Y : Obj) (n : Nat) : Below w.heap.size w (((w.alloc X).alloc Y).drewN n) := below_drewN (((Below.refl _ _).alloc (Nat.le_refl _) _).alloc (by rw [size_alloc]; omega) _) _
theorem bcell {W w1 : World} (hb : Below W.heap.size W w1) : (∀ b o, b < W.heap.size → w1.cell? ⟨b, o, none⟩ = W.cell? ⟨b, o, none⟩) ∧ (∀ b o, b < W.heap.size → w1.frozen? ⟨b, o, none⟩ = W.frozen? ⟨b, o, none⟩) :=
  ⟨fun b o h => hb.cell (p := ⟨b, o, none⟩) h, fun b o h => hb.frozen (p := ⟨b, o, none⟩) h⟩
theorem StC.pre2 {w : World} {s : Sto} (h : StC w s) {k : Ky} (hk : k.Ok) (X Y : Obj) (nq : Nat) :
    (Instr.lookup 53 (.map (some s.mb)) (.agg #[.int .i64 k.kind, .int .i64 k.a, .int .i64 k.b, .string k.s]) false).run Tryz.prog (((w.alloc X).alloc Y).drewN nq) = .ok (ptrOf (s.f k)) (((w.alloc X).alloc Y).drewN nq) :=
  h.look hk ((Below.heap_alloc (w.alloc X) Y _ (by have := h.ltM; rw [size_alloc]; omega)).trans (Below.heap_alloc w X _ h.ltM))
theorem cell_box2 {w : World} {X Y : Obj} {a i : Nat} {v : Value} (hl : a < w.heap.size) (hc : w.cell? ⟨a, i, none⟩ = some v) (n : Nat) : (((w.alloc X).alloc Y).drewN n).cell? ⟨a, i, none⟩ = some v :=
  (World.cell?_of_block (a := ⟨a, i, none⟩) (w' := ((w.alloc X).alloc Y).drewN n) (w := w) ((Below.heap_alloc (w.alloc X) Y a (by rw [size_alloc]; omega)).trans (Below.heap_alloc w X a hl))).trans hc

/-- what Read answers -/
def Sto.read (s : Sto) (k : Ky) : Value := match s.f k with
  | none => .tuple #[.agg #[.int .u64 0, .string ⟨#[]⟩, .bool false], .int .i64 0]
  | some x => if x.lk then .tuple #[.agg #[.int .u64 0, .string ⟨#[]⟩, .bool false], .int .i64 60] else .tuple #[.agg #[.int .u64 x.st, .string x.text, .bool (!x.ab)], .int .i64 0]

set_option maxHeartbeats 400000 in
theorem read_any (s : Sto) (k : Ky) (w : World) (h : StC w s) (hk : k.Ok) :
    Calls Tryz.prog 37 #[.pointer (some ⟨s.sb, 0, none⟩), .agg #[.int .i64 k.kind, .int .i64 k.a, .int .i64 k.b, .string k.s]] w fun e w' => e = .returned (s.read k) ∧ Below w.heap.size w w' := by
  obtain ⟨_, c1, hl, _⟩ := h.pre hk
  have lk := h.pre2 hk (.cells #[.int .i64 k.kind, .int .i64 k.a, .int .i64 k.b, .string k.s] 47) (.cells #[.int .u64 0, .string ⟨#[]⟩, .bool false] 96)
  have hB : ∀ X Y n, Below w.heap.size w (((w.alloc X).alloc Y).drewN n) := fun X Y n => below_drewN (((Below.refl _ _).alloc (Nat.le_refl _) _).alloc (by rw [size_alloc]; omega) _) _
  have HB := Lib.hid hB
  clear hB
  unfold Sto.read
  cases hx : s.f k with
  | none =>
    rw [hx] at lk
    simp only [ptrOf, Option.map_none, Option.getD_none] at lk
    clear h hx
    go_enter Tryz.func37, Tryz.ntmps37
    go_wp2
    go_quiet (fail)
    go_wp2
    refine bodyPost_ret (v := .tuple #[.agg #[.int .u64 0, .string ⟨#[]⟩, .bool false], .int .i64 0]) (by simp [results, Tryz.results37, go_sem]) rfl ⟨rfl, ?_⟩
    exact (((HB.out _ _ _).setCell (Nat.le_succ _) _).setCell (Nat.le_succ _) _).setCell (Nat.le_succ _) _
  | some x =>
    rw [hx] at lk
    simp only [ptrOf, Option.map_some, Option.getD_some, Sl.ptr] at lk
    obtain ⟨_, _, c2, c3, _, hxl⟩ := h.cells hx
    have hs := (h.slot k x hx).2.1.st
    clear h hx
    cases hlk : x.lk
    · rw [hlk] at c2
      simp only [hlk, Bool.false_eq_true, if_false]
      clear hlk
      go_enter Tryz.func37, Tryz.ntmps37
      go_wp2
      go_quiet (fail)
      go_wp2_with (first | (go_at_call 53; refine (locked_any _ _ _ _ _ hs (cell_box2 hxl c2 _)).mono ?_; rintro e w' ⟨rfl, rfl⟩) | (go_at_call 79; refine (seen_any _ _ _ _ _ _ hs (by simp; omega) (cell_box2 hxl c2 _) (cell_box2 hxl c3 _)).mono ?_; rintro e w1 ⟨rfl, hb⟩; obtain ⟨hc, hf⟩ := bcell hb))
      have hz := hb.size
      simp at hz
      refine bodyPost_ret (v := .tuple #[.agg #[.int .u64 x.st, .string x.text, .bool (!x.ab)], .int .i64 0]) (by simp [results, Tryz.results37, go_sem, hc]) rfl ⟨rfl, ?_⟩
      exact ((((HB.out _ _ _).trans (hb.mono (by simp; omega))).setCell (Nat.le_succ _) _).setCell (Nat.le_succ _) _).setCell (Nat.le_succ _) _
    · rw [hlk] at c2
      simp only [hlk, if_true]
      clear hlk
      go_enter Tryz.func37, Tryz.ntmps37
      go_wp2
      go_quiet (fail)
      go_wp2_with (go_at_call 53; refine (locked_any _ _ _ _ _ hs (cell_box2 hxl c2 _)).mono ?_; rintro e w' ⟨rfl, rfl⟩)
      refine bodyPost_ret (v := .tuple #[.agg #[.int .u64 0, .string ⟨#[]⟩, .bool false], .int .i64 60]) (by simp [results, Tryz.results37, go_sem]) rfl ⟨rfl, ?_⟩
      exact (((HB.out _ _ _).setCell (Nat.le_succ _) _).setCell (Nat.le_succ _) _).setCell (Nat.le_succ _) _

/-- is a cell what was seen? -/
def Sto.still (s : Sto) (k : Ky) (who vw : Int) (vh : Bool) : Bool := match s.f k with
  | none => !vh
  | some x => if x.lk = true ∧ x.who ≠ who then false else (x.ab == !vh) && ((x.st : Int) == vw || (!vh && ((x.st : Int) == 0)))

set_option maxHeartbeats 400000 in
theorem still_none (s : Sto) (k : Ky) (who vw : Int) (vs : ByteArray) (vh : Bool) (w : World) (h : StC w s) (hk : k.Ok) (hx : s.f k = none) :
    Calls Tryz.prog 88 #[.pointer (some ⟨s.sb, 0, none⟩), .agg #[.int .i64 k.kind, .int .i64 k.a, .int .i64 k.b, .string k.s], .int .i64 who, .agg #[.int .u64 vw, .string vs, .bool vh]] w fun e w' => e = .returned (.bool (!vh)) ∧ Below w.heap.size w w' := by
  obtain ⟨_, c1, hl, _⟩ := h.pre hk
  have lk := h.pre2 hk (.cells #[.int .i64 k.kind, .int .i64 k.a, .int .i64 k.b, .string k.s] 47) (.cells #[.int .u64 vw, .string vs, .bool vh] 96)
  rw [hx] at lk
  simp only [ptrOf, Option.map_none, Option.getD_none] at lk
  clear h hx
  go_enter Tryz.func88, Tryz.ntmps88
  go_wp2
  go_quiet (fail)
  go_wp2
  go_ret
  exact ⟨rfl, below_box2 _ _ _ _⟩

set_option maxHeartbeats 400000 in
theorem still_other (s : Sto) (k : Ky) (x : Sl) (who vw : Int) (vs : ByteArray) (vh : Bool) (w : World) (h : StC w s) (hk : k.Ok) (hx : s.f k = some x) (hlk : x.lk = true) (hw : x.who ≠ who) :
    Calls Tryz.prog 88 #[.pointer (some ⟨s.sb, 0, none⟩), .agg #[.int .i64 k.kind, .int .i64 k.a, .int .i64 k.b, .string k.s], .int .i64 who, .agg #[.int .u64 vw, .string vs, .bool vh]] w fun e w' => e = .returned (.bool false) ∧ Below w.heap.size w w' := by
  obtain ⟨_, c1, hl, _⟩ := h.pre hk
  have lk := h.pre2 hk (.cells #[.int .i64 k.kind, .int .i64 k.a, .int .i64 k.b, .string k.s] 47) (.cells #[.int .u64 vw, .string vs, .bool vh] 96)
  rw [hx] at lk
  simp only [ptrOf, Option.map_some, Option.getD_some, Sl.ptr] at lk
  obtain ⟨_, _, c2, c3, c4, hxl⟩ := h.cells hx
  have hs := (h.slot k x hx).2.1.st
  rw [hlk] at c2
  have hne : (x.who != who) = true := by simpa using hw
  clear h hx hlk hw
  go_enter Tryz.func88, Tryz.ntmps88
  go_wp2
  go_quiet (fail)
  go_wp2_with (go_at_call 53; refine (locked_any _ _ _ _ _ hs (cell_box2 hxl c2 _)).mono ?_; rintro e w' ⟨rfl, rfl⟩)
  go_ret
  exact ⟨rfl, below_box2 _ _ _ _⟩

set_option maxHeartbeats 1000000 in
theorem still_self (s : Sto) (k : Ky) (x : Sl) (who vw : Int) (vs : ByteArray) (vh : Bool) (w : World) (h : StC w s) (hk : k.Ok) (hx : s.f k = some x) (hlk : x.lk = true → x.who = who) :
    Calls Tryz.prog 88 #[.pointer (some ⟨s.sb, 0, none⟩), .agg #[.int .i64 k.kind, .int .i64 k.a, .int .i64 k.b, .string k.s], .int .i64 who, .agg #[.int .u64 vw, .string vs, .bool vh]] w fun e w' => e = .returned (.bool ((x.ab == !vh) && ((x.st : Int) == vw || (!vh && ((x.st : Int) == 0))))) ∧ Below w.heap.size w w' := by
  obtain ⟨_, c1, hl, _⟩ := h.pre hk
  have lk := h.pre2 hk (.cells #[.int .i64 k.kind, .int .i64 k.a, .int .i64 k.b, .string k.s] 47) (.cells #[.int .u64 vw, .string vs, .bool vh] 96)
  rw [hx] at lk
  simp only [ptrOf, Option.map_some, Option.getD_some, Sl.ptr] at lk
  obtain ⟨_, _, c2, c3, c4, hxl⟩ := h.cells hx
  have hs := (h.slot k x hx).2.1.st
  clear h hx
  obtain ⟨ad, xh, xg, st, lkx, ab, text, whx⟩ := x
  dsimp only at *
  have hcase : lkx = false ∨ (lkx = true ∧ whx = who) := by cases lkx <;> simp_all
  clear hlk
  rcases hcase with rfl | ⟨rfl, rfl⟩ <;> cases ab <;> cases vh <;> cases hst : ((st : Int) == vw)
  all_goals
    have HS := Lib.hid hs
    clear hs
    go_enter Tryz.func88, Tryz.ntmps88
    go_wp2
    go_quiet (fail)
    go_wp2_with (go_at_call 53; refine (locked_any _ _ _ _ _ HS.out (cell_box2 hxl c2 _)).mono ?_; rintro e w' ⟨rfl, rfl⟩)
    go_quiet ((first | (go_at_call 76; first | exact quiet_at2 (absent_any _ _ _ _ _ HS.out (cell_box2 hxl c2 _)) | exact quiet_at (absent_any _ _ _ _ _ HS.out (cell_box2 hxl c2 _))) | (go_at_call 80; first | exact quiet_at2 (quiet_same (stamp_wd _ _ _ _ HS.out)) | exact quiet_at (quiet_same (stamp_wd _ _ _ _ HS.out)))))
    go_wp2
    go_ret
    exact ⟨by simp, below_drewN (below_box2 _ _ _ _) _⟩

theorem still_any (s : Sto) (k : Ky) (who vw : Int) (vs : ByteArray) (vh : Bool) (w : World) (h : StC w s) (hk : k.Ok) :
    Calls Tryz.prog 88 #[.pointer (some ⟨s.sb, 0, none⟩), .agg #[.int .i64 k.kind, .int .i64 k.a, .int .i64 k.b, .string k.s], .int .i64 who, .agg #[.int .u64 vw, .string vs, .bool vh]] w fun e w' => e = .returned (.bool (s.still k who vw vh)) ∧ Below w.heap.size w w' := by
  unfold Sto.still
  cases hx : s.f k with
  | none => exact still_none s k who vw vs vh w h hk hx
  | some x =>
    by_cases hc : x.lk = true ∧ x.who ≠ who
    · simp only [if_pos hc]
      exact still_other s k x who vw vs vh w h hk hx hc.1 hc.2
    · simp only [if_neg hc]
      exact still_self s k x who vw vs vh w h hk hx (fun e => Classical.byContradiction fun n => hc ⟨e, n⟩)
end Go.Proofs.YtkhkdedjffkhdaaGreat
namespace Go.Proofs.YtkhkdedjffkhdaaGreat
open Go.RowKit Go.Maps

open Classical in
/-- cells, changed at one key -/
noncomputable def setF (f : Ky → Option Sl) (k : Ky) (o : Option Sl) : Ky → Option Sl := fun x => if x = k then o else f x
theorem setF_same (f : Ky → Option Sl) (k : Ky) (o : Option Sl) : setF f k o k = o := by simp [setF]
theorem setF_other (f : Ky → Option Sl) {k k' : Ky} (o : Option Sl) (h : k' ≠ k) : setF f k o k' = f k' := by simp [setF, h]

/-! a slot that is written -/
theorem StC.neXS {w : World} {s : Sto} (h : StC w s) {k : Ky} {x : Sl} (hx : s.f k = some x) : x.ad ≠ s.sb ∧ x.ad ≠ s.mb ∧ ¬ arFp s.ab s.bg s.bt s.v x.ad := by
  have hb := (h.slot k x hx).2.2.1
  refine ⟨?_, ?_, ?_⟩
  · intro e; rw [e, h.blk] at hb; simp [Sl.blk] at hb
  · intro e; obtain ⟨_, _, ⟨_, ⟨_, _, hm, _⟩, _⟩, _⟩ := h.map; rw [e, hm] at hb; cases hb
  · rintro (e | e | e | e)
    · rw [e, h.ar.blk] at hb; simp [Sl.blk] at hb
    · obtain ⟨_, _, ⟨_, ⟨_, _, hm, _⟩, _⟩, _⟩ := h.ar.gens; rw [e, hm] at hb; cases hb
    · obtain ⟨_, _, ⟨_, ⟨_, _, hm, _⟩, _⟩, _⟩ := h.ar.taken; rw [e, hm] at hb; cases hb
    · rcases h.ar.row.2 with ⟨h0, _⟩ | ⟨g, cap, cur, h0, _, hg, _⟩
      · rw [h0] at e; simp [Value.ownBlock] at e
      · rw [h0] at e; simp [Value.ownBlock] at e; rw [← e, hg] at hb; simp [Sl.blk] at hb

/-- the store with the slot x in the place of the one at k, which lies in the same block and has the same handle -/
noncomputable def Sto.put (s : Sto) (k : Ky) (x : Sl) : Sto := { s with f := setF s.f k (some x) }
theorem Sto.put_fp {s : Sto} {k : Ky} {x x' : Sl} (hx : s.f k = some x) (ha : x'.ad = x.ad) {i : Nat} (hi : (s.put k x').fp i) : s.fp i := by
  rcases hi with e | e | e | ⟨k', y, hy, e⟩
  · exact .inl e
  · exact .inr (.inl e)
  · exact .inr (.inr (.inl e))
  · by_cases ek : k' = k
    · subst ek
      simp only [Sto.put, setF_same] at hy
      cases hy
      exact .inr (.inr (.inr ⟨k', x, hx, by rw [← e, ha]⟩))
    · simp only [Sto.put, setF_other _ _ ek] at hy
      exact .inr (.inr (.inr ⟨k', y, hy, e⟩))
theorem StC.put {w w' : World} {s : Sto} (h : StC w s) {k : Ky} {x x' : Sl} (hx : s.f k = some x) (ha : x'.ad = x.ad) (h1 : x'.hs = x.hs) (h2 : x'.hg = x.hg) (ho : x'.Ok)
    (hb : w'.heap[x.ad]? = some x'.blk) (hr : ∀ i, i < w.heap.size → i ≠ x.ad → w'.heap[i]? = w.heap[i]?) : StC w' (s.put k x') := by
  obtain ⟨n, g, m, hn, hg⟩ := h.map
  obtain ⟨n1, n2, n3⟩ := h.neXS hx
  refine ⟨(hr _ h.ltS n1.symm).trans h.blk, h.ar.keep (fun i hi => hr i (h.ar.lt hi) (fun e => n3 (e ▸ hi))), ⟨n, g, m.of_block (hr _ h.ltM n2.symm), hn, fun y hy => ?_⟩, fun y z hz => ?_, fun y y' z z' hz hz' hne => ?_, h.ne⟩
  · rw [hg y hy]
    by_cases e : y = k
    · subst e; simp [Sto.put, setF_same, hx, Sl.ptr, ha]
    · simp [Sto.put, setF_other _ _ e]
  · by_cases e : y = k
    · subst e
      simp only [Sto.put, setF_same] at hz
      cases hz
      have := h.slot y x hx
      exact ⟨this.1, ho, by rw [ha]; exact hb, by rw [h1, h2]; exact this.2.2.2⟩
    · simp only [Sto.put, setF_other _ _ e] at hz
      have := h.slot y z hz
      exact ⟨this.1, this.2.1, (hr _ (h.ltX hz) (h.apart _ _ _ _ hz hx e).1).trans this.2.2.1, this.2.2.2⟩
  · by_cases e : y = k
    · subst e
      simp only [Sto.put, setF_same] at hz
      cases hz
      simp only [Sto.put, setF_other _ _ (Ne.symm hne)] at hz'
      have := h.apart _ _ _ _ hx hz' hne
      rw [ha, h1]; exact this
    · simp only [Sto.put, setF_other _ _ e] at hz
      by_cases e' : y' = k
      · subst e'
        simp only [Sto.put, setF_same] at hz'
        cases hz'
        have := h.apart _ _ _ _ hz hx hne
        rw [ha, h1]; exact this
      · simp only [Sto.put, setF_other _ _ e'] at hz'
        exact h.apart _ _ _ _ hz hz' hne
theorem StC.put_post {w w' : World} {s : Sto} (h : StC w s) {k : Ky} {x x' : Sl} (hx : s.f k = some x) (ha : x'.ad = x.ad) (h1 : x'.hs = x.hs) (h2 : x'.hg = x.hg) (ho : x'.Ok) (hc : Chg w w' (fun i => i = x.ad))
    (hb : w'.heap[x.ad]? = some x'.blk) (r : Value) : StPost w s (s.put k x') r (.returned r) w' :=
  ⟨rfl, h.put hx ha h1 h2 ho hb (fun i hi hn => hc.block i hi hn), hc.mono (fun _ _ e => .inr (.inr (.inr ⟨k, x, hx, e.symm⟩))), fun _ hi => .inl (Sto.put_fp hx ha hi)⟩

set_option maxHeartbeats 400000 in
theorem lock_busy (s : Sto) (k : Ky) (x : Sl) (who : Int) (w : World) (h : StC w s) (hk : k.Ok) (hx : s.f k = some x) (hlk : x.lk = true) :
    Calls Tryz.prog 85 #[.pointer (some ⟨s.sb, 0, none⟩), .agg #[.int .i64 k.kind, .int .i64 k.a, .int .i64 k.b, .string k.s], .int .i64 who] w fun e w' => e = .returned (.tuple #[.int .u64 0, .int .i64 60]) ∧ Below w.heap.size w w' := by
  obtain ⟨_, c1, hl, lk0⟩ := h.pre hk
  have lk := lk0 (.cells #[.int .i64 k.kind, .int .i64 k.a, .int .i64 k.b, .string k.s] 47)
  rw [hx] at lk
  simp only [ptrOf, Option.map_some, Option.getD_some, Sl.ptr] at lk
  obtain ⟨_, _, c2, c3, c4, hxl⟩ := h.cells hx
  have hs := Lib.hid (h.slot k x hx).2.1.st
  rw [hlk] at c2
  clear h hx hlk lk0
  go_enter Tryz.func85, Tryz.ntmps85
  go_wp2
  go_quiet (fail)
  go_wp2_with (go_at_call 90; refine (lock_wd _ _ _ _ hs.out).mono ?_; rintro e w' ⟨rfl, rfl⟩)
  go_ret2
  exact ⟨rfl, below_drewN ((Below.refl _ _).alloc (Nat.le_refl _) _) _⟩

theorem blk_box {w : World} {X Y : Obj} {a : Nat} (h : w.heap[a]? = some Y) (n : Nat) : ((w.alloc X).drewN n).heap[a]? = some Y :=
  (Below.heap_alloc w X a (Array.getElem?_eq_some_iff.1 h).1).trans h
theorem chg_box (w : World) (X : Obj) (n : Nat) (S : Nat → Prop) : Chg w ((w.alloc X).drewN n) S := ((Chg.refl w S).alloc X).drewN n

set_option maxHeartbeats 400000 in
theorem lock_free (s : Sto) (k : Ky) (x : Sl) (who : Int) (w : World) (h : StC w s) (hk : k.Ok) (hw : I64 who) (hx : s.f k = some x) (hlk : x.lk = false) :
    Calls Tryz.prog 85 #[.pointer (some ⟨s.sb, 0, none⟩), .agg #[.int .i64 k.kind, .int .i64 k.a, .int .i64 k.b, .string k.s], .int .i64 who] w (StPost w s (s.put k { x with lk := true, who := who }) (.tuple #[.int .u64 x.st, .int .i64 0])) := by
  obtain ⟨_, c1, hl, lk0⟩ := h.pre hk
  have lk := lk0 (.cells #[.int .i64 k.kind, .int .i64 k.a, .int .i64 k.b, .string k.s] 47)
  rw [hx] at lk
  simp only [ptrOf, Option.map_some, Option.getD_some, Sl.ptr] at lk
  obtain ⟨_, _, c2, c3, c4, hxl⟩ := h.cells hx
  have hs := Lib.hid (h.slot k x hx).2.1.st
  have hb := (h.slot k x hx).2.2.1
  have f2 := frozen_of_blk hb 2
  have f4 := frozen_of_blk hb 4
  have HB := Lib.hid hb
  have HX := Lib.hid hx
  have HL := Lib.hid hlk
  rw [hlk] at c2
  clear hx hlk lk0 hb
  go_enter Tryz.func85, Tryz.ntmps85
  go_wp2
  go_quiet (fail)
  go_wp2_with (first | (go_at_call 90; refine (lock_wd _ _ _ _ hs.out).mono ?_; rintro e w' ⟨rfl, rfl⟩) | (go_at_call 80; refine (stamp_wd _ _ _ _ hs.out).mono ?_; rintro e w' ⟨rfl, rfl⟩))
  go_ret2
  refine h.put_post (x' := { x with lk := true, who := who }) HX.out rfl rfl rfl ⟨(h.slot k x HX.out).2.1.st, (h.slot k x HX.out).2.1.text, hw⟩ (((chg_box w _ _ (fun i => i = x.ad)).setCell (fun _ => rfl) _).setCell (fun _ => rfl) _) ?_ _
  rw [blk_setCell (blk_setCell (blk_box HB.out _) _)]
  rfl

theorem absent_zero (w : World) : Calls Tryz.prog 104 #[.int .u64 0, .bool true] w fun e w' => e = .returned (.int .u64 (wd 0 false true)) ∧ w = w' := absent_wd 0 false false true w Sm.zero

/-- a store of which nothing was taken yet -/
def Sto.made (w w1 : World) (rm : Nat) : Sto := { sb := w1.heap.size + 1, ab := w.heap.size + 2, bg := w.heap.size, bt := w.heap.size + 1, mb := w1.heap.size, v := .slice none 0 0, ar := Ar.made rm, c := 0, f := fun _ => none }
def NewPost (w : World) (rm : Nat) (e : Ending) (w' : World) : Prop := ∃ w1, e = .returned (.tuple #[.pointer (some ⟨(Sto.made w w1 rm).sb, 0, none⟩), .int .i64 0]) ∧ StS w w' (Sto.made w w1 rm)
theorem new_close {w w1 : World} {rm : Nat} (hA : ArC w1 (w.heap.size + 2) w.heap.size (w.heap.size + 1) (.slice none 0 0) (Ar.made rm) 0) (hb : Below w.heap.size w w1) :
    StS w ((w1.alloc (.map #[] 0)).alloc (.cells #[.pointer (some ⟨w.heap.size + 2, 0, none⟩), .map (some w1.heap.size)] 55)) (Sto.made w w1 rm) := by
  have hz := hA.ltA
  refine ⟨⟨?_, ?_, ?_, ?_, ?_, ?_⟩, ?_, ?_⟩
  · have := heap_new (w1.alloc (.map #[] 0)) (.cells #[.pointer (some ⟨w.heap.size + 2, 0, none⟩), .map (some w1.heap.size)] 55)
    rw [size_alloc] at this
    exact this
  · exact (hA.alloc _).alloc _
  · exact ⟨0, _, (mapR_made w1 Tryz.prog 47).of_block (Below.heap_alloc _ _ _ (by rw [size_alloc]; exact Nat.lt_succ_self _)), rfl, fun k _ => rfl⟩
  · intro k x hx; cases hx
  · intro k k' x x' hx; cases hx
  · have := hA.ltG; have := hA.ltT
    exact ⟨by show w1.heap.size ≠ w.heap.size; omega, by show w1.heap.size ≠ w.heap.size + 1; omega⟩
  · exact (hb.alloc hb.size _).alloc (by rw [size_alloc]; have := hb.size; omega) _
  · have := hb.size
    rintro i (e | e | e | ⟨k, x, hx, _⟩)
    · rw [e]; show w.heap.size ≤ w1.heap.size + 1; omega
    · rw [e]; exact this
    · exact (ArS.made hA hb).own i e
    · cases hx
theorem new_store (rm : Nat) (w : World) (h1 : rm ≤ 1048576) : Calls Tryz.prog 5 #[.int .i64 rm] w (NewPost w rm) := by
  have hmm := @run_makeMap Tryz.prog
  go_enter Tryz.func5, Tryz.ntmps5
  go_wp2_with (go_at_call 24; refine (new_any rm w h1).mono ?_; rintro e w1 ⟨rfl, hA, hb⟩)
  go_ret2
  exact ⟨w1, rfl, new_close hA hb⟩

theorem take_fullB (ab bg bt : Nat) (v : Value) (s : Ar) (c : Nat) (w : World) (h : ArC w ab bg bt v s c) (hs : s.free = []) (hr : s.fresh = s.room) :
    Calls Tryz.prog 109 #[.pointer (some ⟨ab, 0, none⟩)] w fun e w' => e = .returned (.tuple #[.agg #[.int .i64 0, .int .i64 0], .int .i64 50]) ∧ Below w.heap.size w w' := by
  have hrow := h.row
  rw [hs] at hrow
  obtain ⟨a, cap, rfl⟩ := emptySlice hrow
  have c0 := cell_of_blk h.blk 0
  have c3 := cell_of_blk h.blk 3
  have c4 := cell_of_blk h.blk 4
  simp at c0 c3 c4
  rw [hr] at c4
  exact take_full0 ab s.room a cap w c0 c3 c4 h.ltA

set_option maxRecDepth 100000 in
set_option maxHeartbeats 400000 in
theorem lock_full (s : Sto) (k : Ky) (who : Int) (w : World) (h : StC w s) (hk : k.Ok) (hx : s.f k = none) (h1 : s.ar.free = []) (h2 : s.ar.fresh = s.ar.room) :
    Calls Tryz.prog 85 #[.pointer (some ⟨s.sb, 0, none⟩), .agg #[.int .i64 k.kind, .int .i64 k.a, .int .i64 k.b, .string k.s], .int .i64 who] w fun e w' => e = .returned (.tuple #[.int .u64 0, .int .i64 50]) ∧ Below w.heap.size w w' := by
  obtain ⟨c0, c1, hl, lk0⟩ := h.pre hk
  have lk := lk0 (.cells #[.int .i64 k.kind, .int .i64 k.a, .int .i64 k.b, .string k.s] 47)
  rw [hx] at lk
  simp only [ptrOf, Option.map_none, Option.getD_none] at lk
  have H1 := Lib.hid h1
  have H2 := Lib.hid h2
  have hW : ∀ X n, ArC ((w.alloc X).drewN n) s.ab s.bg s.bt s.v s.ar s.c := fun X n => (h.ar.alloc X).keep (fun _ _ => rfl)
  clear hx lk0 h1 h2 h
  go_enter Tryz.func85, Tryz.ntmps85
  go_wp2
  go_quiet (fail)
  go_wp2_with (go_at_call 109; refine (take_fullB _ _ _ _ _ _ _ (hW _ _) H1.out H2.out).mono ?_; rintro e w1 ⟨rfl, hb⟩)
  go_ret2
  exact ⟨rfl, (((below_drewN ((Below.refl _ _).alloc (Nat.le_refl _) _) _).trans (hb.mono (by simp))).alloc (by have := hb.size; simp at this; omega) _)⟩

def LockPost (w : World) (s : Sto) (k : Ky) (x g who : Int) (e : Ending) (w' : World) : Prop :=
  ∃ (ad : Nat) (v' : Value), StPost w s { s with v := v', ar := s.ar.take, f := setF s.f k (some ⟨ad, x, g, 0, true, true, ⟨#[]⟩, who⟩) } (.tuple #[.int .u64 0, .int .i64 0]) e w'

theorem StC.neS {w : World} {s : Sto} (h : StC w s) : s.sb ≠ s.mb ∧ ¬ arFp s.ab s.bg s.bt s.v s.sb := by
  have hb := h.blk
  refine ⟨?_, ?_⟩
  · intro e; obtain ⟨_, _, ⟨_, ⟨_, _, hm, _⟩, _⟩, _⟩ := h.map; rw [e, hm] at hb; cases hb
  · rintro (e | e | e | e)
    · rw [e, h.ar.blk] at hb; simp at hb
    · obtain ⟨_, _, ⟨_, ⟨_, _, hm, _⟩, _⟩, _⟩ := h.ar.gens; rw [e, hm] at hb; cases hb
    · obtain ⟨_, _, ⟨_, ⟨_, _, hm, _⟩, _⟩, _⟩ := h.ar.taken; rw [e, hm] at hb; cases hb
    · rcases h.ar.row.2 with ⟨h0, _⟩ | ⟨g, cap, cur, h0, _, hg, _⟩
      · rw [h0] at e; simp [Value.ownBlock] at e
      · rw [h0] at e; simp [Value.ownBlock] at e; rw [← e, hg] at hb; simp at hb
theorem StC.neM {w : World} {s : Sto} (h : StC w s) : ¬ arFp s.ab s.bg s.bt s.v s.mb := by
  obtain ⟨_, _, ⟨_, ⟨_, _, hb, _⟩, _⟩, _⟩ := h.map
  rintro (e | e | e | e)
  · rw [e, h.ar.blk] at hb; cases hb
  · exact h.ne.1 e
  · exact h.ne.2 e
  · rcases h.ar.row.2 with ⟨h0, _⟩ | ⟨g, cap, cur, h0, _, hg, _⟩
    · rw [h0] at e; simp [Value.ownBlock] at e
    · rw [h0] at e; simp [Value.ownBlock] at e; rw [← e, hg] at hb; cases hb

theorem lock_close {w w1 w2 W : World} {s : Sto} (h : StC w s) {k : Ky} (hk : k.Ok) (hx : s.f k = none) {x g who : Int} (hw : I64 who) (hr : s.ar.takeRes = (x, g, 0)) {K H : Obj} {nq : Nat} {v1 : Value}
    (hA1 : ArC w1 s.ab s.bg s.bt v1 s.ar.take s.c) (hc1 : Chg ((w.alloc K).drewN nq) w1 (arFp s.ab s.bg s.bt s.v)) (ho1 : ∀ i, v1.ownBlock = some i → s.v.ownBlock = some i ∨ ((w.alloc K).drewN nq).heap.size ≤ i)
    {n : Nat} {gm : Lit → Option Value} (hn : n + s.ar.free.length = s.ar.fresh) (hg : ∀ k, k.Ok → gm k.lit = (s.f k).map Sl.ptr)
    (hW : W.heap = ((w1.alloc H).alloc (.cells #[.int .i64 x, .int .i64 g, .int .u64 (wd 0 false true), .string ⟨#[]⟩, .int .i64 0] 119)).heap) (hWo : Chg w1 W (fun _ => False))
    (m2 : mapR w2 Tryz.prog 47 s.mb (if (gm k.lit).isSome then n else n + 1) (upd gm k.lit (some (.pointer (some ⟨w1.heap.size + 1, 0, none⟩))))) (t2 : W.mapTurned w2 s.mb) :
    LockPost w s k x g who (.returned (.tuple #[.int .u64 0, .int .i64 0])) ((w2.setCell ⟨w1.heap.size + 1, 2, none⟩ (.int .u64 (wd 0 true true))).setCell ⟨w1.heap.size + 1, 4, none⟩ (.int .i64 who)) := by
  have hz1 := hc1.size
  have hz0 : ((w.alloc K).drewN nq).heap.size = w.heap.size + 1 := size_alloc w K
  rw [hz0] at hz1 ho1
  have hzW : W.heap.size = w1.heap.size + 2 := by rw [hW, size_alloc, size_alloc]
  have hz2 := turned_size t2
  have oldW : ∀ i, i < w1.heap.size → W.heap[i]? = w1.heap[i]? := fun i hi => by
    rw [hW, Below.heap_alloc _ _ _ (by rw [size_alloc]; omega), Below.heap_alloc _ _ _ hi]
  have old1 : ∀ i, i < w.heap.size → ¬ arFp s.ab s.bg s.bt s.v i → w1.heap[i]? = w.heap[i]? := fun i hi hn => by
    rw [hc1.block i (by rw [hz0]; omega) hn]
    exact Below.heap_alloc w K i hi
  obtain ⟨w3, hw3⟩ : ∃ w3, w3 = (w2.setCell ⟨w1.heap.size + 1, 2, none⟩ (.int .u64 (wd 0 true true))).setCell ⟨w1.heap.size + 1, 4, none⟩ (.int .i64 who) := ⟨_, rfl⟩
  have e3 : ∀ i, i ≠ w1.heap.size + 1 → w3.heap[i]? = w2.heap[i]? := fun i hi => by
    rw [hw3, Below.heap_setCell _ _ _ _ hi, Below.heap_setCell _ _ _ _ hi]
  have old3 : ∀ i, i < w1.heap.size → i ≠ s.mb → w3.heap[i]? = w1.heap[i]? := fun i hi hm => by
    rw [e3 i (by omega), turned_block t2 hm, oldW i hi]
  have lM := h.ltM
  have lS := h.ltS
  have new3 : w3.heap[w1.heap.size + 1]? = some (Sl.blk ⟨w1.heap.size + 1, x, g, 0, true, true, ⟨#[]⟩, who⟩) := by
    have : w2.heap[w1.heap.size + 1]? = some (.cells #[.int .i64 x, .int .i64 g, .int .u64 (wd 0 false true), .string ⟨#[]⟩, .int .i64 0] 119) := by
      rw [turned_block t2 (by omega), hW]
      have := heap_new (w1.alloc H) (.cells #[.int .i64 x, .int .i64 g, .int .u64 (wd 0 false true), .string ⟨#[]⟩, .int .i64 0] 119)
      rw [size_alloc] at this
      exact this
    rw [hw3, blk_setCell (blk_setCell this _)]
    rfl
  have nM1 : ¬ arFp s.ab s.bg s.bt v1 s.mb := by
    rintro (e | e | e | e)
    · exact h.neM (.inl e)
    · exact h.neM (.inr (.inl e))
    · exact h.neM (.inr (.inr (.inl e)))
    · rcases ho1 _ e with e' | e'
      · exact h.neM (.inr (.inr (.inr e')))
      · omega
  have hgk : gm k.lit = none := by rw [hg k hk, hx]; rfl
  rcases Ar.take_cases h.ar.ok with ⟨_, _, e, _⟩ | ⟨x', e, tk0, tk1, tk2, tk3, tk4, tk5, tk6, tk7, _⟩
  · rw [hr] at e; cases e
  rw [hr] at e
  obtain ⟨rfl, rfl⟩ : x = x' ∧ g = s.ar.gens x' := by simpa using e
  have live_old : ∀ y z, s.ar.live y z = true → s.ar.take.live y z = true ∧ y ≠ x := fun y z hl => by
    unfold Ar.live at hl ⊢
    rw [tk3, tk4]
    simp only [Bool.and_eq_true] at hl
    refine ⟨by simp [hl.1, hl.2], fun e => ?_⟩
    rw [e, tk0] at hl; simp at hl
  rw [← hw3]
  refine ⟨w1.heap.size + 1, v1, rfl, ⟨?_, ?_, ?_, ?_, ?_, h.ne⟩, ?_, ?_⟩
  · exact (old3 _ (by omega) h.neS.1).trans ((old1 _ lS h.neS.2).trans h.blk)
  · exact hA1.keep (fun i hi => old3 i (hA1.lt hi) (fun e => nM1 (e ▸ hi)))
  · refine ⟨_, _, m2.of_block (e3 _ (by omega)), ?_, fun y hy => ?_⟩
    · rw [hgk]; simp; show n + 1 + s.ar.take.free.length = s.ar.take.fresh; omega
    · unfold upd
      by_cases e : y = k
      · subst e; simp [setF_same, Sl.ptr]
      · rw [if_neg (fun e' => e (lit_inj hy hk e')), hg y hy]; simp [setF_other _ _ e]
  · intro y z hz
    by_cases e : y = k
    · subst e
      simp only [setF_same] at hz
      cases hz
      refine ⟨hk, ⟨Sm.zero, Nat.zero_le _, hw⟩, new3, ?_⟩
      show s.ar.take.live x (s.ar.gens x) = true
      unfold Ar.live
      rw [tk3, tk4]; simp
    · simp only [setF_other _ _ e] at hz
      have hs := h.slot y z hz
      have hn := h.neXS hz
      have := h.ltX hz
      exact ⟨hs.1, hs.2.1, (old3 _ (by omega) hn.2.1).trans ((old1 _ this hn.2.2).trans hs.2.2.1), (live_old _ _ hs.2.2.2).1⟩
  · intro y y' z z' hz hz' hne
    by_cases e : y = k
    · subst e
      simp only [setF_same] at hz
      cases hz
      simp only [setF_other _ _ (Ne.symm hne)] at hz'
      have := h.ltX hz'
      refine ⟨?_, fun e => (live_old _ _ (h.slot _ _ hz').2.2.2).2 e.symm⟩
      show w1.heap.size + 1 ≠ _
      omega
    · simp only [setF_other _ _ e] at hz
      by_cases e' : y' = k
      · subst e'
        simp only [setF_same] at hz'
        cases hz'
        have := h.ltX hz
        refine ⟨?_, fun e => (live_old _ _ (h.slot _ _ hz).2.2.2).2 e⟩
        show _ ≠ w1.heap.size + 1
        omega
      · simp only [setF_other _ _ e'] at hz'
        exact h.apart _ _ _ _ hz hz' hne
  · have c1 : Chg w w1 s.fp := (chg_box w K nq s.fp).trans hc1 (fun i _ hi => .inr (.inr (.inl hi)))
    have c2 : Chg w w2 s.fp := (c1.trans hWo (fun _ _ e => e.elim)).turned t2 (fun _ => .inr (.inl rfl))
    rw [hw3]
    exact (c2.setCell (fun e => by have : w1.heap.size + 1 < w.heap.size := e; omega) _).setCell (fun e => by have : w1.heap.size + 1 < w.heap.size := e; omega) _
  · rintro i (e | e | (e | e | e | e) | ⟨y, z, hz, e⟩)
    · exact .inl (.inl e)
    · exact .inl (.inr (.inl e))
    · exact .inl (.inr (.inr (.inl (.inl e))))
    · exact .inl (.inr (.inr (.inl (.inr (.inl e)))))
    · exact .inl (.inr (.inr (.inl (.inr (.inr (.inl e))))))
    · rcases ho1 i e with e' | e'
      · exact .inl (.inr (.inr (.inl (.inr (.inr (.inr e'))))))
      · right; omega
    · by_cases ey : y = k
      · subst ey
        simp only [setF_same] at hz
        cases hz
        right
        have : w1.heap.size + 1 = i := e
        omega
      · simp only [setF_other _ _ ey] at hz
        exact .inl (.inr (.inr (.inr ⟨y, z, hz, e⟩)))

set_option maxRecDepth 100000 in
set_option maxHeartbeats 400000 in
theorem lock_new (s : Sto) (k : Ky) (who : Int) (w : World) (h : StC w s) (hk : k.Ok) (hw : I64 who) (hx : s.f k = none) (x g : Int) (hr : s.ar.takeRes = (x, g, 0)) :
    Calls Tryz.prog 85 #[.pointer (some ⟨s.sb, 0, none⟩), .agg #[.int .i64 k.kind, .int .i64 k.a, .int .i64 k.b, .string k.s], .int .i64 who] w (LockPost w s k x g who) := by
  obtain ⟨c0, c1, hl, lk0⟩ := h.pre hk
  have lk := lk0 (.cells #[.int .i64 k.kind, .int .i64 k.a, .int .i64 k.b, .string k.s] 47)
  rw [hx] at lk
  simp only [ptrOf, Option.map_none, Option.getD_none] at lk
  have HX := Lib.hid hx
  have HR := Lib.hid hr
  have hW : ∀ X n, ArC ((w.alloc X).drewN n) s.ab s.bg s.bt s.v s.ar s.c := fun X n => (h.ar.alloc X).keep (fun _ _ => rfl)
  clear hx lk0 hr
  go_enter Tryz.func85, Tryz.ntmps85
  go_wp2
  go_quiet (fail)
  go_wp2_with fail
  refine (take_to _ _ _ _ _ _ _ _ _ _ (hW _ _) HR.out).mono ?_
  rintro e w1 ⟨rfl, v1, hA1, hc1, ho1⟩
  have hz1 : w.heap.size < w1.heap.size := by have := hc1.size; simp at this; omega
  have hK : w1.heap[w.heap.size]? = some (.cells #[.int .i64 k.kind, .int .i64 k.a, .int .i64 k.b, .string k.s] 47) :=
    (hc1.block _ (by simp) (fun e => by have := h.ar.lt e; omega)).trans (heap_new w _)
  have hS : w1.heap[s.sb]? = _ := (hc1.block _ (by simp; omega) h.neS.2).trans ((Below.heap_alloc w _ _ h.ltS).trans h.blk)
  have hM : w1.heap[s.mb]? = w.heap[s.mb]? := (hc1.block _ (by have := h.ltM; simp; omega) h.neM).trans (Below.heap_alloc w _ _ h.ltM)
  have k0 := cell_of_blk hK 0
  have k1 := cell_of_blk hK 1
  have k2 := cell_of_blk hK 2
  have k3 := cell_of_blk hK 3
  have d1 := cell_of_blk hS 1
  simp at k0 k1 k2 k3 d1
  have ls1 : s.sb < w1.heap.size := by omega
  obtain ⟨n, gm, m0, hn, hg⟩ := h.map
  have lm1 : s.mb < w1.heap.size := by have := h.ltM; omega
  have hnl : n < maxLen := by have := h.ar.ok.fresh; have := h.ar.ok.room; unfold maxLen; omega
  have m1 : ∀ A B : Obj, mapR ((w1.alloc A).alloc B) Tryz.prog 47 s.mb n gm := fun A B => m0.of_block ((Below.heap_alloc (w1.alloc A) B _ (by rw [size_alloc]; omega)).trans ((Below.heap_alloc w1 A _ lm1).trans hM))
  have HM := Lib.hid hM
  have HN := Lib.hid hn
  have HG := Lib.hid hg
  clear hM hn hg hK hS c0 c1 hl lk
  go_wp2_with fail
  go_region_with (go_at_call 104; refine (absent_zero _).mono ?_; rintro e w' ⟨rfl, rfl⟩)
  all_goals
    go_wp2_with fail
    refine wp_region_still_tail 6 (by kernel_rfl) (by kernel_rfl) ?_
    change wpStill _ _ (World.drew _) (fun a' => wpList _ _ _ _ a' (World.drew _)) _ _
    simp only [List.take_succ_cons, List.take_zero, List.drop_succ_cons, List.drop_zero]
    repeat still_step
    refine wpStill_nil ?_
    go_wp2_with (first | (at_mapUpdate; go_must (refine wpList_store _ rfl _ _ _ 53 rfl 47 88 lawKey Tryz.underlying53 s.mb n gm rfl ((m1 _ _).of_block rfl) hnl _ (.pointer (some ⟨w1.heap.size + 1, 0, none⟩)) _ rfl rfl (keyK hk) ?_; intro w2 m2 t2 c2 f2 z2)) | (go_at_call 90; refine (lock_wd 0 false true _ Sm.zero).mono ?_; rintro e w' ⟨rfl, rfl⟩) | (go_at_call 80; refine (stamp_wd 0 true true _ Sm.zero).mono ?_; rintro e w' ⟨rfl, rfl⟩))
    go_ret2
    refine lock_close (H := .cells #[.int .i64 x, .int .i64 g] 117) h hk HX.out hw HR.out hA1 hc1 ho1 HN.out HG.out ?_ ?_ m2 t2
    · rfl
    · exact ((((Chg.refl w1 _).alloc _).alloc _).drew).drew
end Go.Proofs.YtkhkdedjffkhdaaGreat
namespace Go.Proofs.YtkhkdedjffkhdaaGreat
open Go.RowKit Go.Maps

theorem stamp_sm (t : Nat) (w : World) (h : Sm t) : Calls Tryz.prog 80 #[.int .u64 t] w fun e w' => e = .returned (.int .u64 t) ∧ w = w' := by
  unfold Sm at h
  refine (stamp_num t w (by omega)).mono ?_
  rintro e w' ⟨rfl, rfl⟩
  exact ⟨by rw [Nat.mod_eq_of_lt h], rfl⟩
theorem absent_num (t : Nat) (is : Bool) (w : World) (h : Sm t) : Calls Tryz.prog 104 #[.int .u64 t, .bool is] w fun e w' => e = .returned (.int .u64 (wd t false is)) ∧ w = w' := by
  have := absent_wd t false false is w h
  rw [show wd t false false = t by unfold wd; simp] at this
  exact this

set_option maxRecDepth 100000 in
set_option maxHeartbeats 1000000 in
theorem install_ok (s : Sto) (k : Ky) (x : Sl) (who : Int) (t : Nat) (vw : Int) (vs : ByteArray) (vh : Bool) (w : World) (h : StC w s) (hk : k.Ok) (hx : s.f k = some x) (hlk : x.lk = true) (hwho : x.who = who) (ht : Sm t) (hst : x.st < t) (hv : vh = true ∨ (vh = false ∧ vs = ⟨#[]⟩)) (hvs : vs.size ≤ maxLen) :
    Calls Tryz.prog 89 #[.pointer (some ⟨s.sb, 0, none⟩), .agg #[.int .i64 k.kind, .int .i64 k.a, .int .i64 k.b, .string k.s], .int .i64 who, .int .u64 t, .agg #[.int .u64 vw, .string vs, .bool vh]] w (StPost w s (s.put k { x with st := t, lk := false, ab := !vh, text := vs }) (.int .i64 0)) := by
  have hW := fun X Y => (h.alloc X).alloc Y
  have HH : Hid (s.holds k who = true) := Lib.hid (by unfold Sto.holds; rw [hx]; simp [hlk, hwho])
  have HX := Lib.hid hx
  have HT := Lib.hid ht
  have HL := Lib.hid hlk
  have hst' : ¬ ((t : Int) ≤ (x.st : Int)) := by omega
  have hst2 : decide (t ≤ x.st) = false := by simpa using hst
  have HSm := Lib.hid (h.slot k x hx).2.1.st
  clear hlk ht hx
  go_enter Tryz.func89, Tryz.ntmps89
  go_wp2_with fail
  refine (holds_any s k who _ (hW _ _) hk).mono ?_
  rintro e w1 ⟨rfl, hb⟩
  rw [HH.out]
  have hS1 : StC w1 s := (hW _ _).stay hb
  obtain ⟨d0, d1, hl1, _⟩ := hS1.pre hk
  have lk : ∀ nq, (Instr.lookup 53 (.map (some s.mb)) (.agg #[.int .i64 k.kind, .int .i64 k.a, .int .i64 k.b, .string k.s]) false).run Tryz.prog (w1.drewN nq) = .ok (ptrOf (s.f k)) (w1.drewN nq) := fun nq => hS1.look hk rfl
  rw [HX.out] at lk
  simp only [ptrOf, Option.map_some, Option.getD_some, Sl.ptr] at lk
  have hK : w1.heap[w.heap.size]? = some (.cells #[.int .i64 k.kind, .int .i64 k.a, .int .i64 k.b, .string k.s] 47) := (hb.block _ (by simp; omega)).trans ((Below.heap_alloc _ _ _ (by simp)).trans (heap_new w _))
  have hV : w1.heap[w.heap.size + 1]? = some (.cells #[.int .u64 vw, .string vs, .bool vh] 96) := by
    have e := heap_new (w.alloc (.cells #[.int .i64 k.kind, .int .i64 k.a, .int .i64 k.b, .string k.s] 47)) (.cells #[.int .u64 vw, .string vs, .bool vh] 96)
    rw [size_alloc] at e
    exact (hb.block _ (by simp)).trans e
  have k0 := cell_of_blk hK 0
  have k1 := cell_of_blk hK 1
  have k2 := cell_of_blk hK 2
  have k3 := cell_of_blk hK 3
  have v1 := cell_of_blk hV 1
  have v2 := cell_of_blk hV 2
  simp at k0 k1 k2 k3 v1 v2
  obtain ⟨_, _, c2, c3, c4, hxl⟩ := hS1.cells HX.out
  rw [HL.out] at c2
  have hbx := (hS1.slot k x HX.out).2.2.1
  have f2 := frozen_of_blk hbx 2
  have f3 := frozen_of_blk hbx 3
  have hz1 : w.heap.size + 1 < w1.heap.size := (Array.getElem?_eq_some_iff.1 hV).1
  have HBX := Lib.hid hbx
  have HB := Lib.hid hb
  clear hK hV hbx hb d0
  have hfin : ∀ w2, Chg w1 w2 (fun i => i = x.ad) → w2.heap[x.ad]? = some (Sl.blk { x with st := t, lk := false, ab := !vh, text := vs }) → StPost w s (s.put k { x with st := t, lk := false, ab := !vh, text := vs }) (.int .i64 0) (.returned (.int .i64 0)) w2 := by
    intro w2 hc hbb
    have c0 : Chg w w1 (fun i => i = x.ad) := (((Chg.refl w _).alloc _).alloc _).trans (Chg.of_below HB.out _) (fun _ _ e => e)
    exact h.put_post (x' := { x with st := t, lk := false, ab := !vh, text := vs }) HX.out rfl rfl rfl ⟨HT.out, hvs, (h.slot k x HX.out).2.1.who⟩ (c0.trans hc (fun _ _ e => e)) hbb _
  have HF := Lib.hid hfin
  clear hfin
  have hvs2 := Lib.hid hvs
  clear hvs
  rcases hv with rfl | ⟨hvh, rfl⟩
  · go_wp2_with fail
    go_quiet (fail)
    go_wp2_with (go_at_call 80; (first | (refine (stamp_wd x.st true x.ab _ HSm.out).mono ?_; rintro e w' ⟨rfl, rfl⟩) | (refine (stamp_sm t _ HT.out).mono ?_; rintro e w' ⟨rfl, rfl⟩)))
    all_goals
      go_region_with (go_at_call 104; refine (absent_num t _ _ HT.out).mono ?_; rintro e w' ⟨rfl, rfl⟩)
    all_goals
      go_wp2
      go_ret
      refine HF.out _ ?_ ?_
      · exact ((((Chg.refl w1 (fun i => i = x.ad)).drewN _).setCell (fun _ => rfl) _).setCell (fun _ => rfl) _)
      · rw [blk_setCell (blk_setCell (show (World.drewN w1 _).heap[x.ad]? = _ from HBX.out) _)]
        rfl
  · subst hvh
    go_wp2_with fail
    go_quiet (fail)
    go_wp2_with (go_at_call 80; (first | (refine (stamp_wd x.st true x.ab _ HSm.out).mono ?_; rintro e w' ⟨rfl, rfl⟩) | (refine (stamp_sm t _ HT.out).mono ?_; rintro e w' ⟨rfl, rfl⟩)))
    all_goals
      go_region_with (go_at_call 104; refine (absent_num t _ _ HT.out).mono ?_; rintro e w' ⟨rfl, rfl⟩)
    all_goals
      go_wp2
      go_ret
      refine HF.out _ ?_ ?_
      · exact ((((Chg.refl w1 (fun i => i = x.ad)).drewN _).setCell (fun _ => rfl) _).setCell (fun _ => rfl) _)
      · rw [blk_setCell (blk_setCell (show (World.drewN w1 _).heap[x.ad]? = _ from HBX.out) _)]
        rfl
end Go.Proofs.YtkhkdedjffkhdaaGreat
namespace Go.Proofs.YtkhkdedjffkhdaaGreat
open Go.RowKit Go.Maps

/-- a cell: its stamp, is it locked, is it absent, its text, who held it last -/
structure Cl where
  st : Nat
  lk : Bool
  ab : Bool
  text : ByteArray
  who : Int
def Sl.cl (x : Sl) : Cl := ⟨x.st, x.lk, x.ab, x.text, x.who⟩
def Sto.g (s : Sto) (k : Ky) : Option Cl := (s.f k).map Sl.cl
/-- how many cells there are -/
def Sto.cnt (s : Sto) : Nat := s.ar.fresh - s.ar.free.length
open Classical in
noncomputable def setG (f : Ky → Option Cl) (k : Ky) (o : Option Cl) : Ky → Option Cl := fun x => if x = k then o else f x
theorem setG_same (f : Ky → Option Cl) (k : Ky) (o : Option Cl) : setG f k o k = o := by simp [setG]
theorem setG_other (f : Ky → Option Cl) {k k' : Ky} (o : Option Cl) (h : k' ≠ k) : setG f k o k' = f k' := by simp [setG, h]
theorem setF_g (s : Sto) (k : Ky) (o : Option Sl) (s' : Sto) (h : s'.f = setF s.f k o) : s'.g = setG s.g k (o.map Sl.cl) := by
  funext y
  unfold Sto.g
  rw [h]
  by_cases e : y = k
  · subst e; rw [setF_same, setG_same]
  · rw [setF_other _ _ e, setG_other _ _ e]
theorem Sto.g_none {s : Sto} {k : Ky} (h : s.g k = none) : s.f k = none := by simpa [Sto.g] using h
theorem Sto.g_some {s : Sto} {k : Ky} {x : Cl} (h : s.g k = some x) : ∃ y, s.f k = some y ∧ y.cl = x := by simpa [Sto.g] using h
theorem StC.cnt_le {w : World} {s : Sto} (h : StC w s) : s.cnt ≤ s.ar.room ∧ s.cnt + s.ar.free.length = s.ar.fresh := by
  obtain ⟨n, g, _, hn, _⟩ := h.map
  have := h.ar.ok.fresh
  unfold Sto.cnt
  omega

/-- a block outside a store -/
structure Bx (w : World) (s : Sto) (b : Nat) (X : Obj) : Prop where
  at' : w.heap[b]? = some X
  out : ¬ s.fp b
section
variable {w w' : World} {s s' : Sto} {b : Nat} {X : Obj}
theorem Bx.lt (h : Bx w s b X) : b < w.heap.size := (Array.getElem?_eq_some_iff.1 h.at').1
theorem Bx.new (h : StC w s) (X : Obj) : Bx (w.alloc X) s w.heap.size X := ⟨heap_new _ _, fun hk => by have := h.lt hk; omega⟩
theorem Bx.alloc (h : Bx w s b X) (Y : Obj) : Bx (w.alloc Y) s b X := ⟨(Below.heap_alloc _ _ _ h.lt).trans h.at', h.out⟩
theorem Bx.below (h : Bx w s b X) (hb : Below w.heap.size w w') : Bx w' s b X := ⟨(hb.block _ h.lt).trans h.at', h.out⟩
theorem Bx.drewN (h : Bx w s b X) (n : Nat) : Bx (w.drewN n) s b X := ⟨h.at', h.out⟩
theorem Bx.drew (h : Bx w s b X) : Bx w.drew s b X := ⟨h.at', h.out⟩
theorem Bx.step (h : Bx w s b X) (hc : Chg w w' s.fp) (ho : ∀ i, s'.fp i → s.fp i ∨ w.heap.size ≤ i) : Bx w' s' b X :=
  ⟨(hc.block _ h.lt h.out).trans h.at', fun hk => by
    rcases ho b hk with e | e
    · exact h.out e
    · have := h.lt; omega⟩
theorem Bx.cell {cs : Array Value} {t : TypeId} {z : Nat × Nat} (h : Bx w s b (.cells cs t z)) (i : Nat) : w.cell? ⟨b, i, none⟩ = cs[i]? := cell_of_blk h.at' i
end

/-- what a call that writes leaves: its answer, a new state of the store, its cells and how many there are -/
structure GPost (w : World) (s s' : Sto) (g : Ky → Option Cl) (cnt c : Nat) (w' : World) : Prop where
  st : StC w' s'
  chg : Chg w w' s.fp
  fp : ∀ i, s'.fp i → s.fp i ∨ w.heap.size ≤ i
  sb : s'.sb = s.sb
  room : s'.ar.room = s.ar.room
  g : s'.g = g
  cnt : s'.cnt = cnt
  c : s'.c = c
def NewG (w : World) (rm : Nat) (e : Ending) (w' : World) : Prop := ∃ s : Sto, e = .returned (.tuple #[.pointer (some ⟨s.sb, 0, none⟩), .int .i64 0]) ∧ StS w w' s ∧ s.g = (fun _ => none) ∧ s.cnt = 0 ∧ s.c = 0 ∧ s.ar.room = rm
theorem new_g (rm : Nat) (w : World) (h1 : rm ≤ 1048576) : Calls Tryz.prog 5 #[.int .i64 rm] w (NewG w rm) := by
  refine (new_store rm w h1).mono ?_
  rintro e w' ⟨w1, rfl, hS⟩
  exact ⟨_, rfl, hS, rfl, rfl, rfl, rfl⟩

/-- what Read answers of a cell -/
def readV : Option Cl → Value
  | none => .tuple #[.agg #[.int .u64 0, .string ⟨#[]⟩, .bool false], .int .i64 0]
  | some x => if x.lk then .tuple #[.agg #[.int .u64 0, .string ⟨#[]⟩, .bool false], .int .i64 60] else .tuple #[.agg #[.int .u64 x.st, .string x.text, .bool (!x.ab)], .int .i64 0]
def stillV (o : Option Cl) (who vw : Int) (vh : Bool) : Bool := match o with
  | none => !vh
  | some x => if x.lk = true ∧ x.who ≠ who then false else (x.ab == !vh) && ((x.st : Int) == vw || (!vh && ((x.st : Int) == 0)))
def holdsV (o : Option Cl) (who : Int) : Bool := match o with | none => false | some x => x.lk && (x.who == who)
theorem Sto.holds_g (s : Sto) (k : Ky) (who : Int) : s.holds k who = holdsV (s.g k) who := by
  unfold Sto.holds Sto.g holdsV
  cases s.f k <;> rfl

theorem read_g (s : Sto) (b : Nat) (k : Ky) (w : World) (h : StC w s) (hb : s.sb = b) (hk : k.Ok) :
    Calls Tryz.prog 37 #[.pointer (some ⟨b, 0, none⟩), .agg #[.int .i64 k.kind, .int .i64 k.a, .int .i64 k.b, .string k.s]] w fun e w' => e = .returned (readV (s.g k)) ∧ Below w.heap.size w w' := by
  subst hb
  have := read_any s k w h hk
  have e : s.read k = readV (s.g k) := by unfold Sto.read Sto.g readV; cases s.f k <;> rfl
  rw [e] at this
  exact this
theorem still_g (s : Sto) (b : Nat) (k : Ky) (who vw : Int) (vs : ByteArray) (vh : Bool) (w : World) (h : StC w s) (hb : s.sb = b) (hk : k.Ok) :
    Calls Tryz.prog 88 #[.pointer (some ⟨b, 0, none⟩), .agg #[.int .i64 k.kind, .int .i64 k.a, .int .i64 k.b, .string k.s], .int .i64 who, .agg #[.int .u64 vw, .string vs, .bool vh]] w fun e w' => e = .returned (.bool (stillV (s.g k) who vw vh)) ∧ Below w.heap.size w w' := by
  subst hb
  have := still_any s k who vw vs vh w h hk
  have e : s.still k who vw vh = stillV (s.g k) who vw vh := by unfold Sto.still Sto.g stillV; cases s.f k <;> rfl
  rw [e] at this
  exact this
theorem lock_busy_g (s : Sto) (b : Nat) (k : Ky) (x : Cl) (who : Int) (w : World) (h : StC w s) (hb : s.sb = b) (hk : k.Ok) (hg : s.g k = some x) (hl : x.lk = true) :
    Calls Tryz.prog 85 #[.pointer (some ⟨b, 0, none⟩), .agg #[.int .i64 k.kind, .int .i64 k.a, .int .i64 k.b, .string k.s], .int .i64 who] w fun e w' => e = .returned (.tuple #[.int .u64 0, .int .i64 60]) ∧ Below w.heap.size w w' := by
  subst hb
  obtain ⟨y, hy, rfl⟩ := Sto.g_some hg
  exact lock_busy s k y who w h hk hy hl
theorem lock_full_g (s : Sto) (b : Nat) (k : Ky) (who : Int) (w : World) (h : StC w s) (hb : s.sb = b) (hk : k.Ok) (hg : s.g k = none) (hc : s.cnt = s.ar.room) :
    Calls Tryz.prog 85 #[.pointer (some ⟨b, 0, none⟩), .agg #[.int .i64 k.kind, .int .i64 k.a, .int .i64 k.b, .string k.s], .int .i64 who] w fun e w' => e = .returned (.tuple #[.int .u64 0, .int .i64 50]) ∧ Below w.heap.size w w' := by
  subst hb
  have h1 := h.cnt_le
  have h2 := h.ar.ok.fresh
  exact lock_full s k who w h hk (Sto.g_none hg) (List.eq_nil_of_length_eq_zero (by omega)) (by omega)

def PostG (w : World) (s : Sto) (g : Ky → Option Cl) (cnt c : Nat) (r : Value) (e : Ending) (w' : World) : Prop := e = .returned r ∧ ∃ s', GPost w s s' g cnt c w'

theorem put_g {w w' : World} {s : Sto} {k : Ky} {y y' : Sl} {r : Value} {e : Ending} (h : StPost w s (s.put k y') r e w') (hy : y'.cl = y.cl) : PostG w s (setG s.g k (some y.cl)) s.cnt s.c r e w' :=
  ⟨h.1, _, ⟨h.2.1, h.2.2.1, h.2.2.2, rfl, rfl, by rw [setF_g s k (some y') _ rfl, Option.map_some, hy], rfl, rfl⟩⟩

theorem lock_free_g (s : Sto) (b : Nat) (k : Ky) (x : Cl) (who : Int) (w : World) (h : StC w s) (hb : s.sb = b) (hk : k.Ok) (hw : I64 who) (hg : s.g k = some x) (hl : x.lk = false) :
    Calls Tryz.prog 85 #[.pointer (some ⟨b, 0, none⟩), .agg #[.int .i64 k.kind, .int .i64 k.a, .int .i64 k.b, .string k.s], .int .i64 who] w (PostG w s (setG s.g k (some { x with lk := true, who := who })) s.cnt s.c (.tuple #[.int .u64 x.st, .int .i64 0])) := by
  subst hb
  obtain ⟨y, hy, rfl⟩ := Sto.g_some hg
  refine (lock_free s k y who w h hk hw hy hl).mono ?_
  intro e w' hp
  exact put_g (y := { y with lk := true, who := who }) hp rfl
theorem lock_new_g (s : Sto) (b : Nat) (k : Ky) (who : Int) (w : World) (h : StC w s) (hb : s.sb = b) (hk : k.Ok) (hw : I64 who) (hg : s.g k = none) (hc : s.cnt < s.ar.room) :
    Calls Tryz.prog 85 #[.pointer (some ⟨b, 0, none⟩), .agg #[.int .i64 k.kind, .int .i64 k.a, .int .i64 k.b, .string k.s], .int .i64 who] w (PostG w s (setG s.g k (some ⟨0, true, true, ⟨#[]⟩, who⟩)) (s.cnt + 1) s.c (.tuple #[.int .u64 0, .int .i64 0])) := by
  subst hb
  have h1 := h.cnt_le
  rcases Ar.take_cases h.ar.ok with ⟨e1, e2, _, _⟩ | ⟨x, e, _, _, _, _, _, hr, hl, _, _⟩
  · rw [e1] at h1; simp at h1; omega
  refine (lock_new s k who w h hk hw (Sto.g_none hg) x _ e).mono ?_
  rintro e w' ⟨ad, v', hp⟩
  have := hp.2.1.cnt_le
  refine ⟨hp.1, _, ⟨hp.2.1, hp.2.2.1, hp.2.2.2, rfl, hr, by rw [setF_g s k _ _ rfl]; rfl, ?_, rfl⟩⟩
  unfold Sto.cnt at *
  dsimp only at *
  omega
theorem install_g (s : Sto) (b : Nat) (k : Ky) (x : Cl) (who : Int) (t : Nat) (vw : Int) (vs : ByteArray) (vh : Bool) (w : World) (h : StC w s) (hb : s.sb = b) (hk : k.Ok) (hg : s.g k = some x) (hlk : x.lk = true) (hwho : x.who = who) (ht : Sm t) (hst : x.st < t) (hv : vh = true ∨ (vh = false ∧ vs = ⟨#[]⟩)) (hvs : vs.size ≤ maxLen) :
    Calls Tryz.prog 89 #[.pointer (some ⟨b, 0, none⟩), .agg #[.int .i64 k.kind, .int .i64 k.a, .int .i64 k.b, .string k.s], .int .i64 who, .int .u64 t, .agg #[.int .u64 vw, .string vs, .bool vh]] w (PostG w s (setG s.g k (some { x with st := t, lk := false, ab := !vh, text := vs })) s.cnt s.c (.int .i64 0)) := by
  subst hb
  obtain ⟨y, hy, rfl⟩ := Sto.g_some hg
  refine (install_ok s k y who t vw vs vh w h hk hy hlk hwho ht hst hv hvs).mono ?_
  intro e w' hp
  exact put_g (y := { y with st := t, lk := false, ab := !vh, text := vs }) hp rfl
end Go.Proofs.YtkhkdedjffkhdaaGreat
