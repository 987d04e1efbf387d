/- The store of package cell: the functions that only read. Conditions: each contract's own premises. -/
import Derived.Test.YtaanohgkdpohhaaCell2
namespace Go.Proofs.Ytaanohgkdpohhaa
open Go.RowKit Go.Maps

/-- what a walk needs of a store ahead of a call that boxes the key -/
theorem StC.pre {w : World} {s : Sto} (h : StC w s) {k : Ky} (hk : k.Ok) : w.cell? ⟨s.sb, 0, none⟩ = some (.pointer (some ⟨s.ab, 0, none⟩)) ∧ w.cell? ⟨s.sb, 1, none⟩ = some (.map (some s.mb)) ∧ s.sb < w.heap.size ∧
    ∀ (X : Obj) (nq : Nat), (Instr.lookup 40 (.map (some s.mb)) (.agg #[.int .i64 k.kind, .int .i64 k.a, .int .i64 k.b, .string k.s]) false).run Try.prog ((w.alloc X).drewN nq) = .ok (ptrOf (s.f k)) ((w.alloc X).drewN nq) :=
  ⟨by rw [cell_of_blk h.blk]; rfl, by rw [cell_of_blk h.blk]; rfl, h.ltS, fun X _ => h.look hk (Below.heap_alloc w X _ h.ltM)⟩
theorem StC.cells {w : World} {s : Sto} (h : StC w s) {k : Ky} {x : Sl} (hx : s.f k = some x) : w.cell? ⟨x.ad, 0, none⟩ = some (.int .i64 x.hs) ∧ w.cell? ⟨x.ad, 1, none⟩ = some (.int .i64 x.hg) ∧ w.cell? ⟨x.ad, 2, none⟩ = some (.int .u64 (wd x.st x.lk x.ab)) ∧ w.cell? ⟨x.ad, 3, none⟩ = some (.string x.text) ∧ w.cell? ⟨x.ad, 4, none⟩ = some (.int .i64 x.who) ∧ x.ad < w.heap.size := by
  have hb := (h.slot k x hx).2.2.1
  refine ⟨?_, ?_, ?_, ?_, ?_, h.ltX hx⟩ <;> rw [cell_of_blk hb] <;> rfl

theorem cell_box {w : World} {X : Obj} {a i : Nat} {v : Value} (hl : a < w.heap.size) (hc : w.cell? ⟨a, i, none⟩ = some v) (n : Nat) : ((w.alloc X).drewN n).cell? ⟨a, i, none⟩ = some v :=
  (World.cell?_of_block (a := ⟨a, i, none⟩) (w' := (w.alloc X).drewN n) (w := w) (Below.heap_alloc w X _ hl)).trans hc

/-- does one hold a cell? -/
def Sto.holds (s : Sto) (k : Ky) (who : Int) : Bool := match s.f k with | none => false | some x => x.lk && (x.who == who)

set_option maxHeartbeats 400000 in
theorem holds_any (s : Sto) (k : Ky) (who : Int) (w : World) (h : StC w s) (hk : k.Ok) :
    Calls Try.prog 81 #[.pointer (some ⟨s.sb, 0, none⟩), .agg #[.int .i64 k.kind, .int .i64 k.a, .int .i64 k.b, .string k.s], .int .i64 who] w fun e w' => e = .returned (.bool (s.holds k who)) ∧ Below w.heap.size w w' := by
  obtain ⟨c0, c1, hl, lk0⟩ := h.pre hk
  have lk := lk0 (.cells #[.int .i64 k.kind, .int .i64 k.a, .int .i64 k.b, .string k.s] 32)
  clear c0 lk0
  unfold Sto.holds
  cases hx : s.f k with
  | none =>
    rw [hx] at lk
    simp only [ptrOf, Option.map_none, Option.getD_none] at lk
    clear h hx
    go_enter Try.func81, Try.ntmps81
    go_wp2
    go_quiet (fail)
    go_wp2
    go_ret
    exact ⟨rfl, below_drewN ((Below.refl _ _).alloc (Nat.le_refl _) _) _⟩
  | some x =>
    rw [hx] at lk
    simp only [ptrOf, Option.map_some, Option.getD_some, Sl.ptr] at lk
    obtain ⟨_, _, c2, _, c4, hxl⟩ := h.cells hx
    have hs := (h.slot k x hx).2.1.st
    clear h hx
    cases hlk : x.lk
    · rw [hlk] at c2
      go_enter Try.func81, Try.ntmps81
      go_wp2
      go_quiet (fail)
      go_wp2_with (go_at_call 82; refine (locked_any _ _ _ _ _ hs (cell_box hxl c2 _)).mono ?_; rintro e w' ⟨rfl, rfl⟩)
      go_ret
      exact ⟨by rw [hlk]; rfl, below_drewN ((Below.refl _ _).alloc (Nat.le_refl _) _) _⟩
    · rw [hlk] at c2
      go_enter Try.func81, Try.ntmps81
      go_wp2
      go_quiet (fail)
      go_wp2_with (go_at_call 82; refine (locked_any _ _ _ _ _ hs (cell_box hxl c2 _)).mono ?_; rintro e w' ⟨rfl, rfl⟩)
      go_ret
      exact ⟨by rw [hlk]; rfl, below_drewN ((Below.refl _ _).alloc (Nat.le_refl _) _) _⟩

theorem below_box2 (w : World) (X Y : Obj) (n : Nat) : Below w.heap.size w (((w.alloc X).alloc Y).drewN n) := below_drewN (((Below.refl _ _).alloc (Nat.le_refl _) _).alloc (by rw [size_alloc]; omega) _) _
theorem bcell {W w1 : World} (hb : Below W.heap.size W w1) : (∀ b o, b < W.heap.size → w1.cell? ⟨b, o, none⟩ = W.cell? ⟨b, o, none⟩) ∧ (∀ b o, b < W.heap.size → w1.frozen? ⟨b, o, none⟩ = W.frozen? ⟨b, o, none⟩) :=
  ⟨fun b o h => hb.cell (p := ⟨b, o, none⟩) h, fun b o h => hb.frozen (p := ⟨b, o, none⟩) h⟩
theorem StC.pre2 {w : World} {s : Sto} (h : StC w s) {k : Ky} (hk : k.Ok) (X Y : Obj) (nq : Nat) :
    (Instr.lookup 40 (.map (some s.mb)) (.agg #[.int .i64 k.kind, .int .i64 k.a, .int .i64 k.b, .string k.s]) false).run Try.prog (((w.alloc X).alloc Y).drewN nq) = .ok (ptrOf (s.f k)) (((w.alloc X).alloc Y).drewN nq) :=
  h.look hk ((Below.heap_alloc (w.alloc X) Y _ (by have := h.ltM; rw [size_alloc]; omega)).trans (Below.heap_alloc w X _ h.ltM))
theorem cell_box2 {w : World} {X Y : Obj} {a i : Nat} {v : Value} (hl : a < w.heap.size) (hc : w.cell? ⟨a, i, none⟩ = some v) (n : Nat) : (((w.alloc X).alloc Y).drewN n).cell? ⟨a, i, none⟩ = some v :=
  (World.cell?_of_block (a := ⟨a, i, none⟩) (w' := ((w.alloc X).alloc Y).drewN n) (w := w) ((Below.heap_alloc (w.alloc X) Y a (by rw [size_alloc]; omega)).trans (Below.heap_alloc w X a hl))).trans hc

/-- what Read answers -/
def Sto.read (s : Sto) (k : Ky) : Value := match s.f k with
  | none => .tuple #[.agg #[.int .u64 0, .string ⟨#[]⟩, .bool false], .int .i64 0]
  | some x => if x.lk then .tuple #[.agg #[.int .u64 0, .string ⟨#[]⟩, .bool false], .int .i64 60] else .tuple #[.agg #[.int .u64 x.st, .string x.text, .bool (!x.ab)], .int .i64 0]

set_option maxHeartbeats 400000 in
theorem read_any (s : Sto) (k : Ky) (w : World) (h : StC w s) (hk : k.Ok) :
    Calls Try.prog 23 #[.pointer (some ⟨s.sb, 0, none⟩), .agg #[.int .i64 k.kind, .int .i64 k.a, .int .i64 k.b, .string k.s]] w fun e w' => e = .returned (s.read k) ∧ Below w.heap.size w w' := by
  obtain ⟨_, c1, hl, _⟩ := h.pre hk
  have lk := h.pre2 hk (.cells #[.int .i64 k.kind, .int .i64 k.a, .int .i64 k.b, .string k.s] 32) (.cells #[.int .u64 0, .string ⟨#[]⟩, .bool false] 36)
  have hB : ∀ X Y n, Below w.heap.size w (((w.alloc X).alloc Y).drewN n) := fun X Y n => below_drewN (((Below.refl _ _).alloc (Nat.le_refl _) _).alloc (by rw [size_alloc]; omega) _) _
  have HB := Lib.hid hB
  clear hB
  unfold Sto.read
  cases hx : s.f k with
  | none =>
    rw [hx] at lk
    simp only [ptrOf, Option.map_none, Option.getD_none] at lk
    clear h hx
    go_enter Try.func23, Try.ntmps23
    go_wp2
    go_quiet (fail)
    go_wp2
    refine bodyPost_ret (v := .tuple #[.agg #[.int .u64 0, .string ⟨#[]⟩, .bool false], .int .i64 0]) (by simp [results, Try.results23, go_sem]) rfl ⟨rfl, ?_⟩
    exact (((HB.out _ _ _).setCell (Nat.le_succ _) _).setCell (Nat.le_succ _) _).setCell (Nat.le_succ _) _
  | some x =>
    rw [hx] at lk
    simp only [ptrOf, Option.map_some, Option.getD_some, Sl.ptr] at lk
    obtain ⟨_, _, c2, c3, _, hxl⟩ := h.cells hx
    have hs := (h.slot k x hx).2.1.st
    clear h hx
    cases hlk : x.lk
    · rw [hlk] at c2
      simp only [hlk, Bool.false_eq_true, if_false]
      clear hlk
      go_enter Try.func23, Try.ntmps23
      go_wp2
      go_quiet (fail)
      go_wp2_with (first | (go_at_call 82; refine (locked_any _ _ _ _ _ hs (cell_box2 hxl c2 _)).mono ?_; rintro e w' ⟨rfl, rfl⟩) | (go_at_call 83; refine (seen_any _ _ _ _ _ _ hs (by simp; omega) (cell_box2 hxl c2 _) (cell_box2 hxl c3 _)).mono ?_; rintro e w1 ⟨rfl, hb⟩; obtain ⟨hc, hf⟩ := bcell hb))
      have hz := hb.size
      simp at hz
      refine bodyPost_ret (v := .tuple #[.agg #[.int .u64 x.st, .string x.text, .bool (!x.ab)], .int .i64 0]) (by simp [results, Try.results23, go_sem, hc]) rfl ⟨rfl, ?_⟩
      exact ((((HB.out _ _ _).trans (hb.mono (by simp; omega))).setCell (Nat.le_succ _) _).setCell (Nat.le_succ _) _).setCell (Nat.le_succ _) _
    · rw [hlk] at c2
      simp only [hlk, if_true]
      clear hlk
      go_enter Try.func23, Try.ntmps23
      go_wp2
      go_quiet (fail)
      go_wp2_with (go_at_call 82; refine (locked_any _ _ _ _ _ hs (cell_box2 hxl c2 _)).mono ?_; rintro e w' ⟨rfl, rfl⟩)
      refine bodyPost_ret (v := .tuple #[.agg #[.int .u64 0, .string ⟨#[]⟩, .bool false], .int .i64 60]) (by simp [results, Try.results23, go_sem]) rfl ⟨rfl, ?_⟩
      exact (((HB.out _ _ _).setCell (Nat.le_succ _) _).setCell (Nat.le_succ _) _).setCell (Nat.le_succ _) _

/-- is a cell what was seen? -/
def Sto.still (s : Sto) (k : Ky) (who vw : Int) (vh : Bool) : Bool := match s.f k with
  | none => !vh
  | some x => if x.lk = true ∧ x.who ≠ who then false else (x.ab == !vh) && ((x.st : Int) == vw || (!vh && ((x.st : Int) == 0)))

set_option maxHeartbeats 400000 in
theorem still_none (s : Sto) (k : Ky) (who vw : Int) (vs : ByteArray) (vh : Bool) (w : World) (h : StC w s) (hk : k.Ok) (hx : s.f k = none) :
    Calls Try.prog 75 #[.pointer (some ⟨s.sb, 0, none⟩), .agg #[.int .i64 k.kind, .int .i64 k.a, .int .i64 k.b, .string k.s], .int .i64 who, .agg #[.int .u64 vw, .string vs, .bool vh]] w fun e w' => e = .returned (.bool (!vh)) ∧ Below w.heap.size w w' := by
  obtain ⟨_, c1, hl, _⟩ := h.pre hk
  have lk := h.pre2 hk (.cells #[.int .i64 k.kind, .int .i64 k.a, .int .i64 k.b, .string k.s] 32) (.cells #[.int .u64 vw, .string vs, .bool vh] 36)
  rw [hx] at lk
  simp only [ptrOf, Option.map_none, Option.getD_none] at lk
  clear h hx
  go_enter Try.func75, Try.ntmps75
  go_wp2
  go_quiet (fail)
  go_wp2
  go_ret
  exact ⟨rfl, below_box2 _ _ _ _⟩

set_option maxHeartbeats 400000 in
theorem still_other (s : Sto) (k : Ky) (x : Sl) (who vw : Int) (vs : ByteArray) (vh : Bool) (w : World) (h : StC w s) (hk : k.Ok) (hx : s.f k = some x) (hlk : x.lk = true) (hw : x.who ≠ who) :
    Calls Try.prog 75 #[.pointer (some ⟨s.sb, 0, none⟩), .agg #[.int .i64 k.kind, .int .i64 k.a, .int .i64 k.b, .string k.s], .int .i64 who, .agg #[.int .u64 vw, .string vs, .bool vh]] w fun e w' => e = .returned (.bool false) ∧ Below w.heap.size w w' := by
  obtain ⟨_, c1, hl, _⟩ := h.pre hk
  have lk := h.pre2 hk (.cells #[.int .i64 k.kind, .int .i64 k.a, .int .i64 k.b, .string k.s] 32) (.cells #[.int .u64 vw, .string vs, .bool vh] 36)
  rw [hx] at lk
  simp only [ptrOf, Option.map_some, Option.getD_some, Sl.ptr] at lk
  obtain ⟨_, _, c2, c3, c4, hxl⟩ := h.cells hx
  have hs := (h.slot k x hx).2.1.st
  rw [hlk] at c2
  have hne : (x.who != who) = true := by simpa using hw
  clear h hx hlk hw
  go_enter Try.func75, Try.ntmps75
  go_wp2
  go_quiet (fail)
  go_wp2_with (go_at_call 82; refine (locked_any _ _ _ _ _ hs (cell_box2 hxl c2 _)).mono ?_; rintro e w' ⟨rfl, rfl⟩)
  go_ret
  exact ⟨rfl, below_box2 _ _ _ _⟩

set_option maxHeartbeats 1000000 in
theorem still_self (s : Sto) (k : Ky) (x : Sl) (who vw : Int) (vs : ByteArray) (vh : Bool) (w : World) (h : StC w s) (hk : k.Ok) (hx : s.f k = some x) (hlk : x.lk = true → x.who = who) :
    Calls Try.prog 75 #[.pointer (some ⟨s.sb, 0, none⟩), .agg #[.int .i64 k.kind, .int .i64 k.a, .int .i64 k.b, .string k.s], .int .i64 who, .agg #[.int .u64 vw, .string vs, .bool vh]] w fun e w' => e = .returned (.bool ((x.ab == !vh) && ((x.st : Int) == vw || (!vh && ((x.st : Int) == 0))))) ∧ Below w.heap.size w w' := by
  obtain ⟨_, c1, hl, _⟩ := h.pre hk
  have lk := h.pre2 hk (.cells #[.int .i64 k.kind, .int .i64 k.a, .int .i64 k.b, .string k.s] 32) (.cells #[.int .u64 vw, .string vs, .bool vh] 36)
  rw [hx] at lk
  simp only [ptrOf, Option.map_some, Option.getD_some, Sl.ptr] at lk
  obtain ⟨_, _, c2, c3, c4, hxl⟩ := h.cells hx
  have hs := (h.slot k x hx).2.1.st
  clear h hx
  obtain ⟨ad, xh, xg, st, lkx, ab, text, whx⟩ := x
  dsimp only at *
  have hcase : lkx = false ∨ (lkx = true ∧ whx = who) := by cases lkx <;> simp_all
  clear hlk
  rcases hcase with rfl | ⟨rfl, rfl⟩ <;> cases ab <;> cases vh <;> cases hst : ((st : Int) == vw)
  all_goals
    have HS := Lib.hid hs
    clear hs
    go_enter Try.func75, Try.ntmps75
    go_wp2
    go_quiet (fail)
    go_wp2_with (go_at_call 82; refine (locked_any _ _ _ _ _ HS.out (cell_box2 hxl c2 _)).mono ?_; rintro e w' ⟨rfl, rfl⟩)
    go_quiet ((first | (go_at_call 84; first | exact quiet_at2 (absent_any _ _ _ _ _ HS.out (cell_box2 hxl c2 _)) | exact quiet_at (absent_any _ _ _ _ _ HS.out (cell_box2 hxl c2 _))) | (go_at_call 80; first | exact quiet_at2 (quiet_same (stamp_wd _ _ _ _ HS.out)) | exact quiet_at (quiet_same (stamp_wd _ _ _ _ HS.out)))))
    go_wp2
    go_ret
    exact ⟨by simp, below_drewN (below_box2 _ _ _ _) _⟩

theorem still_any (s : Sto) (k : Ky) (who vw : Int) (vs : ByteArray) (vh : Bool) (w : World) (h : StC w s) (hk : k.Ok) :
    Calls Try.prog 75 #[.pointer (some ⟨s.sb, 0, none⟩), .agg #[.int .i64 k.kind, .int .i64 k.a, .int .i64 k.b, .string k.s], .int .i64 who, .agg #[.int .u64 vw, .string vs, .bool vh]] w fun e w' => e = .returned (.bool (s.still k who vw vh)) ∧ Below w.heap.size w w' := by
  unfold Sto.still
  cases hx : s.f k with
  | none => exact still_none s k who vw vs vh w h hk hx
  | some x =>
    by_cases hc : x.lk = true ∧ x.who ≠ who
    · simp only [if_pos hc]
      exact still_other s k x who vw vs vh w h hk hx hc.1 hc.2
    · simp only [if_neg hc]
      exact still_self s k x who vw vs vh w h hk hx (fun e => Classical.byContradiction fun n => hc ⟨e, n⟩)
end Go.Proofs.Ytaanohgkdpohhaa
