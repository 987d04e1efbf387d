/- The arena's Take: a fresh slot, and none. Conditions: each contract's own premises. -/
import Derived.Test.YtaanohgkdpohhaaArenaTake
namespace Go.Proofs.Ytaanohgkdpohhaa
open Go.RowKit Go.Maps

/-- a slice value that holds nothing -/
theorem emptySlice {w : World} {v : Value} {e : TypeId} {xs : List Value} (h : w.ownsRow 0 e 1 v 0 xs) : ∃ a cap, v = .slice a 0 cap := by
  rcases h.2 with ⟨h0, _⟩ | ⟨g, cap, cur, h0, _⟩
  · exact ⟨_, _, h0⟩
  · exact ⟨_, _, h0⟩

set_option maxRecDepth 100000 in
/-- what Take answers where there is no room -/
theorem take_full0 (ab : Nat) (r : Nat) (a : Option Addr) (cap : Nat) (w : World) (c0 : w.cell? ⟨ab, 0, none⟩ = some (.int .i64 r)) (c3 : w.cell? ⟨ab, 3, none⟩ = some (.slice a 0 cap)) (c4 : w.cell? ⟨ab, 4, none⟩ = some (.int .i64 r)) (la : ab < w.heap.size) :
    Calls Try.prog 77 #[.pointer (some ⟨ab, 0, none⟩)] w fun e w' => e = .returned (.tuple #[.agg #[.int .i64 0, .int .i64 0], .int .i64 50]) ∧ Below w.heap.size w w' := by
  go_enter Try.func77, Try.ntmps77
  go_wp2
  refine bodyPost_ret (v := .tuple #[.agg #[.int .i64 0, .int .i64 0], .int .i64 50]) ?_ rfl ⟨rfl, (Below.refl _ _).alloc (Nat.le_refl _) _⟩
  simp [results, Try.results77, go_sem]

theorem take_full (ab bg bt : Nat) (v : Value) (s : Ar) (c : Nat) (w : World) (h : ArC w ab bg bt v s c) (hs : s.free = []) (hr : s.fresh = s.room) :
    Calls Try.prog 77 #[.pointer (some ⟨ab, 0, none⟩)] w (ArPost w ab bg bt v s c (.tuple #[.agg #[.int .i64 0, .int .i64 0], .int .i64 50])) := by
  have hrow := h.row
  rw [hs] at hrow
  obtain ⟨a, cap, rfl⟩ := emptySlice hrow
  have c0 := cell_of_blk h.blk 0
  have c3 := cell_of_blk h.blk 3
  have c4 := cell_of_blk h.blk 4
  simp at c0 c3 c4
  rw [hr] at c4
  refine (take_full0 ab s.room a cap w c0 c3 c4 h.ltA).mono ?_
  rintro e w' ⟨rfl, hb⟩
  exact ⟨rfl, _, h.keep (fun k hk => hb.block k (h.lt hk)), Chg.of_below hb _, fun _ hk => .inl hk⟩

set_option maxRecDepth 100000 in
theorem take_grow0 (ab bg bt fr r cap nt : Nat) (a : Option Addr) (ft : Lit → Option Value) (s s' : Ar) (c : Nat) (w : World) (h : ArC w ab bg bt (.slice a 0 cap) s c) (hfr : s.fresh = fr) (hr : s.room = r) (hne : ((fr : Int) == r) = false) (hlt : (fr : Int) ≤ 1048576)
    (mt : mapR w Try.prog 3 bt nt ft) (hnt : nt < maxLen)
    (hend : ∀ w1, mapR w1 Try.prog 3 bt (if (ft (.int .i64 fr)).isSome then nt else nt + 1) (upd ft (.int .i64 fr) (some (.bool true))) →
       ((w.setCell ⟨ab, 4, none⟩ (.int .i64 (fr + 1))).alloc (.cells #[.int .i64 0, .int .i64 0] 44)).mapTurned w1 bt →
       ArPost w ab bg bt (.slice a 0 cap) s' c (.tuple #[.agg #[.int .i64 fr, .int .i64 (s.gens fr)], .int .i64 0]) (.returned (.tuple #[.agg #[.int .i64 fr, .int .i64 (s.gens fr)], .int .i64 0])) ((w1.setCell ⟨w.heap.size, 0, none⟩ (.int .i64 fr)).setCell ⟨w.heap.size, 1, none⟩ (.int .i64 (s.gens fr)))) :
    Calls Try.prog 77 #[.pointer (some ⟨ab, 0, none⟩)] w (ArPost w ab bg bt (.slice a 0 cap) s' c (.tuple #[.agg #[.int .i64 fr, .int .i64 (s.gens fr)], .int .i64 0])) := by
  have hx : I64 fr := by constructor <;> omega
  have c0 := cell_of_blk h.blk 0
  have c1 := cell_of_blk h.blk 1
  have c2 := cell_of_blk h.blk 2
  have c3 := cell_of_blk h.blk 3
  have c4 := cell_of_blk h.blk 4
  have f4 := frozen_of_blk h.blk 4
  simp at c0 c1 c2 c3 c4
  rw [hfr] at c4
  rw [hr] at c0
  have la := h.ltA
  have H := Lib.hid hend
  clear hend hfr hr
  go_enter Try.func77, Try.ntmps77
  go_wp2_with (at_mapUpdate; go_must (refine wpList_store _ rfl _ _ _ 154 rfl 3 4 lawInt Try.underlying154 bt nt ft rfl ?m hnt _ (.bool true) _ rfl rfl (keyInt hx) ?_; (exact mt.of_block ((Below.heap_alloc _ _ _ (by simp [World.setCell]; exact h.ltT)).trans (Below.heap_setCell _ _ _ _ h.neTA))); intro w1 mt1 hturn hc1 hf1 hs1))
  have hl := h.lookG hx (W := w1) (by rw [turned_block hturn h.ne, Below.heap_alloc _ _ _ (by simp [World.setCell]; exact h.ltG), Below.heap_setCell _ _ _ _ h.neGA])
  have M1 := Lib.hid mt1
  have T1 := Lib.hid hturn
  clear mt1 hturn h mt hnt
  rw [hl]
  go_wp2
  refine bodyPost_ret (v := .tuple #[.agg #[.int .i64 fr, .int .i64 (s.gens fr)], .int .i64 0]) ?_ rfl (H.out w1 M1.out T1.out)
  simp [results, Try.results77, go_sem, hc1]

theorem take_grow_close {ab bg bt nt cap : Nat} {a : Option Addr} {ft : Lit → Option Value} {s : Ar} {c : Nat} {w : World} (h : ArC w ab bg bt (.slice a 0 cap) s c)
    (hr : s.fresh < s.room) (hn : nt + s.free.length = s.fresh) (hft : ∀ x, I64 x → ft (.int .i64 x) = if s.taken x then some (.bool true) else none) (r : Value) (w1 : World)
    (m1 : mapR w1 Try.prog 3 bt (if (ft (.int .i64 s.fresh)).isSome then nt else nt + 1) (upd ft (.int .i64 s.fresh) (some (.bool true))))
    (ht : ((w.setCell ⟨ab, 4, none⟩ (.int .i64 (s.fresh + 1))).alloc (.cells #[.int .i64 0, .int .i64 0] 44)).mapTurned w1 bt) (u0 u1 : Value) :
    ArPost w ab bg bt (.slice a 0 cap) s.grow c r (.returned r) ((w1.setCell ⟨w.heap.size, 0, none⟩ u0).setCell ⟨w.heap.size, 1, none⟩ u1) := by
  have hx : I64 s.fresh := by have := h.ok.room; constructor <;> omega
  have hblk : ∀ i, i < w.heap.size → i ≠ bt → i ≠ ab → ((w1.setCell ⟨w.heap.size, 0, none⟩ u0).setCell ⟨w.heap.size, 1, none⟩ u1).heap[i]? = w.heap[i]? := fun i hi h1 h2 => by
    rw [Below.heap_setCell _ _ _ _ (by show i ≠ w.heap.size; omega), Below.heap_setCell _ _ _ _ (by show i ≠ w.heap.size; omega), turned_block ht h1, Below.heap_alloc _ _ _ (by rw [size_setCell]; exact hi), Below.heap_setCell _ _ _ _ h2]
  have hA : ((w1.setCell ⟨w.heap.size, 0, none⟩ u0).setCell ⟨w.heap.size, 1, none⟩ u1).heap[ab]? = some (.cells #[.int .i64 s.room, .map (some bg), .map (some bt), (.slice a 0 cap), .int .i64 (s.fresh + 1)] 156 (0, 0)) := by
    have := h.ltA
    rw [Below.heap_setCell _ _ _ _ (by show ab ≠ w.heap.size; omega), Below.heap_setCell _ _ _ _ (by show ab ≠ w.heap.size; omega), turned_block ht h.neTA.symm, Below.heap_alloc _ _ _ (by rw [size_setCell]; exact this), blk_setCell h.blk]
    rfl
  have hT : ((w1.setCell ⟨w.heap.size, 0, none⟩ u0).setCell ⟨w.heap.size, 1, none⟩ u1).heap[bt]? = w1.heap[bt]? := by
    have := h.ltT
    rw [Below.heap_setCell _ _ _ _ (by show bt ≠ w.heap.size; omega), Below.heap_setCell _ _ _ _ (by show bt ≠ w.heap.size; omega)]
  have hnt : s.taken s.fresh = false := by
    rw [Bool.eq_false_iff]; intro e; have := (Ar.taken_iff.1 e).2.1; omega
  refine ⟨rfl, .slice a 0 cap, ⟨h.ok.grow hr, by rw [hA]; simp [Ar.grow], ?_, ?_, ?_, h.ne⟩, ?_, fun i hi => .inl hi⟩
  · obtain ⟨n, f, m, e1, e2⟩ := h.gens
    exact ⟨n, f, m.of_block (hblk bg h.ltG h.ne h.neGA), e1, e2⟩
  · rw [hft _ hx, hnt] at m1
    refine ⟨nt + 1, _, m1.of_block hT, ?_, fun y hy => ?_⟩
    · simp only [Ar.grow]; omega
    · rw [Ar.taken_grow h.ok]
      unfold upd
      by_cases e : y = s.fresh
      · subst e; simp
      · rw [if_neg (by simpa using e), hft y hy]; simp [e]
  · exact ownsRow_of_block h.row (fun i hi => hblk i (h.row.lt i hi).2 (h.neRA hi).2.2 (h.neRA hi).1)
  · exact ((((Chg.refl w _).setCell (p := ⟨ab, 4, none⟩) (fun _ => .inl rfl) _).alloc _).turned ht (fun _ => .inr (.inr (.inl rfl)))).setCell (p := ⟨w.heap.size, 0, none⟩) (fun e => absurd e (Nat.lt_irrefl _)) _ |>.setCell (p := ⟨w.heap.size, 1, none⟩) (fun e => absurd e (Nat.lt_irrefl _)) _

theorem take_grow (ab bg bt : Nat) (v : Value) (s : Ar) (c : Nat) (w : World) (h : ArC w ab bg bt v s c) (hs : s.free = []) (hr : s.fresh < s.room) :
    Calls Try.prog 77 #[.pointer (some ⟨ab, 0, none⟩)] w (ArPost w ab bg bt v s.grow c (.tuple #[.agg #[.int .i64 s.fresh, .int .i64 (s.gens s.fresh)], .int .i64 0])) := by
  obtain ⟨nt, ft, mt, hnt, hft⟩ := h.taken
  have hrow := h.row
  rw [hs] at hrow
  obtain ⟨a, cap, rfl⟩ := emptySlice hrow
  have hro := h.ok.room
  exact take_grow0 ab bg bt s.fresh s.room cap nt a ft s s.grow c w h rfl rfl (beq_eq_false_iff_ne.2 (by omega)) (by omega) mt (by unfold maxLen; omega) (fun w1 m1 t1 => take_grow_close h hr hnt hft _ w1 m1 t1 _ _)

/-- what Take answers: the slot, the generation, the error -/
def Ar.takeRes (s : Ar) : Int × Int × Int :=
  match s.free.getLast? with
  | some x => (x, s.gens x, 0)
  | none => if s.fresh = s.room then (0, 0, 50) else (s.fresh, s.gens s.fresh, 0)
def Ar.take (s : Ar) : Ar :=
  match s.free.getLast? with
  | some _ => s.pop
  | none => if s.fresh = s.room then s else s.grow

theorem take_any (ab bg bt : Nat) (v : Value) (s : Ar) (c : Nat) (w : World) (h : ArC w ab bg bt v s c) :
    Calls Try.prog 77 #[.pointer (some ⟨ab, 0, none⟩)] w (ArPost w ab bg bt v s.take c (.tuple #[.agg #[.int .i64 s.takeRes.1, .int .i64 s.takeRes.2.1], .int .i64 s.takeRes.2.2])) := by
  rcases List.eq_nil_or_concat s.free with hs | ⟨l, x, hs⟩
  · have e1 : s.free.getLast? = none := by rw [hs]; rfl
    unfold Ar.take Ar.takeRes
    rw [e1]
    by_cases hr : s.fresh = s.room
    · rw [if_pos hr, if_pos hr]
      exact take_full ab bg bt v s c w h hs hr
    · rw [if_neg hr, if_neg hr]
      exact take_grow ab bg bt v s c w h hs (by have := h.ok.fresh; omega)
  · rw [List.concat_eq_append] at hs
    have e1 : s.free.getLast? = some x := by rw [hs]; simp
    unfold Ar.take Ar.takeRes
    rw [e1]
    exact take_free ab bg bt v s c w l x h hs
end Go.Proofs.Ytaanohgkdpohhaa
