/- The arena's New, Take, Len, Room: what each does. Conditions: each contract's own premises. -/
import Derived.Test.YtaanohgkdpohhaaArena
namespace Go.Proofs.Ytaanohgkdpohhaa
open Go.RowKit Go.Maps

set_option maxHeartbeats 400000 in
theorem len_any0 (ab bt n : Nat) (w : World) (c2 : w.cell? ⟨ab, 2, none⟩ = some (.map (some bt))) (hl : (Builtin.len_ #[154] 3 #[.map (some bt)]).run Try.prog w = .ok (.int .i64 n) w) :
    Calls Try.prog 21 #[.pointer (some ⟨ab, 0, none⟩)] w fun e w' => e = .returned (.int .i64 n) ∧ w = w' := by
  go_enter Try.func21, Try.ntmps21
  go_wp2
  go_ret
  exact ⟨rfl, rfl⟩
theorem len_any (ab bg bt : Nat) (v : Value) (s : Ar) (c : Nat) (w : World) (h : ArC w ab bg bt v s c) :
    Calls Try.prog 21 #[.pointer (some ⟨ab, 0, none⟩)] w fun e w' => e = .returned (.int .i64 ((s.fresh : Int) - s.free.length)) ∧ w = w' := by
  have c2 := cell_of_blk h.blk 2
  simp at c2
  obtain ⟨n, f, m, hn, _⟩ := h.taken
  refine (len_any0 ab bt n w c2 (m.len Try.underlying154 _)).mono ?_
  rintro e w' ⟨rfl, rfl⟩
  exact ⟨by rw [show (n : Int) = (s.fresh : Int) - s.free.length by omega], rfl⟩

theorem new_bad (rm : Int) (w : World) (h : rm < 0 ∨ 1048576 < rm) :
    Calls Try.prog 76 #[.int .i64 rm] w fun e w' => e = .returned (.tuple #[.pointer none, .int .i64 2]) ∧ w = w' := by
  rcases h with h | h
  · go_enter Try.func76, Try.ntmps76
    go_wp2
    go_ret2
    exact ⟨rfl, rfl⟩
  · have h' : 0 ≤ rm := by omega
    go_enter Try.func76, Try.ntmps76
    go_wp2
    go_ret2
    exact ⟨rfl, rfl⟩

theorem new_any0 (rm : Int) (w : World) (h0 : 0 ≤ rm) (h1 : rm ≤ 1048576) :
    Calls Try.prog 76 #[.int .i64 rm] w fun e w' => e = .returned (.tuple #[.pointer (some ⟨w.heap.size + 2, 0, none⟩), .int .i64 0]) ∧
     w' = ((w.alloc (.map #[] 0)).alloc (.map #[] 0)).alloc (.cells #[.int .i64 rm, .map (some w.heap.size), .map (some (w.heap.size + 1)), .slice none 0 0, .int .i64 0] 156) := by
  have hmm := @run_makeMap Try.prog
  go_enter Try.func76, Try.ntmps76
  go_wp2
  go_ret2
  exact ⟨rfl, rfl⟩

/-- an arena of which nothing was taken yet -/
def Ar.made (room : Nat) : Ar := { room := room, gens := fun _ => 0, free := [], fresh := 0 }

theorem new_any (rm : Nat) (w : World) (h1 : rm ≤ 1048576) :
    Calls Try.prog 76 #[.int .i64 rm] w fun e w' => e = .returned (.tuple #[.pointer (some ⟨w.heap.size + 2, 0, none⟩), .int .i64 0]) ∧
     ArC w' (w.heap.size + 2) w.heap.size (w.heap.size + 1) (.slice none 0 0) (Ar.made rm) 0 ∧ Below w.heap.size w w' := by
  refine (new_any0 rm w (by omega) (by omega)).mono ?_
  rintro e w' ⟨rfl, rfl⟩
  refine ⟨rfl, ⟨⟨h1, Nat.zero_le _, List.nodup_nil, by simp [Ar.made], by simp [Ar.made], by omega⟩, ?_, ?_, ?_, World.ownsRow_nil _ _ _ _, by omega⟩, ?_⟩
  · have := heap_new ((w.alloc (.map #[] 0)).alloc (.map #[] 0)) (.cells #[.int .i64 rm, .map (some w.heap.size), .map (some (w.heap.size + 1)), .slice none 0 0, .int .i64 0] 156)
    rw [size_alloc, size_alloc] at this
    exact this
  · refine ⟨0, _, ((mapR_made w Try.prog 3).of_block ?_), Nat.le_refl _, fun x _ => rfl⟩
    rw [Below.heap_alloc _ _ _ (by rw [size_alloc, size_alloc]; omega), Below.heap_alloc _ _ _ (by simp)]
  · have m := mapR_made (w.alloc (.map #[] 0)) Try.prog 3
    rw [size_alloc] at m
    refine ⟨0, _, (m.of_block ?_), rfl, fun x _ => ?_⟩
    · rw [Below.heap_alloc _ _ _ (by rw [size_alloc, size_alloc]; omega)]
    · have : (Ar.made rm).taken x = false := by
        rw [Bool.eq_false_iff]; intro h; have := (Ar.taken_iff.1 h); simp [Ar.made] at this; omega
      rw [this]; rfl
  · exact ((((Below.refl _ _).alloc (Nat.le_refl _) _).alloc (by simp) _).alloc (by simp; omega) _)

set_option maxRecDepth 100000 in
theorem take_free0 (ab bg bt g k cap nt : Nat) (ft : Lit → Option Value) (s s' : Ar) (c : Nat) (w : World) (x : Int) (hx : I64 x) (h : ArC w ab bg bt (.slice (some ⟨g, 0, none⟩) (k + 1) cap) s c) (hk : (k : Int) ≤ 1048576) (hgl : g < w.heap.size) (hcap : k + 1 ≤ cap)
    (hcell : w.cell? ⟨g, k, none⟩ = some (.int .i64 x)) (mt : mapR w Try.prog 3 bt nt ft) (hnt : nt < maxLen)
    (hend : ∀ w1, mapR w1 Try.prog 3 bt (if (ft (.int .i64 x)).isSome then nt else nt + 1) (upd ft (.int .i64 x) (some (.bool true))) →
       ((w.setCell ⟨ab, 3, none⟩ (.slice (some ⟨g, 0, none⟩) k cap)).alloc (.cells #[.int .i64 0, .int .i64 0] 44)).mapTurned w1 bt →
       ArPost w ab bg bt (.slice (some ⟨g, 0, none⟩) (k + 1) cap) s' c (.tuple #[.agg #[.int .i64 x, .int .i64 (s.gens x)], .int .i64 0]) (.returned (.tuple #[.agg #[.int .i64 x, .int .i64 (s.gens x)], .int .i64 0])) ((w1.setCell ⟨w.heap.size, 0, none⟩ (.int .i64 x)).setCell ⟨w.heap.size, 1, none⟩ (.int .i64 (s.gens x)))) :
    Calls Try.prog 77 #[.pointer (some ⟨ab, 0, none⟩)] w (ArPost w ab bg bt (.slice (some ⟨g, 0, none⟩) (k + 1) cap) s' c (.tuple #[.agg #[.int .i64 x, .int .i64 (s.gens x)], .int .i64 0])) := by
  have c1 := cell_of_blk h.blk 1
  have c2 := cell_of_blk h.blk 2
  have c3 := cell_of_blk h.blk 3
  have c4 := cell_of_blk h.blk 4
  have f3 := frozen_of_blk h.blk 3
  simp at c1 c2 c3 c4
  have la := h.ltA
  have H := Lib.hid hend
  clear hend
  go_enter Try.func77, Try.ntmps77
  go_wp2_with (at_mapUpdate; go_must (refine wpList_store _ rfl _ _ _ 154 rfl 3 4 lawInt Try.underlying154 bt nt ft rfl ?m hnt _ (.bool true) _ rfl rfl (keyInt hx) ?_; (exact mt.of_block ((Below.heap_alloc _ _ _ (by simp [World.setCell]; exact h.ltT)).trans (Below.heap_setCell _ _ _ _ h.neTA))); intro w1 mt1 hturn hc1 hf1 hs1))
  have hl := h.lookG hx (W := w1) (by rw [turned_block hturn h.ne, Below.heap_alloc _ _ _ (by simp [World.setCell]; exact h.ltG), Below.heap_setCell _ _ _ _ h.neGA])
  have M1 := Lib.hid mt1
  have T1 := Lib.hid hturn
  clear mt1 hturn h mt hnt
  rw [hl]
  go_wp2
  refine bodyPost_ret (v := .tuple #[.agg #[.int .i64 x, .int .i64 (s.gens x)], .int .i64 0]) ?_ rfl (H.out w1 M1.out T1.out)
  simp [results, Try.results77, go_sem, hc1]

theorem take_free_close {ab bg bt g k cap nt : Nat} {ft : Lit → Option Value} {s : Ar} {c : Nat} {w : World} {x : Int} {l : List Int} (hx : I64 x) (h : ArC w ab bg bt (.slice (some ⟨g, 0, none⟩) (k + 1) cap) s c)
    (hs : s.free = l ++ [x]) (hn : nt + s.free.length = s.fresh) (hft : ∀ x, I64 x → ft (.int .i64 x) = if s.taken x then some (.bool true) else none) (r : Value) (w1 : World)
    (m1 : mapR w1 Try.prog 3 bt (if (ft (.int .i64 x)).isSome then nt else nt + 1) (upd ft (.int .i64 x) (some (.bool true))))
    (ht : ((w.setCell ⟨ab, 3, none⟩ (.slice (some ⟨g, 0, none⟩) k cap)).alloc (.cells #[.int .i64 0, .int .i64 0] 44)).mapTurned w1 bt) (u0 u1 : Value) :
    ArPost w ab bg bt (.slice (some ⟨g, 0, none⟩) (k + 1) cap) s.pop c r (.returned r) ((w1.setCell ⟨w.heap.size, 0, none⟩ u0).setCell ⟨w.heap.size, 1, none⟩ u1) := by
  have hsz : w1.heap.size = w.heap.size + 1 := by rw [turned_size ht, size_alloc, size_setCell]
  have hblk : ∀ i, i < w.heap.size → i ≠ bt → i ≠ ab → ((w1.setCell ⟨w.heap.size, 0, none⟩ u0).setCell ⟨w.heap.size, 1, none⟩ u1).heap[i]? = w.heap[i]? := fun i hi h1 h2 => by
    rw [Below.heap_setCell _ _ _ _ (by show i ≠ w.heap.size; omega), Below.heap_setCell _ _ _ _ (by show i ≠ w.heap.size; omega), turned_block ht h1, Below.heap_alloc _ _ _ (by rw [size_setCell]; exact hi), Below.heap_setCell _ _ _ _ h2]
  have hA : ((w1.setCell ⟨w.heap.size, 0, none⟩ u0).setCell ⟨w.heap.size, 1, none⟩ u1).heap[ab]? = some (.cells #[.int .i64 s.room, .map (some bg), .map (some bt), (.slice (some ⟨g, 0, none⟩) k cap), .int .i64 s.fresh] 156 (0, 0)) := by
    have := h.ltA
    rw [Below.heap_setCell _ _ _ _ (by show ab ≠ w.heap.size; omega), Below.heap_setCell _ _ _ _ (by show ab ≠ w.heap.size; omega), turned_block ht h.neTA.symm, Below.heap_alloc _ _ _ (by rw [size_setCell]; exact this), blk_setCell h.blk]
    rfl
  have hT : ((w1.setCell ⟨w.heap.size, 0, none⟩ u0).setCell ⟨w.heap.size, 1, none⟩ u1).heap[bt]? = w1.heap[bt]? := by
    have := h.ltT
    rw [Below.heap_setCell _ _ _ _ (by show bt ≠ w.heap.size; omega), Below.heap_setCell _ _ _ _ (by show bt ≠ w.heap.size; omega)]
  have hgne := h.neRA (k := g) rfl
  have hnt : s.taken x = false := by
    rw [Bool.eq_false_iff]; intro e; exact (Ar.taken_iff.1 e).2.2 (by rw [hs]; simp)
  have hlen : s.free.length = l.length + 1 := by rw [hs]; simp
  have hk : l.length = k := by have := h.row.1; simp at this; have h2 := h.row.2; rcases h2 with ⟨h3, _⟩ | ⟨_, _, _, h3, _⟩ <;> simp at h3; omega
  refine ⟨rfl, .slice (some ⟨g, 0, none⟩) k cap, ⟨h.ok.pop, hA, ?_, ?_, ?_, h.ne⟩, ?_, fun i hi => .inl hi⟩
  · obtain ⟨n, f, m, e1, e2⟩ := h.gens
    exact ⟨n, f, m.of_block (hblk bg h.ltG h.ne h.neGA), e1, e2⟩
  · rw [hft x hx, hnt] at m1
    refine ⟨nt + 1, _, m1.of_block hT, ?_, fun y hy => ?_⟩
    · simp only [Ar.pop, hs, List.dropLast_concat]; omega
    · rw [Ar.taken_pop h.ok hs]
      unfold upd
      by_cases e : y = x
      · subst e; simp
      · rw [if_neg (by simpa using e), hft y hy]; simp [e]
  · have hrow := h.row
    rw [hs] at hrow
    simp only [List.map_append, List.length_append, List.length_singleton, hk] at hrow
    have := ownsRow_pop (by simp [hk]) hrow
    simp only [Ar.pop, hs, List.dropLast_concat, hk]
    exact ownsRow_of_block this (fun i hi => by simp [Value.ownBlock] at hi; subst hi; exact hblk g (h.row.lt g rfl).2 hgne.2.2 hgne.1)
  · exact ((((Chg.refl w _).setCell (p := ⟨ab, 3, none⟩) (fun _ => .inl rfl) _).alloc _).turned ht (fun _ => .inr (.inr (.inl rfl)))).setCell (p := ⟨w.heap.size, 0, none⟩) (fun e => absurd e (Nat.lt_irrefl _)) _ |>.setCell (p := ⟨w.heap.size, 1, none⟩) (fun e => absurd e (Nat.lt_irrefl _)) _

theorem take_free (ab bg bt : Nat) (v : Value) (s : Ar) (c : Nat) (w : World) (l : List Int) (x : Int) (h : ArC w ab bg bt v s c) (hs : s.free = l ++ [x]) :
    Calls Try.prog 77 #[.pointer (some ⟨ab, 0, none⟩)] w (ArPost w ab bg bt v s.pop c (.tuple #[.agg #[.int .i64 x, .int .i64 (s.gens x)], .int .i64 0])) := by
  have hm := h.ok.mem x (by rw [hs]; simp)
  have hx : I64 x := by have := h.ok.room; have := h.ok.fresh; constructor <;> omega
  obtain ⟨nt, ft, mt, hnt, hft⟩ := h.taken
  have hrow := h.row
  rcases hrow.2 with ⟨_, h0⟩ | ⟨g, cap, cur, rfl, _, hg, hcap, hml, hsz, htk⟩
  · rw [hs] at h0; simp at h0
  · have hlen : s.free.length = l.length + 1 := by rw [hs]; simp
    rw [hlen] at h ⊢ hcap
    refine take_free0 ab bg bt g l.length cap nt ft s s.pop c w x hx h (by have := h.ok.room; have := h.ok.fresh; omega) (hrow.lt g rfl).2 hcap ?_ mt (by have := h.ok.room; have := h.ok.fresh; unfold maxLen; omega) (fun w1 m1 t1 => take_free_close hx h hs hnt hft _ w1 m1 t1 _ _)
    rw [cell_of_blk hg]
    have : cur.toList[l.length]? = some (.int .i64 x) := by
      have e : (cur.toList.take (s.free.length * 1))[l.length]? = cur.toList[l.length]? := by rw [List.getElem?_take]; rw [if_pos (by omega)]
      rw [← e, htk, hs]; simp
    simpa using this
end Go.Proofs.Ytaanohgkdpohhaa
