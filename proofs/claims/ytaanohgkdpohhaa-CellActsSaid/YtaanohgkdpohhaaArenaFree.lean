/- The arena's Free: what it does. Conditions: each contract's own premises. -/
import Derived.Test.YtaanohgkdpohhaaArenaTake2
import Derived.StillTailTactics
import Derived.Deep.RegionLaw
import Derived.BigRegion
import Derived.Deep.AppendLies
namespace Go.Proofs.Ytaanohgkdpohhaa
open Go.RowKit Go.Maps

/-- handles in memory, one behind the other -/
structure HsAt (w : World) (b off : Nat) (hs : List (Int × Int)) : Prop where
  i64 : ∀ p ∈ hs, I64 p.1 ∧ I64 p.2
  cells : ∀ i x g, hs[i]? = some (x, g) → w.cell? ⟨b, off + i * 2, none⟩ = some (.int .i64 x) ∧ w.cell? ⟨b, off + i * 2 + 1, none⟩ = some (.int .i64 g)
  lt : b < w.heap.size

/-- the check of Free, of a list of handles: each is live, no slot stands twice -/
def Ar.chk (s : Ar) (seen : List Int) : List (Int × Int) → Bool
  | [] => true
  | p :: t => s.live p.1 p.2 && !seen.contains p.1 && s.chk (p.1 :: seen) t

/-- a set of numbers in a map -/
def SetOf (w : World) (b : Nat) (l : List Int) : Prop :=
  ∃ n f, mapR w Try.prog 3 b n f ∧ n ≤ l.length ∧ ∀ x, I64 x → f (.int .i64 x) = if l.contains x then some (.bool true) else none

theorem SetOf.look {w : World} {b : Nat} {l : List Int} (h : SetOf w b l) {x : Int} (hx : I64 x) : (Instr.lookup 154 (.map (some b)) (.int .i64 x) false).run Try.prog w = .ok (.bool (l.contains x)) w := by
  obtain ⟨n, f, m, _, hf⟩ := h
  rw [m.look lawInt Try.underlying154 (zeroBool _) (keyInt hx), hf x hx]
  cases l.contains x <;> rfl
theorem SetOf.of_block {w w' : World} {b : Nat} {l : List Int} (h : SetOf w b l) (hb : w'.heap[b]? = w.heap[b]?) : SetOf w' b l := by
  obtain ⟨n, f, m, r⟩ := h
  exact ⟨n, f, m.of_block hb, r⟩
theorem SetOf.lt {w : World} {b : Nat} {l : List Int} (h : SetOf w b l) : b < w.heap.size := by
  obtain ⟨n, f, m, r⟩ := h
  exact m.lt

def FreeRel (w : World) (hs : List (Int × Int)) (s : Ar) (i : Value) (wr : World) : Prop :=
  ∃ k : Nat, k ≤ hs.length ∧ i = .int .i64 k ∧ Below w.heap.size w wr ∧ SetOf wr w.heap.size ((hs.take k).map (·.1)).reverse ∧ s.chk [] hs = s.chk ((hs.take k).map (·.1)).reverse (hs.drop k)

theorem chk_step {s : Ar} {hs : List (Int × Int)} {k : Nat} {x g : Int} (he : hs[k]? = some (x, g)) :
    s.chk ((hs.take k).map (·.1)).reverse (hs.drop k) = (s.live x g && !((hs.take k).map (·.1)).reverse.contains x && s.chk ((hs.take (k + 1)).map (·.1)).reverse (hs.drop (k + 1))) := by
  have hlt := (List.getElem?_eq_some_iff.1 he).1
  have e2 := (List.getElem?_eq_some_iff.1 he).2
  rw [List.drop_eq_getElem_cons hlt, e2, List.take_succ_eq_append_getElem hlt, e2]
  simp [Ar.chk]

theorem SetOf.made (w : World) : SetOf (w.alloc (.map #[] 0)) w.heap.size [] := ⟨0, _, mapR_made w Try.prog 3, Nat.le_refl _, fun _ _ => rfl⟩

theorem FreeRel.start (w : World) (hs : List (Int × Int)) (s : Ar) : FreeRel w hs s (.int .i64 0) (w.alloc (.map #[] 0)) :=
  ⟨0, Nat.zero_le _, rfl, (Below.refl _ _).alloc (Nat.le_refl _) _, by simpa using SetOf.made w, by simp⟩

theorem HsAt.of_below {w wr : World} {b off B : Nat} {hs : List (Int × Int)} (h : HsAt w b off hs) (hb : Below B w wr) (hB : b < B) : HsAt wr b off hs :=
  ⟨h.i64, fun i x g e => ⟨(hb.cell (p := ⟨b, off + i * 2, none⟩) hB).trans (h.cells i x g e).1, (hb.cell (p := ⟨b, off + i * 2 + 1, none⟩) hB).trans (h.cells i x g e).2⟩, Nat.lt_of_lt_of_le h.lt hb.size⟩

theorem wpList_setAdd (w : World) {ops : Array Oper} {rest : List Oper} {o : Oper} {a : Act} {Q : Exit → Act → World → Prop}
    (hg : o.guard = none) (m x : Operand) (hop : o.op = Op.mapUpdate 154 m x (.const (.bool true))) (b : Nat) (l : List Int)
    (hm : a.eval m = .map (some b)) (hown : SetOf w b l) (hn : l.length < maxLen) (y : Int) (hy : I64 y) (hx : a.eval x = .int .i64 y)
    (hK : ∀ w', SetOf w' b (y :: l) → w.mapTurned w' b → (∀ p, w'.cell? p = w.cell? p) → (∀ p, w'.frozen? p = w.frozen? p) → w'.heap.size = w.heap.size → wpList Try.prog ops Q rest (a.put o.dst undef) w') :
    wpList Try.prog ops Q (o :: rest) a w := by
  obtain ⟨n, f, mr, h1, h2⟩ := hown
  refine wpList_store w hg m x (.const (.bool true)) 154 hop 3 4 lawInt Try.underlying154 b n f hm mr (by omega) _ (.bool true) _ hx rfl (keyInt hy) ?_
  intro w' m1 t1 c1 f1 z1
  refine hK w' ⟨_, _, m1, by simp only [List.length_cons]; split <;> omega, fun u hu => ?_⟩ t1 c1 f1 z1
  unfold upd
  by_cases e : u = y
  · subst e; simp
  · rw [if_neg (by simpa using e), h2 u hu]; simp [e]

theorem free_aux {w wr w1 : World} {x g : Int} {l : List Int} (hx : I64 x) (hbel : Below w.heap.size w wr) (hset : SetOf wr w.heap.size l) (hb1 : Below (wr.alloc (.cells #[.int .i64 x, .int .i64 g] 44)).heap.size (wr.alloc (.cells #[.int .i64 x, .int .i64 g] 44)) w1) :
    w1.cell? ⟨wr.heap.size, 0, none⟩ = some (.int .i64 x) ∧ w1.cell? ⟨wr.heap.size, 1, none⟩ = some (.int .i64 g) ∧ SetOf w1 w.heap.size l ∧ Below w.heap.size w w1 ∧ (Instr.lookup 154 (.map (some w.heap.size)) (.int .i64 x) false).run Try.prog w1 = .ok (.bool (l.contains x)) w1 ∧ wr.heap.size < w1.heap.size := by
  have e1 : w1.heap[wr.heap.size]? = some (.cells #[.int .i64 x, .int .i64 g] 44) := (hb1.block _ (by simp)).trans (heap_new _ _)
  have s1 : SetOf w1 w.heap.size l := hset.of_block ((hb1.block _ (by rw [size_alloc]; have := hset.lt; omega)).trans (Below.heap_alloc _ _ _ hset.lt))
  have hz := hb1.size
  rw [size_alloc] at hz
  exact ⟨by rw [cell_of_blk e1]; rfl, by rw [cell_of_blk e1]; rfl, s1, (hbel.alloc hbel.size _).trans (hb1.mono (by rw [size_alloc]; have := hbel.size; omega)), s1.look hx, hz⟩

theorem below_turned {B : Nat} {a b b' : World} {m : Nat} (h : Below B a b) (ht : b.mapTurned b' m) (hm : B ≤ m) : Below B a b' := by
  have hg := ht.grown
  exact h.trans ⟨hg.os, hg.tape, hg.output, hg.size, fun i hi => turned_block ht (by omega)⟩

theorem FreeRel.step {w w1 w2 : World} {hs : List (Int × Int)} {s : Ar} {k : Nat} {x g : Int} {l : List Int} (hlt : k < hs.length) (he : hs[k]? = some (x, g)) (hl : l = ((hs.take k).map (·.1)).reverse) (b1 : Below w.heap.size w w1) (s2 : SetOf w2 w.heap.size (x :: l)) (t2 : w1.mapTurned w2 w.heap.size)
    (hc : s.chk [] hs = s.chk ((hs.take (k + 1)).map (·.1)).reverse (hs.drop (k + 1))) : FreeRel w hs s (.int .i64 ((k : Int) + 1)) w2 := by
  refine ⟨k + 1, hlt, by simp, below_turned b1 t2 (Nat.le_refl _), ?_, hc⟩
  have e2 := (List.getElem?_eq_some_iff.1 he).2
  rw [List.take_succ_eq_append_getElem hlt, e2, List.map_append, List.reverse_append, ← hl]
  exact s2

set_option maxRecDepth 100000 in
set_option maxHeartbeats 400000 in
theorem free_no (ab bg bt b off cap : Nat) (v : Value) (s : Ar) (c : Nat) (hs : List (Int × Int)) (w : World) (h : ArC w ab bg bt v s c) (hh : HsAt w b off hs) (hl : hs.length ≤ 1048576) (hc : s.chk [] hs = false) :
    Calls Try.prog 145 #[.pointer (some ⟨ab, 0, none⟩), .slice (some ⟨b, off, none⟩) hs.length cap] w fun e w' => e = .returned (.int .i64 51) ∧ Below w.heap.size w w' := by
  have hmm := @run_makeMap Try.prog
  have HC := Lib.hid hc
  clear hc
  go_enter Try.func145, Try.ntmps145
  go_wp2
  go_loopw [13] (fun i wr => FreeRel w hs s i wr) (fun i _ => hs.length - (intOf i).toNat)
  case atStart => exact FreeRel.start w hs s
  case round =>
    obtain ⟨k, hk, rfl, hbel, hset, hchk⟩ := hrel
    have CH := Lib.hid hchk
    clear hchk
    by_cases hlt : k < hs.length
    · obtain ⟨x, g, he⟩ : ∃ x g, hs[k]? = some (x, g) := ⟨_, _, List.getElem?_eq_getElem hlt⟩
      have hx := (hh.i64 (x, g) (List.mem_of_getElem? he)).1
      have hcells := (hh.of_below hbel hh.lt).cells k x g he
      have hA : ArC (wr.alloc (.cells #[.int .i64 x, .int .i64 g] 44)) ab bg bt v s c := h.keep (fun i hi => (Below.heap_alloc _ _ _ (Nat.lt_of_lt_of_le (h.lt hi) hbel.size)).trans (hbel.block i (h.lt hi)))
      have hst := chk_step (s := s) he
      have ST := Lib.hid hst
      have HE := Lib.hid he
      clear hst he
      obtain ⟨hc0, hc1⟩ := hcells
      have hwl : w.heap.size < wr.heap.size := hset.lt
      obtain ⟨ct, hct⟩ : ∃ ct, ((hs.take k).map (·.1)).reverse.contains x = ct := ⟨_, rfl⟩
      have CT := Lib.hid hct
      clear hct
      have hln : ((hs.take k).map (·.1)).reverse.length < maxLen := by simp; unfold maxLen; omega
      obtain ⟨l, hl0⟩ : ∃ l, l = ((hs.take k).map (·.1)).reverse := ⟨_, rfl⟩
      rw [← hl0] at CT ST hln CH hset
      have HL := Lib.hid hl0
      clear hl0
      cases hlv : s.live x g
      · go_wp2_with (go_at_call 25; refine (live_any ab bg bt v s c _ x g hx hA).mono ?_; rintro e w1 ⟨rfl, hb1⟩; obtain ⟨r0, r1, s1, b1, hlk, hz1⟩ := free_aux hx hbel hset hb1; rw [CT.out] at hlk; clear hb1)
        go_ret
        exact ⟨rfl, b1⟩
      · cases ct
        · go_wp2_with (first | (go_at_call 25; refine (live_any ab bg bt v s c _ x g hx hA).mono ?_; rintro e w1 ⟨rfl, hb1⟩; obtain ⟨r0, r1, s1, b1, hlk, hz1⟩ := free_aux hx hbel hset hb1; rw [CT.out] at hlk; clear hb1) | (at_mapUpdate; refine wpList_setAdd _ rfl _ _ rfl w.heap.size l rfl s1 hln x hx rfl ?_; intro w2 s2 t2 c2 f2 z2))
          exact ⟨FreeRel.step hlt HE.out HL.out b1 s2 t2 (CH.out.trans (ST.out.trans (by rw [CT.out, hlv]; rfl))), by simp [intOf]; omega⟩
        · go_wp2_with (go_at_call 25; refine (live_any ab bg bt v s c _ x g hx hA).mono ?_; rintro e w1 ⟨rfl, hb1⟩; obtain ⟨r0, r1, s1, b1, hlk, hz1⟩ := free_aux hx hbel hset hb1; rw [CT.out] at hlk; clear hb1)
          go_ret
          exact ⟨rfl, b1⟩
    · exfalso
      rw [List.drop_eq_nil_of_le (by omega)] at CH
      have := CH.out.symm.trans HC.out
      simp [Ar.chk] at this

/-- what Free leaves -/
def Ar.puts (s : Ar) (l : List (Int × Int)) : Ar := l.foldl (fun s p => s.put p.1) s

theorem Ar.puts_snoc (s : Ar) (l : List (Int × Int)) (p : Int × Int) : s.puts (l ++ [p]) = (s.puts l).put p.1 := by simp [Ar.puts]

theorem Ar.taken_puts (l : List (Int × Int)) : ∀ (s : Ar) (y : Int), (s.puts l).taken y = (s.taken y && !(l.map (·.1)).contains y) := by
  induction l with
  | nil => intro s y; simp [Ar.puts]
  | cons p l ih =>
    intro s y
    show ((s.put p.1).puts l).taken y = _
    rw [ih, Ar.taken_put]
    by_cases e : y = p.1
    · subst e; simp
    · have e' : (y == p.1) = false := by simpa using e
      simp [e, e']

theorem Ar.chk_mem : ∀ (hs : List (Int × Int)) (s : Ar) (seen : List Int), s.chk seen hs = true → ∀ k x g, hs[k]? = some (x, g) → s.taken x = true ∧ s.live x g = true ∧ x ∉ seen ∧ x ∉ (hs.take k).map (·.1)
  | [], _, _, _, k, x, g, h => by simp at h
  | p :: t, s, seen, hc, k, x, g, h => by
    simp only [Ar.chk, Bool.and_eq_true] at hc
    obtain ⟨⟨h1, h2⟩, h3⟩ := hc
    cases k with
    | zero =>
      simp at h; subst h
      refine ⟨?_, h1, by simpa using h2, by simp⟩
      simp [Ar.live] at h1; exact h1.1
    | succ k =>
      simp at h
      obtain ⟨a1, a2, a3, a4⟩ := Ar.chk_mem t s _ h3 k x g h
      simp at a3 a4
      exact ⟨a1, a2, a3.2, by simp [a3.1]; exact a4⟩

def FreeRel2 (w : World) (ab bg bt : Nat) (v : Value) (s : Ar) (c : Nat) (hs : List (Int × Int)) (i : Value) (wr : World) : Prop :=
  ∃ (k : Nat) (vk : Value), k ≤ hs.length ∧ i = .int .i64 k ∧ ArC wr ab bg bt vk (s.puts (hs.take k)) (c + k) ∧ Chg w wr (arFp ab bg bt v) ∧ ∀ j, vk.ownBlock = some j → v.ownBlock = some j ∨ w.heap.size ≤ j

theorem HsAt.of_chg {w wr : World} {b off : Nat} {hs : List (Int × Int)} {S : Nat → Prop} (h : HsAt w b off hs) (hb : Chg w wr S) (hB : ¬ S b) : HsAt wr b off hs := by
  have e := hb.block b h.lt hB
  exact ⟨h.i64, fun i x g hi => ⟨(World.cell?_of_block (a := ⟨b, off + i * 2, none⟩) e).trans (h.cells i x g hi).1, (World.cell?_of_block (a := ⟨b, off + i * 2 + 1, none⟩) e).trans (h.cells i x g hi).2⟩, Nat.lt_of_lt_of_le h.lt hb.size⟩

theorem free_close {wr u1 w2 u2 w3 u3 w4 : World} {ab bg bt nt n2 ng : Nat} {vk v' : Value} {s : Ar} {c : Nat} {x : Int} {ft fg : Lit → Option Value} (h : ArC wr ab bg bt vk s c) (ht : s.taken x = true) (hcn : c + 1 ≤ 1099511627776)
    (hnt : nt + s.free.length = s.fresh) (hft : ∀ x, I64 x → ft (.int .i64 x) = if s.taken x then some (.bool true) else none)
    (hng : ng ≤ c) (hfg : ∀ x, I64 x → (fg (.int .i64 x)).getD (.int .i64 0) = .int .i64 (s.gens x))
    (a1 : Below wr.heap.size wr u1) (t2 : u1.mapTurned w2 bt) (e2 : n2 + (if (ft (.int .i64 x)).isSome then 1 else 0) = nt) (m2 : mapR w2 Try.prog 3 bt n2 (upd ft (.int .i64 x) none))
    (a2 : Below w2.heap.size w2 u2) (t3 : u2.mapTurned w3 bg) (m3 : mapR w3 Try.prog 3 bg (if (fg (.int .i64 x)).isSome then ng else ng + 1) (upd fg (.int .i64 x) (some (.int .i64 (s.gens x + 1)))))
    (a3 : Below w3.heap.size w3 u3) (hg : u3.grownBy w4 vk.ownBlock) (hrow : w4.ownsRow 0 3 1 v' (s.free.length + 1) (s.free.map (.int .i64) ++ [.int .i64 x])) (hat : v'.ownBlock = vk.ownBlock ∨ v'.ownBlock = some u3.heap.size) :
    ArC (w4.setCell ⟨ab, 3, none⟩ v') ab bg bt v' (s.put x) (c + 1) ∧ Chg wr (w4.setCell ⟨ab, 3, none⟩ v') (arFp ab bg bt vk) ∧ ∀ j, v'.ownBlock = some j → vk.ownBlock = some j ∨ wr.heap.size ≤ j := by
  have hx := h.ok.i64 ht
  have z2 := turned_size t2
  have z3 := turned_size t3
  have s1 := a1.size
  have s2 := a2.size
  have s3 := a3.size
  have s4 := hg.size
  have keep : ∀ i, i < wr.heap.size → i ≠ bt → i ≠ bg → vk.ownBlock ≠ some i → w4.heap[i]? = wr.heap[i]? := fun i hi n1 n2 n3 => by
    rw [hg.block i (by omega) (fun e => n3 e.symm), a3.block i (by omega), turned_block t3 n2, a2.block i (by omega), turned_block t2 n1, a1.block i hi]
  have nA : vk.ownBlock ≠ some ab := fun e => (h.neRA e).1 rfl
  have nG : vk.ownBlock ≠ some bg := fun e => (h.neRA e).2.1 rfl
  have nT : vk.ownBlock ≠ some bt := fun e => (h.neRA e).2.2 rfl
  have hA := keep ab h.ltA h.neTA.symm h.neGA.symm nA
  have hT : (w4.setCell ⟨ab, 3, none⟩ v').heap[bt]? = w2.heap[bt]? := by
    have := h.ltT
    rw [Below.heap_setCell _ _ _ _ h.neTA, hg.block bt (by omega) (fun e => nT e.symm), a3.block bt (by omega), turned_block t3 h.ne.symm, a2.block bt (by omega)]
  have hG : (w4.setCell ⟨ab, 3, none⟩ v').heap[bg]? = w3.heap[bg]? := by
    have := h.ltG
    rw [Below.heap_setCell _ _ _ _ h.neGA, hg.block bg (by omega) (fun e => nG e.symm), a3.block bg (by omega)]
  have hv : ∀ j, v'.ownBlock = some j → vk.ownBlock = some j ∨ wr.heap.size ≤ j := fun j hj => by
    rcases hat with e | e
    · exact .inl (e ▸ hj)
    · rw [e] at hj; cases hj; right; omega
  have hvA : v'.ownBlock ≠ some ab := fun e => by
    rcases hv ab e with e' | e'
    · exact nA e'
    · have := h.ltA; omega
  refine ⟨⟨h.ok.put ht hcn, ?_, ?_, ?_, ?_, h.ne⟩, ?_, hv⟩
  · rw [blk_setCell (hA.trans h.blk)]; rfl
  · refine ⟨_, _, m3.of_block hG, by split <;> omega, fun y hy => ?_⟩
    unfold upd
    by_cases e : y = x
    · subst e; simp [Ar.put]
    · rw [if_neg (by simpa using e), hfg y hy]; simp [Ar.put, e]
  · refine ⟨_, _, m2.of_block hT, ?_, fun y hy => ?_⟩
    · rw [hft x hx, ht] at e2
      simp at e2
      simp [Ar.put]; omega
    · rw [Ar.taken_put]
      unfold upd
      by_cases e : y = x
      · subst e; simp
      · rw [if_neg (by simpa using e), hft y hy]; simp [e]
  · have := ownsRow_of_block (w' := w4.setCell ⟨ab, 3, none⟩ v') hrow (fun j hj => Below.heap_setCell _ _ _ _ (fun e => hvA (by rw [hj]; exact congrArg some e)))
    simpa [Ar.put] using this
  · refine ⟨?_, ?_, ?_, ?_, fun i hi hn => ?_⟩
    · exact hg.os.trans (a3.os.trans (t3.grown.os.trans (a2.os.trans (t2.grown.os.trans a1.os))))
    · exact hg.tape.trans (a3.tape.trans (t3.grown.tape.trans (a2.tape.trans (t2.grown.tape.trans a1.tape))))
    · exact hg.output.trans (a3.output.trans (t3.grown.output.trans (a2.output.trans (t2.grown.output.trans a1.output))))
    · rw [size_setCell]; omega
    · rw [Below.heap_setCell _ _ _ _ (fun e => hn (.inl e))]
      exact keep i hi (fun e => hn (.inr (.inr (.inl e)))) (fun e => hn (.inr (.inl e))) (fun e => hn (.inr (.inr (.inr e))))

theorem row_shape {w : World} {base n : Nat} {e : TypeId} {v : Value} {xs : List Value} (h : w.ownsRow base e 1 v (n + 1) xs) : ∃ g cap, v = .slice (some ⟨g, 0, none⟩) (n + 1) cap := by
  rcases h.2 with ⟨_, h0⟩ | ⟨g, cap, cur, h0, _⟩
  · omega
  · exact ⟨g, cap, h0⟩

theorem infoInt : (Try.prog.info? 3).map (fun i => (i.zero, i.size, i.bytes)) = some (some (.int .i64 0), 1, 8) := by kernel_rfl

theorem FreeRel2.step {w wr w2 w3 w4 : World} {ab bg bt nt n2 ng k gg cap' : Nat} {v vk : Value} {s sk : Ar} {c : Nat} {x g : Int} {hs : List (Int × Int)} {ft fg : Lit → Option Value} {X Y : Obj} (h : ArC wr ab bg bt vk sk (c + k)) (hlt : k < hs.length) (hsk : sk = s.puts (hs.take k)) (he : hs[k]? = some (x, g)) (hchk : s.chk [] hs = true) (hcn : c + hs.length ≤ 1099511627776)
    (hchg : Chg w wr (arFp ab bg bt v)) (hown : ∀ j, vk.ownBlock = some j → v.ownBlock = some j ∨ w.heap.size ≤ j)
    (hnt : nt + sk.free.length = sk.fresh) (hft : ∀ x, I64 x → ft (.int .i64 x) = if sk.taken x then some (.bool true) else none)
    (hng : ng ≤ c + k) (hfg : ∀ x, I64 x → (fg (.int .i64 x)).getD (.int .i64 0) = .int .i64 (sk.gens x))
    (t2 : (wr.alloc X).drew.mapTurned w2 bt) (e2 : n2 + (if (ft (.int .i64 x)).isSome then 1 else 0) = nt) (m2 : mapR w2 Try.prog 3 bt n2 (upd ft (.int .i64 x) none))
    (t3 : w2.drew.mapTurned w3 bg) (m3 : mapR w3 Try.prog 3 bg (if (fg (.int .i64 x)).isSome then ng else ng + 1) (upd fg (.int .i64 x) (some (.int .i64 (sk.gens x + 1)))))
    (hg : (w3.alloc Y).drew.grownBy w4 vk.ownBlock) (hrow : w4.ownsRow 0 3 1 (.slice (some ⟨gg, 0, none⟩) (sk.free.length + 1) cap') (sk.free.length + 1) (sk.free.map (.int .i64) ++ [.int .i64 x])) (hat : vk.ownBlock = some gg ∨ gg = w3.heap.size + 1) :
    FreeRel2 w ab bg bt v s c hs (.int .i64 ((k : Int) + 1)) (w4.setCell ⟨ab, 3, none⟩ (.slice (some ⟨gg, 0, none⟩) (sk.free.length + 1) cap')) := by
  have ht : sk.taken x = true := by
    obtain ⟨h1, _, _, h4⟩ := Ar.chk_mem hs s [] hchk k x g he
    rw [hsk, Ar.taken_puts, h1]; simpa using h4
  obtain ⟨a1, a2, a3⟩ := free_close h ht (by omega) hnt hft hng hfg (((Below.refl _ _).alloc (Nat.le_refl _) _).drew) t2 e2 m2 ((Below.refl _ _).drew) t3 m3 (((Below.refl _ _).alloc (Nat.le_refl _) _).drew) hg hrow
    (by rcases hat with e | e
        · exact .inl e.symm
        · right; rw [e]; exact congrArg some (size_alloc w3 Y).symm)
  have e2 := (List.getElem?_eq_some_iff.1 he).2
  refine ⟨k + 1, .slice (some ⟨gg, 0, none⟩) (sk.free.length + 1) cap', hlt, by simp, ?_, hchg.trans a2 ?_, ?_⟩
  · rw [List.take_succ_eq_append_getElem hlt, e2, Ar.puts_snoc, ← hsk]
    exact a1
  · intro i hi hf
    rcases hf with hf | hf | hf | hf
    · exact .inl hf
    · exact .inr (.inl hf)
    · exact .inr (.inr (.inl hf))
    · rcases hown i hf with e | e
      · exact .inr (.inr (.inr e))
      · omega
  · intro j hj
    rcases a3 j hj with e | e
    · exact hown j e
    · right; have := hchg.size; omega

set_option maxRecDepth 100000 in
set_option maxHeartbeats 400000 in
theorem free_yes (ab bg bt b off cap : Nat) (v : Value) (s : Ar) (c : Nat) (hs : List (Int × Int)) (w : World) (h : ArC w ab bg bt v s c) (hh : HsAt w b off hs) (hl : hs.length ≤ 1048576) (hc : s.chk [] hs = true) (hbf : ¬ arFp ab bg bt v b) (hcn : c + hs.length ≤ 1099511627776) :
    Calls Try.prog 145 #[.pointer (some ⟨ab, 0, none⟩), .slice (some ⟨b, off, none⟩) hs.length cap] w (ArPost w ab bg bt v (s.puts hs) (c + hs.length) (.int .i64 0)) := by
  have hmm := @run_makeMap Try.prog
  have HC := Lib.hid hc
  clear hc
  go_enter Try.func145, Try.ntmps145
  go_wp2
  go_loopw [13] (fun i wr => FreeRel w hs s i wr) (fun i _ => hs.length - (intOf i).toNat)
  case atStart => exact FreeRel.start w hs s
  case round =>
    obtain ⟨k, hk, rfl, hbel, hset, hchk⟩ := hrel
    by_cases hlt : k < hs.length
    · obtain ⟨x, g, he⟩ : ∃ x g, hs[k]? = some (x, g) := ⟨_, _, List.getElem?_eq_getElem hlt⟩
      have hx := (hh.i64 (x, g) (List.mem_of_getElem? he)).1
      have hcells := (hh.of_below hbel hh.lt).cells k x g he
      have hA : ArC (wr.alloc (.cells #[.int .i64 x, .int .i64 g] 44)) ab bg bt v s c := h.keep (fun i hi => (Below.heap_alloc _ _ _ (Nat.lt_of_lt_of_le (h.lt hi) hbel.size)).trans (hbel.block i (h.lt hi)))
      have hst := chk_step (s := s) he
      have hm := Ar.chk_mem hs s [] HC.out k x g he
      have hlv := hm.2.1
      have hct : ((hs.take k).map (·.1)).reverse.contains x = false := by simpa using hm.2.2.2
      rw [hlv, hct] at hst
      have CH := Lib.hid (hchk.trans hst)
      have CT := Lib.hid hct
      have HE := Lib.hid he
      clear hst he hct hm hchk
      obtain ⟨hc0, hc1⟩ := hcells
      have hwl : w.heap.size < wr.heap.size := hset.lt
      have hln : ((hs.take k).map (·.1)).reverse.length < maxLen := by simp; unfold maxLen; omega
      obtain ⟨l, hl0⟩ : ∃ l, l = ((hs.take k).map (·.1)).reverse := ⟨_, rfl⟩
      rw [← hl0] at hln hset CT
      have HL := Lib.hid hl0
      clear hl0
      go_wp2_with (first | (go_at_call 25; refine (live_any ab bg bt v s c _ x g hx hA).mono ?_; rintro e w1 ⟨rfl, hb1⟩; obtain ⟨r0, r1, s1, b1, hlk, hz1⟩ := free_aux hx hbel hset hb1; rw [CT.out] at hlk; clear hb1) | (at_mapUpdate; refine wpList_setAdd _ rfl _ _ rfl w.heap.size l rfl s1 hln x hx rfl ?_; intro w2 s2 t2 c2 f2 z2))
      exact ⟨FreeRel.step hlt HE.out HL.out b1 s2 t2 (CH.out.trans (by simp)), by simp [intOf]; omega⟩
    · have HB := Lib.hid hbel
      clear hset hchk hbel
      go_wp2
      obtain ⟨wo, rfl⟩ : ∃ wo : World, wo = wr := ⟨_, rfl⟩
      go_loopw [33] (fun i wr => FreeRel2 w ab bg bt v s c hs i wr) (fun i _ => hs.length - (intOf i).toNat)
      case atStart => exact ⟨0, v, Nat.zero_le _, rfl, by simpa [Ar.puts] using h.keep (fun i hi => HB.out.block i (h.lt hi)), Chg.of_below HB.out _, fun j hj => .inl hj⟩
      case round =>
        obtain ⟨k, vk, hk, rfl, hA, hchg, hown⟩ := hrel
        obtain ⟨sk, hsk⟩ : ∃ sk, sk = s.puts (hs.take k) := ⟨_, rfl⟩
        rw [← hsk] at hA
        have SK := Lib.hid hsk
        clear hsk
        by_cases hlt : k < hs.length
        · obtain ⟨x, g, he⟩ : ∃ x g, hs[k]? = some (x, g) := ⟨_, _, List.getElem?_eq_getElem hlt⟩
          have hx := (hh.i64 (x, g) (List.mem_of_getElem? he)).1
          obtain ⟨hc0, hc1⟩ := (hh.of_chg hchg hbf).cells k x g he
          have HE := Lib.hid he
          clear he
          have ca1 := cell_of_blk hA.blk 1
          have ca2 := cell_of_blk hA.blk 2
          have ca3 := cell_of_blk hA.blk 3
          have fa3 := frozen_of_blk hA.blk 3
          have la := hA.ltA
          simp at ca1 ca2 ca3
          obtain ⟨nt, ft, mt, hnt, hft⟩ := hA.taken
          obtain ⟨ng, fg, mg, hng, hfg⟩ := hA.gens
          obtain ⟨i0, hi, hz0, hz1, hz2⟩ := info_parts infoInt
          have hg0 := (hA.ok.gens x).1
          have hg1 : sk.gens x ≤ 1099511627776 := by have := (hA.ok.gens x).2; have := hA.ok.cnt; omega
          have hngl : ng < maxLen := by have := hA.ok.cnt; unfold maxLen; omega
          have hfl : sk.free.length ≤ 1048576 := by have := hA.ok.fresh; have := hA.ok.room; omega
          have mt1 : mapR ((wr.alloc (.cells #[.int .i64 x, .int .i64 g] 44)).drew) Try.prog 3 bt nt ft := mt.of_block (Below.heap_alloc wr _ _ mt.lt)
          go_wp2_with fail
          refine wp_region_still_tail 6 (by kernel_rfl) (by kernel_rfl) ?_
          change wpStill _ _ (World.drew _) (fun a' => wpList _ _ _ _ a' (World.drew _)) _ _
          simp only [List.take_succ_cons, List.take_zero, List.drop_succ_cons, List.drop_zero]
          repeat still_step
          refine wpStill_nil ?_
          go_wp2_with (at_delete; go_must (refine wpList_drop _ rfl _ _ 154 3 rfl 4 lawInt Try.underlying154 bt nt ft rfl mt1 _ _ rfl (keyInt hx) ?_; intro w2 n2 e2 m2 t2 c2 f2 z2))
          have E2 := Lib.hid e2
          clear e2
          have hG2 : w2.heap[bg]? = wr.heap[bg]? := (turned_block t2 hA.ne).trans (Below.heap_alloc wr _ _ hA.ltG)
          have mg1 : mapR w2.drew Try.prog 3 bg ng fg := mg.of_block hG2
          have hl := hA.lookG hx (W := w2.drew) hG2
          have HG2 := Lib.hid hG2
          clear hG2
          have hwr : IntKind.i64.wrap (sk.gens x + 1) = sk.gens x + 1 := IntWalk.i64_in _ (by omega)
          refine wp_region_still_tail 8 (by kernel_rfl) (by kernel_rfl) ?_
          change wpStill _ _ (World.drew _) (fun a' => wpList _ _ _ _ a' (World.drew _)) _ _
          simp only [List.take_succ_cons, List.take_zero, List.drop_succ_cons, List.drop_zero]
          repeat still_step
          refine wpStill_nil ?_
          clear hl hwr
          go_wp2_with (at_mapUpdate; go_must (refine wpList_store _ rfl _ _ _ 153 rfl 3 3 lawInt Try.underlying153 bg ng fg rfl mg1 hngl _ (.int .i64 (sk.gens x + 1)) _ rfl rfl (keyInt hx) ?_; intro w3 m3 t3 c3 f3 z3))
          have M3 := Lib.hid m3
          have M2 := Lib.hid m2
          clear m3 m2 mt1 mg1 z2 z3
          have hr3 : w3.ownsRow 0 3 1 vk sk.free.length (sk.free.map (.int .i64)) := ownsRow_of_block hA.row (fun j hj => by
            rw [turned_block t3 (hA.neRA hj).2.1]
            show w2.heap[j]? = _
            rw [turned_block t2 (hA.neRA hj).2.2]
            exact Below.heap_alloc wr _ _ (hA.row.lt j hj).2)
          have hb3 : w3.heap[ab]? = _ := (turned_block t3 hA.neGA.symm).trans ((turned_block t2 hA.neTA.symm).trans ((Below.heap_alloc wr _ _ hA.ltA).trans hA.blk))
          have hx3 : w3.heap[wr.heap.size]? = _ := (turned_block t3 (Nat.ne_of_gt hA.ltG)).trans ((turned_block t2 (Nat.ne_of_gt hA.ltT)).trans (heap_new wr _))
          have d3 := cell_of_blk hb3 3
          have fz3 := frozen_of_blk hb3 3
          have dx := cell_of_blk hx3 0
          simp at d3 dx
          have l3 : ab < w3.heap.size := (Array.getElem?_eq_some_iff.1 hb3).1
          have l4 : wr.heap.size < w3.heap.size := (Array.getElem?_eq_some_iff.1 hx3).1
          have nA : vk.ownBlock ≠ some ab := fun e => (hA.neRA e).1 rfl
          have nX : vk.ownBlock ≠ some wr.heap.size := fun e => by have := (hA.row.lt _ e).2; omega
          have T2 := Lib.hid t2
          have T3 := Lib.hid t3
          clear hb3 hx3 c2 c3 f2 f3 t2 t3 hc0 hc1 ca1 ca2 ca3 fa3
          have k1 : sk.free.length + 1 ≤ maxLen := by unfold maxLen; omega
          have k2 : (sk.free.length + 1) * 8 ≤ 140737488355328 := by omega
          have k3 : ∀ u ∈ [Value.int .i64 x], u.oneCell' = true := by simp [Value.oneCell']
          have k4 : (w3.alloc (.cells #[.int .i64 x] 3)).drew.heap.size = w3.heap.size + 1 := size_alloc _ _
          have k5 : ∀ w4 : World, (w3.alloc (.cells #[.int .i64 x] 3)).drew.grownBy w4 vk.ownBlock → w4.frozen? ⟨ab, 3, none⟩ = false := fun w4 hg => (hg.frozen_far ⟨ab, 3, none⟩ (by rw [k4]; exact Nat.lt_succ_of_lt l3) (Ne.symm nA)).trans ((World.frozen?_of_block (a := ⟨ab, 3, none⟩) (Below.heap_alloc w3 _ _ l3)).trans fz3)
          have k6 : ∀ w4 : World, (w3.alloc (.cells #[.int .i64 x] 3)).drew.grownBy w4 vk.ownBlock → w4.cell? ⟨ab, 3, none⟩ = some vk := fun w4 hg => (hg.cell_far ⟨ab, 3, none⟩ (by rw [k4]; exact Nat.lt_succ_of_lt l3) (Ne.symm nA)).trans ((World.cell?_of_block (a := ⟨ab, 3, none⟩) (Below.heap_alloc w3 _ _ l3)).trans d3)
          have K6 := Lib.hid k6
          have K1 := Lib.hid k1
          have K2 := Lib.hid k2
          have K3 := Lib.hid k3
          have K4 := Lib.hid k4
          have K5 := Lib.hid k5
          clear k1 k2 k3 k4 k5 k6
          go_region_law (refine step_append_lies _ rfl _ _ _ rfl 0 3 i0 _ 1 8 Try.underlying22 hi hz0 hz1 hz2 rfl Nat.one_pos vk sk.free.length (sk.free.map (.int .i64)) rfl ((hr3.alloc _).drew) ⟨w3.heap.size, 0, none⟩ 1 1 [.int .i64 x] rfl rfl (World.news_of_block (cs := #[.int .i64 x]) (t := 3) (fr := (0, 0)) (heap_alloc_new w3 _)) K3.out Nat.one_pos K1.out K2.out (Nat.zero_le _) (w3.heap.size + 1) K4.out ?_; intro gg cap' w4 hown' hgrow hat hlt4; have f4 := K5.out w4 hgrow; have c4 := K6.out w4 hgrow)
          all_goals go_wp2_with fail
          all_goals exact ⟨FreeRel2.step hA hlt SK.out HE.out HC.out hcn hchg hown hnt hft hng hfg T2.out E2.out M2.out T3.out M3.out hgrow hown' hat, by simp [intOf]; omega⟩
        · go_wp2_with fail
          go_ret
          have hkk : k = hs.length := by omega
          subst hkk
          rw [List.take_length] at SK
          exact ⟨rfl, vk, SK.out ▸ hA, hchg, hown⟩
end Go.Proofs.Ytaanohgkdpohhaa
