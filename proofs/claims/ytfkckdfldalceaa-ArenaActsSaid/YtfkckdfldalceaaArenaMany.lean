/- The arena's Many: what it does. Conditions: each contract's own premises. -/
import Derived.Test.YtfkckdfldalceaaArenaOncePlain
import Derived.Deep.DeepCutAuto
namespace Go.Proofs.Ytfkckdfldalceaa
open Go.RowKit Go.Maps

/-- the state behind j takings, and what they gave -/
def Ar.after (s : Ar) : Nat → Ar
  | 0 => s
  | j + 1 => (s.after j).take
def Ar.got (s : Ar) : Nat → List (Int × Int)
  | 0 => []
  | j + 1 => s.got j ++ [((s.after j).takeRes.1, (s.after j).takeRes.2.1)]
/-- how many are free -/
def Ar.avail (s : Ar) : Int := (s.room : Int) - ((s.fresh : Int) - s.free.length)

theorem Ar.got_length (s : Ar) : ∀ j, (s.got j).length = j
  | 0 => rfl
  | j + 1 => by simp [Ar.got, Ar.got_length s j]

theorem Ar.after_ok {s : Ar} {c : Nat} (h : s.Ok c) : ∀ j : Nat, (j : Int) ≤ s.avail → (s.after j).Ok c ∧ (s.after j).avail = s.avail - j ∧ (s.after j).room = s.room
  | 0, _ => ⟨h, by simp [Ar.after], rfl⟩
  | j + 1, hj => by
    obtain ⟨h1, h2, h3⟩ := Ar.after_ok h j (by omega)
    rcases Ar.take_cases h1 with ⟨hf, hr, _, _⟩ | ⟨x, _, _, _, _, _, _, hrm, hcnt, hok, _⟩
    · have : (s.after j).avail = 0 := by unfold Ar.avail; rw [hf, hr]; simp
      omega
    · refine ⟨hok, ?_, hrm.trans h3⟩
      show (s.after j).take.avail = _
      unfold Ar.avail at h2 ⊢
      rw [hrm]
      omega

theorem Ar.after_res {s : Ar} {c : Nat} (h : s.Ok c) {j : Nat} (hj : (j : Int) < s.avail) : ∃ x, (s.after j).takeRes = (x, (s.after j).gens x, 0) ∧ I64 x := by
  obtain ⟨h1, h2, h3⟩ := Ar.after_ok h j (by omega)
  rcases Ar.take_cases h1 with ⟨hf, hr, _, _⟩ | ⟨x, hx, _, hx0, hx1, _⟩
  · have : (s.after j).avail = 0 := by unfold Ar.avail; rw [hf, hr]; simp
    omega
  · exact ⟨x, hx, by have := h1.room; constructor <;> omega⟩

theorem many_neg (n : Int) (w : World) (p : Value) (hn : n < 0) : Calls Try.prog 21 #[p, .int .i64 n] w fun e w' => e = .returned (.tuple #[.slice none 0 0, .int .i64 2]) ∧ w = w' := by
  go_enter Try.func21, Try.ntmps21
  go_wp2
  go_ret2
  exact ⟨rfl, rfl⟩

set_option maxRecDepth 100000 in
theorem many_full (ab bg bt : Nat) (v : Value) (s : Ar) (c : Nat) (n : Int) (w : World) (h : ArC w ab bg bt v s c) (hn : 0 ≤ n) (hav : s.avail < n) :
    Calls Try.prog 21 #[.pointer (some ⟨ab, 0, none⟩), .int .i64 n] w fun e w' => e = .returned (.tuple #[.slice none 0 0, .int .i64 50]) ∧ Below w.heap.size w w' := by
  have c0 := cell_of_blk h.blk 0
  simp at c0
  have hro := h.ok.room
  have hfr := h.ok.fresh
  obtain ⟨nt, _, _, hnt, _⟩ := h.taken
  unfold Ar.avail at hav
  obtain ⟨D, hD⟩ : ∃ D : Int, D = (s.fresh : Int) - s.free.length := ⟨_, rfl⟩
  have hl := fun W (hW : ArC W ab bg bt v s c) => len_any ab bg bt v s c W hW
  rw [← hD] at hav hl
  have hD0 : 0 ≤ D := by omega
  have hD1 : D ≤ 1048576 := by omega
  have hw : IntKind.i64.wrap ((s.room : Int) - D) = (s.room : Int) - D := IntWalk.i64_in _ (by omega)
  have HL := Lib.hid hl
  have HA := Lib.hid h
  have hlt : decide ((s.room : Int) - D < n) = true := by simp; omega
  clear hl hnt h hD
  go_enter Try.func21, Try.ntmps21
  go_wp2_with fail
  go_quiet ((go_at_call 20; refine Calls.quiet_of_same (Calls.mono (HL.out _ ?_) (fun _ _ h => ⟨h.1, h.2.symm⟩)); exact HA.out.keep (fun _ _ => rfl)))
  go_wp2
  go_ret2
  exact ⟨rfl, below_drewN (Below.refl _ _) _⟩

/-- Many, behind j takings -/
structure ManyAt (w wr : World) (ab bg bt : Nat) (v : Value) (s : Ar) (c j : Nat) (ov : Value) (v' : Value) : Prop where
  ar : ArC wr ab bg bt v' (s.after j) c
  chg : Chg w wr (arFp ab bg bt v)
  own : ∀ k, v'.ownBlock = some k → v.ownBlock = some k ∨ w.heap.size ≤ k
  row : RowH w wr ov (s.got j)
  out : ∀ k, ov.ownBlock = some k → ¬ arFp ab bg bt v' k

theorem ManyAt.start {w wr : World} {ab bg bt : Nat} {v : Value} {s : Ar} {c : Nat} (h : ArC w ab bg bt v s c) (hb : Below w.heap.size w wr) : ManyAt w wr ab bg bt v s c 0 (.slice none 0 0) v :=
  ⟨h.stay hb, Chg.of_below hb _, fun _ hk => .inl hk, ⟨World.ownsRow_nil _ _ _ _, by simp [Ar.got]⟩, by simp [Value.ownBlock]⟩

theorem ManyAt.step {w wr w3 W' : World} {ab bg bt j c : Nat} {v v' v3 ov ov' : Value} {s : Ar} {x : Int} {X Y : Obj} (h : ManyAt w wr ab bg bt v s c j ov v') (hres : (s.after j).takeRes = (x, (s.after j).gens x, 0)) (hxi : I64 x)
    (hA : ArC w3 ab bg bt v3 (s.after j).take c) (hc : Chg wr w3 (arFp ab bg bt v')) (ho : ∀ k, v3.ownBlock = some k → v'.ownBlock = some k ∨ wr.heap.size ≤ k)
    (hrow : W'.ownsRow w.heap.size 30 2 ov' ((s.got j).length + 1) (hcells (s.got j) ++ [.int .i64 x, .int .i64 ((s.after j).gens x)])) (hgr : ((w3.alloc X).alloc Y).grownBy W' ov.ownBlock) (hat : ov'.ownBlock = ov.ownBlock ∨ ov'.ownBlock = some ((w3.alloc X).alloc Y).heap.size) :
    ManyAt w W' ab bg bt v s c (j + 1) ov' v3 := by
  have hrl : ∀ k, ov.ownBlock = some k → w.heap.size ≤ k ∧ k < wr.heap.size := fun k hk => h.row.lt hk
  have hA2 : ArC ((w3.alloc X).alloc Y) ab bg bt v3 (s.after j).take c := (hA.alloc X).alloc Y
  have z : ((w3.alloc X).alloc Y).heap.size = w3.heap.size + 2 := by rw [size_alloc, size_alloc]
  have hout3 : ∀ k, ov.ownBlock = some k → ¬ arFp ab bg bt v3 k := fun k hk => arFp_step (h.out k hk) (hrl k hk).2 ho
  have e : s.got (j + 1) = s.got j ++ [(x, (s.after j).gens x)] := by simp [Ar.got, hres]
  have s0 := h.chg.size
  have s1 := hc.size
  refine ⟨hA2.keep (fun k hk => hgr.block k (hA2.lt hk) (fun e => hout3 k e.symm hk)), ?_, ?_, ⟨?_, ?_⟩, ?_⟩
  · have c1 : Chg w w3 (arFp ab bg bt v) := h.chg.trans hc (fun i hi hf => by
      rcases hf with e | e | e | e
      · exact .inl e
      · exact .inr (.inl e)
      · exact .inr (.inr (.inl e))
      · rcases h.own i e with e' | e'
        · exact .inr (.inr (.inr e'))
        · omega)
    exact ((c1.alloc X).alloc Y).grown hgr (fun m hm hlt => by have := (hrl m hm).1; omega)
  · intro k hk
    rcases ho k hk with e' | e'
    · exact h.own k e'
    · right; omega
  · rw [e, hcells_append]; rw [List.length_append]; exact hrow
  · rw [e]
    intro p hp
    rw [List.mem_append, List.mem_singleton] at hp
    rcases hp with hp | rfl
    · exact h.row.i64 p hp
    · exact ⟨hxi, h.ar.genI x⟩
  · intro k hk hf
    rcases hat with e' | e'
    · exact hout3 k (e' ▸ hk) hf
    · rw [e'] at hk; cases hk
      have := hA.lt hf; omega

def ManyRel (w : World) (ab bg bt : Nat) (v : Value) (s : Ar) (c N : Nat) (ov i : Value) (wr : World) : Prop :=
  ∃ j v', j ≤ N ∧ i = .int .i64 (j : Nat) ∧ ManyAt w wr ab bg bt v s c j ov v'

set_option maxRecDepth 100000 in
set_option maxHeartbeats 400000 in
theorem many_ok (ab bg bt : Nat) (v : Value) (s : Ar) (c N : Nat) (w : World) (h : ArC w ab bg bt v s c) (hav : (N : Int) ≤ s.avail) :
    Calls Try.prog 21 #[.pointer (some ⟨ab, 0, none⟩), .int .i64 N] w fun e w' => ∃ rv v', e = .returned (.tuple #[rv, .int .i64 0]) ∧ ManyAt w w' ab bg bt v s c N rv v' := by
  have c0 := cell_of_blk h.blk 0
  simp at c0
  have hro := h.ok.room
  have hfr := h.ok.fresh
  obtain ⟨nt, _, _, hnt, _⟩ := h.taken
  have hav' := hav
  unfold Ar.avail at hav'
  obtain ⟨D, hD⟩ : ∃ D : Int, D = (s.fresh : Int) - s.free.length := ⟨_, rfl⟩
  have hl := fun W (hW : ArC W ab bg bt v s c) => len_any ab bg bt v s c W hW
  rw [← hD] at hav' hl
  have hD0 : 0 ≤ D := by omega
  have hD1 : D ≤ 1048576 := by omega
  have hw : IntKind.i64.wrap ((s.room : Int) - D) = (s.room : Int) - D := IntWalk.i64_in _ (by omega)
  have HL := Lib.hid hl
  have HA := Lib.hid h
  have hlt : decide ((s.room : Int) - D < (N : Int)) = false := by simp; omega
  have hNb : N ≤ 1048576 := by omega
  have hN0 : decide ((N : Int) < 0) = false := by simp
  obtain ⟨i0, hi, hz0, hz1, hz2⟩ := info_parts infoHandle
  clear hl hnt h hD
  go_enter Try.func21, Try.ntmps21
  go_wp2_with fail
  go_quiet ((go_at_call 20; refine Calls.quiet_of_same (Calls.mono (HL.out _ ?_) (fun _ _ h => ⟨h.1, h.2.symm⟩)); exact HA.out.keep (fun _ _ => rfl)))
  clear hw
  go_wp2_with fail
  go_loopw [6, 23] (fun ov i wr => ManyRel w ab bg bt v s c N ov i wr) (fun _ i _ => N - (intOf i).toNat)
  case atStart => exact ⟨0, v, Nat.zero_le _, rfl, ManyAt.start HA.out (below_drewN (Below.refl _ _) _)⟩
  case round =>
    obtain ⟨j, v', hj, rfl, hM⟩ := hrel
    by_cases hjl : j < N
    · obtain ⟨x, hres, hxi⟩ := Ar.after_res HA.out.ok (j := j) (by omega)
      have hlen := Ar.got_length s j
      have HLEN := Lib.hid hlen
      have hrow := hM.row.row
      have zb : w.heap.size ≤ wr.heap.size := hM.chg.size
      clear hlen
      obtain ⟨sj, hsj⟩ : ∃ sj, sj = s.after j := ⟨_, rfl⟩
      have HSJ := Lib.hid hsj
      have hAj := hM.ar
      rw [← hsj] at hres hAj
      clear hsj
      go_wp2_with fail
      refine (take_to _ _ _ _ _ _ _ _ _ _ hAj hres).mono ?_
      rintro e w3 ⟨rfl, v3, hA3, hc3, ho3⟩
      have zc := hc3.size
      have hrow3 : w3.ownsRow w.heap.size 30 2 u6 (s.got j).length (hcells (s.got j)) := ownsRow_of_block hrow (fun k hk => hc3.block k (hM.row.lt hk).2 (hM.out k hk))
      have hb5 := heap_new (w3.alloc (.cells #[.int .i64 x, .int .i64 (sj.gens x)] 30)) (.cells #[.int .i64 x, .int .i64 (sj.gens x)] 30)
      rw [size_alloc] at hb5
      go_wp2_with (at_builtin; go_must (refine wpList_append_own_at _ rfl _ _ 28 rfl w.heap.size 30 i0 (.agg #[.int .i64 0, .int .i64 0]) 2 16 Try.underlying28 hi hz0 hz1 hz2 rfl (by decide) _ (s.got j).length (hcells (s.got j)) rfl ((hrow3.alloc _).alloc _) ⟨w3.heap.size + 1, 0, none⟩ 1 1 [.int .i64 x, .int .i64 (sj.gens x)] rfl rfl (World.news_of_block (cs := #[.int .i64 x, .int .i64 (sj.gens x)]) (t := 30) (fr := (0, 0)) hb5) (by simp [Value.oneCell']) (by rw [HLEN.out]; unfold maxLen; omega) (by rw [HLEN.out]; omega) (by simp; omega) ?_; intro ov' w4 hown4 hgrow4 hnil4 hat4))
      rw [HSJ.out] at hres hA3 hown4
      exact ⟨⟨j + 1, v3, by omega, by simp, hM.step hres hxi hA3 hc3 ho3 hown4 hgrow4 hat4⟩, by simp [intOf]; omega⟩
    · go_wp2_with fail
      go_ret2
      obtain rfl : j = N := by omega
      exact ⟨_, v', rfl, hM⟩
end Go.Proofs.Ytfkckdfldalceaa
