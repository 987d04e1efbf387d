/- The store of package cell: Unlock. Conditions: each contract's own premises. -/
import Derived.Test.YtonilojjahfboaaCell8
namespace Go.Proofs.Ytonilojjahfboaa
open Go.RowKit Go.Maps

/-- may one unlock keys? -/
def unlockOk (g : Ky → Option Cl) (who : Int) (ks : List Ky) (j : Nat) : Prop := ∀ i k, i < j → ks[i]? = some k → holdsV (g k) who = true ∧ k ∉ ks.take i
theorem unlockOk.next {g : Ky → Option Cl} {who : Int} {ks : List Ky} {j : Nat} {k : Ky} (h : unlockOk g who ks j) (hk : ks[j]? = some k) (h1 : holdsV (g k) who = true) (h2 : k ∉ ks.take j) : unlockOk g who ks (j + 1) := by
  intro i k' hi hk'
  rcases Nat.lt_succ_iff_lt_or_eq.1 hi with e | rfl
  · exact h i k' e hk'
  · rw [hk] at hk'; cases hk'; exact ⟨h1, h2⟩

theorem KsV.below {w w' : World} {S : Nat → Prop} {a : Option Addr} {ks : List Ky} (h : KsV w S a ks) (hb : Below w.heap.size w w') : KsV w' S a ks := fun e => by
  obtain ⟨b, off, h1, h2, h3⟩ := h e
  exact ⟨b, off, h1, h2.of_block (hb.block _ h2.lt), h3⟩
theorem KsV.take {w : World} {S : Nat → Prop} {a : Option Addr} {ks : List Ky} (h : KsV w S a ks) (j : Nat) : KsV w (fun _ => False) a (ks.take j) := fun e => by
  obtain ⟨b, off, h1, h2, _⟩ := h (fun e' => e (by rw [e']; simp))
  refine ⟨b, off, h1, ⟨fun k hk => h2.ok k (List.mem_of_mem_take hk), fun i k hk => h2.cells i k ?_, h2.lt⟩, fun f => f⟩
  rw [List.getElem?_take] at hk
  split at hk
  · exact hk
  · cases hk

/-- the cells of a box that holds a key, in a later world -/
def BoxK (W : World) (b : Nat) (k : Ky) (w' : World) : Prop := Below W.heap.size W w' ∧ w'.cell? ⟨b, 0, none⟩ = some (.int .i64 k.kind) ∧ w'.cell? ⟨b, 1, none⟩ = some (.int .i64 k.a) ∧ w'.cell? ⟨b, 2, none⟩ = some (.int .i64 k.b) ∧ w'.cell? ⟨b, 3, none⟩ = some (.string k.s)
theorem BoxK.mk {W : World} {b : Nat} {k : Ky} {t : TypeId} {z : Nat × Nat} (hb : W.heap[b]? = some (.cells #[.int .i64 k.kind, .int .i64 k.a, .int .i64 k.b, .string k.s] t z)) (w' : World) (h : Below W.heap.size W w') : BoxK W b k w' := by
  have e := (h.block b (Array.getElem?_eq_some_iff.1 hb).1).trans hb
  exact ⟨h, by rw [cell_of_blk e]; rfl, by rw [cell_of_blk e]; rfl, by rw [cell_of_blk e]; rfl, by rw [cell_of_blk e]; rfl⟩

theorem holds_g (s : Sto) (b : Nat) (k : Ky) (who : Int) (w : World) (h : StC w s) (hb : s.sb = b) (hk : k.Ok) :
    Calls Try.prog 71 #[.pointer (some ⟨b, 0, none⟩), .agg #[.int .i64 k.kind, .int .i64 k.a, .int .i64 k.b, .string k.s], .int .i64 who] w fun e w' => e = .returned (.bool (holdsV (s.g k) who)) ∧ Below w.heap.size w w' := by
  subst hb
  rw [← Sto.holds_g]
  exact holds_any s k who w h hk

def UnRel (w : World) (g : Ky → Option Cl) (who : Int) (ks : List Ky) (i : Value) (wr : World) : Prop :=
  ∃ j : Nat, j ≤ ks.length ∧ i = .int .i64 j ∧ unlockOk g who ks j ∧ Below w.heap.size w wr

set_option maxRecDepth 100000 in
set_option maxHeartbeats 1000000 in
theorem unlock_stale (s : Sto) (b cap : Nat) (who : Int) (a : Option Addr) (ks : List Ky) (w : World) (h : StC w s) (hb : s.sb = b) (hks : KsV w s.fp a ks) (hl : ks.length ≤ 1000) (hcap : ks.length ≤ cap) (hno : ¬ unlockOk s.g who ks ks.length) :
    Calls Try.prog 70 #[.pointer (some ⟨b, 0, none⟩), .int .i64 who, .slice a ks.length cap] w fun e w' => e = .returned (.int .i64 51) ∧ Below w.heap.size w w' := by
  have HB := Lib.hid hb
  clear hb
  go_enter Try.func70, Try.ntmps70
  go_wp2_with fail
  go_loopw [14] (fun i wr => UnRel w s.g who ks i wr) (fun i _ => ks.length - (intOf i).toNat)
  case atStart => exact ⟨0, Nat.zero_le _, rfl, fun _ _ h => absurd h (Nat.not_lt_zero _), Below.refl _ _⟩
  case round =>
    obtain ⟨j, hj, rfl, hok, hbel⟩ := hrel
    have OK := Lib.hid hok
    clear hok
    by_cases hlt : j < ks.length
    · obtain ⟨kk, hkk⟩ : ∃ kk, ks[j]? = some kk := ⟨_, List.getElem?_eq_getElem hlt⟩
      have KV := Lib.hid (hks.below hbel)
      obtain ⟨kb, off, rfl, kat, _⟩ := KV.out (fun e => by rw [e] at hlt; simp at hlt)
      have kok := kat.ok kk (List.mem_of_getElem? hkk)
      obtain ⟨q0, q1, q2, q3⟩ := kat.cells j kk hkk
      have hlb := kat.lt
      have hSt : ∀ w', Below (wr.alloc (.cells #[.int .i64 kk.kind, .int .i64 kk.a, .int .i64 kk.b, .string kk.s] 35)).heap.size (wr.alloc (.cells #[.int .i64 kk.kind, .int .i64 kk.a, .int .i64 kk.b, .string kk.s] 35)) w' → StC w' s := fun w' hb' => ((h.stay hbel).alloc _).stay hb'
      have hKt : ∀ w', Below (wr.alloc (.cells #[.int .i64 kk.kind, .int .i64 kk.a, .int .i64 kk.b, .string kk.s] 35)).heap.size (wr.alloc (.cells #[.int .i64 kk.kind, .int .i64 kk.a, .int .i64 kk.b, .string kk.s] 35)) w' → KsV w' (fun _ => False) (some ⟨kb, off, none⟩) (ks.take j) := fun w' hb' => ((KV.out.take j).below ((Below.refl _ _).alloc (Nat.le_refl _) _)).below hb'
      have ks0 := BoxK.mk (k := kk) (heap_new wr (.cells #[.int .i64 kk.kind, .int .i64 kk.a, .int .i64 kk.b, .string kk.s] 35))
      unfold BoxK at ks0
      have KS := Lib.hid ks0
      have HS := Lib.hid hSt
      have HT := Lib.hid hKt
      have HK := Lib.hid hkk
      have hc1 : (0 : Int) ≤ (j : Int) := by omega
      have hc2 : (j : Int) ≤ (cap : Int) := by omega
      have hlen : Hid ((ks.take j).length = j) := Lib.hid (by simp; omega)
      clear hSt hKt hkk kat ks0 hks h
      cases hh : holdsV (s.g kk) who
      · have HH := Lib.hid hh
        clear hh
        go_wp2_with fail
        obtain ⟨W, hW⟩ : ∃ W, W = wr.alloc (.cells #[.int .i64 kk.kind, .int .i64 kk.a, .int .i64 kk.b, .string kk.s] 35) := ⟨_, rfl⟩
        rw [← hW] at KS HS HT ⊢
        have hBW : Below w.heap.size w W := by rw [hW]; exact hbel.alloc hbel.size _
        clear hW
        obtain ⟨_, e0, e1, e2, e3⟩ := KS.out W (Below.refl _ _)
        first
          | (go_region_with (first | (go_at_call 71; (with_reducible refine (holds_g s b kk _ _ (HS.out _ ?hbw) HB.out kok).mono ?_); (case hbw => exact (Below.refl _ _).drew); rintro e wc ⟨rfl, hbc⟩; rw [HH.out])))
          | fail
        all_goals
          have hbc' : Below W.heap.size W wc := (Below.refl W.heap.size W).drew.trans hbc
          go_wp2_with fail
          go_ret
          exact ⟨rfl, hBW.trans (hbc'.mono hBW.size)⟩
      · have HH := Lib.hid hh
        clear hh
        go_wp2_with fail
        obtain ⟨W, hW⟩ : ∃ W, W = wr.alloc (.cells #[.int .i64 kk.kind, .int .i64 kk.a, .int .i64 kk.b, .string kk.s] 35) := ⟨_, rfl⟩
        rw [← hW] at KS HS HT ⊢
        have hBW : Below w.heap.size w W := by rw [hW]; exact hbel.alloc hbel.size _
        clear hW
        by_cases hin : kk ∈ ks.take j
        · go_region_held3 (fun w' => Below W.heap.size W w' ∧ w'.cell? ⟨wr.heap.size, 0, none⟩ = some (.int .i64 kk.kind) ∧ w'.cell? ⟨wr.heap.size, 1, none⟩ = some (.int .i64 kk.a) ∧ w'.cell? ⟨wr.heap.size, 2, none⟩ = some (.int .i64 kk.b) ∧ w'.cell? ⟨wr.heap.size, 3, none⟩ = some (.string kk.s))
            (first | exact KS.out _ (Below.refl _ _).drew | (go_split_ands; refine KS.out _ (below_then ?_ hbc); assumption))
            (first | (go_at_call 71; go_split_ands; (with_reducible refine (holds_g s b kk _ _ (HS.out _ ?hbw) HB.out kok).mono ?_); (case hbw => assumption); rintro e wc ⟨rfl, hbc⟩; rw [HH.out]) | (go_at_call 83; go_split_ands; have hct := contains_yes (some ⟨kb, off, none⟩) cap (ks.take j) kk _ (HT.out _ ‹_›) (by rw [hlen.out]; omega) hin; rw [hlen.out] at hct; (with_reducible refine hct.mono ?_); rintro e wc ⟨rfl, hbc⟩))
          go_split_ands
          go_wp2_with fail
          go_ret
          exact ⟨rfl, hBW.trans (Below.mono (by assumption) hBW.size)⟩
        · go_region_held3 (fun w' => Below W.heap.size W w' ∧ w'.cell? ⟨wr.heap.size, 0, none⟩ = some (.int .i64 kk.kind) ∧ w'.cell? ⟨wr.heap.size, 1, none⟩ = some (.int .i64 kk.a) ∧ w'.cell? ⟨wr.heap.size, 2, none⟩ = some (.int .i64 kk.b) ∧ w'.cell? ⟨wr.heap.size, 3, none⟩ = some (.string kk.s))
            (first | exact KS.out _ (Below.refl _ _).drew | (go_split_ands; refine KS.out _ (below_then ?_ hbc); assumption))
            (first | (go_at_call 71; go_split_ands; (with_reducible refine (holds_g s b kk _ _ (HS.out _ ?hbw) HB.out kok).mono ?_); (case hbw => assumption); rintro e wc ⟨rfl, hbc⟩; rw [HH.out]) | (go_at_call 83; go_split_ands; have hct := contains_no (some ⟨kb, off, none⟩) cap (ks.take j) kk _ (HT.out _ ‹_›) (by rw [hlen.out]; omega) hin; rw [hlen.out] at hct; (with_reducible refine hct.mono ?_); rintro e wc ⟨rfl, hbc⟩))
          go_split_ands
          go_wp2_with fail
          exact ⟨⟨j + 1, by omega, by go_num, OK.out.next HK.out HH.out hin, hBW.trans (Below.mono (by assumption) hBW.size)⟩, by simp [intOf]; omega⟩
    · exfalso
      exact hno (by rw [show ks.length = j by omega]; exact OK.out)
end Go.Proofs.Ytonilojjahfboaa
