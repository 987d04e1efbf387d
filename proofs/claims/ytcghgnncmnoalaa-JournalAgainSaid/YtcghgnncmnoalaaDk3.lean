/- The disk: a crash. Conditions: each contract's own premises. -/
import Derived.Test.YtcghgnncmnoalaaDk2
namespace Go.Proofs.Ytcghgnncmnoalaa
open Go.RowKit Go.Maps

/-- how much a crash leaves -/
def crashN (safe len : Nat) (keep : Int) : Nat := safe + (min (max keep 0) ((len : Int) - safe)).toNat
theorem crashN_le {safe len : Nat} (keep : Int) (h : safe ≤ len) : safe ≤ crashN safe len keep ∧ crashN safe len keep ≤ len := by unfold crashN; omega
theorem crashN_eq {safe len : Nat} (keep : Int) (h : safe ≤ len) : (safe : Int) + min (max keep 0) ((len : Int) - safe) = (crashN safe len keep : Nat) := by unfold crashN; omega
/-- a flush of a disk whose safe part may lie behind its end -/
theorem dkFlush_cell {V : World} {db room safe k B cap : Nat} {a : Option Addr} {l : List UInt8} (e2 : V.heap[db]? = some (.cells #[.int .i64 room, .int .i64 safe, .slice a k cap] 169)) (hk : l.length = k) (hb : BsO V B (.slice a k cap) l) (h3 : (Value.slice a k cap).ownBlock ≠ some db) (hroom : room ≤ 1073741824) (hll : k ≤ 1000000) :
    Calls Try.prog 109 #[.pointer (some ⟨db, 0, none⟩)] V (DkPost V db room k B l k) := by
  have c1' := cell_of_blk e2 1
  have c2' := cell_of_blk e2 2
  have f1' := frozen_of_blk e2 1
  simp at c1' c2'
  have HC2 : Hid (Chg V (V.setCell ⟨db, 1, none⟩ (.int .i64 k)) (fun j => j = db)) := Lib.hid ((Chg.refl V (fun j => j = db)).setCell (p := ⟨db, 1, none⟩) (fun _ => rfl) _)
  have HD : Hid (DkS (V.setCell ⟨db, 1, none⟩ (.int .i64 k)) db room k B l) := Lib.hid (by
    refine ⟨⟨a, cap, by rw [blk_setCell e2, hk]; rfl, ?_, by rw [hk]; exact h3⟩, hroom, by omega, by omega⟩
    rw [hk]
    exact ownsRow_of_block hb (fun j hj => HC2.out.block j (hb.lt j hj).2 (fun e => h3 (by rw [hj, e]))))
  clear e2 hb h3 hk
  go_enter Try.func109, Try.ntmps109
  go_wp2_with fail
  go_ret
  exact ⟨rfl, HD.out, HC2.out⟩
set_option maxRecDepth 100000 in
set_option maxHeartbeats 4000000 in
theorem dkCrash_any {w : World} {db room safe B : Nat} {l : List UInt8} (h : DkS w db room safe B l) (keep : Int) : Calls Try.prog 63 #[.pointer (some ⟨db, 0, none⟩), .int .i64 keep] w (DkPost w db room (crashN safe l.length keep) B (l.take (crashN safe l.length keep)) (crashN safe l.length keep)) := by
  obtain ⟨a, cap, h1, h2, h3⟩ := h.ex
  have c1 := cell_of_blk h1 1
  have c2 := cell_of_blk h1 2
  have f2 := frozen_of_blk h1 2
  simp at c1 c2
  obtain ⟨hm1, hm2⟩ := crashN_le keep h.hs
  have hm3 := crashN_eq keep h.hs
  obtain ⟨m, hm⟩ : ∃ m, crashN safe l.length keep = m := ⟨_, rfl⟩
  rw [hm] at hm1 hm2 hm3 ⊢
  have hlen : (l.take m).length = m := by rw [List.length_take]; omega
  obtain ⟨V, hV⟩ : ∃ V, w.setCell ⟨db, 2, none⟩ (.slice a m cap) = V := ⟨_, rfl⟩
  have HC : Hid (Chg w V (fun j => j = db)) := Lib.hid (by rw [← hV]; exact (Chg.refl w (fun j => j = db)).setCell (p := ⟨db, 2, none⟩) (fun _ => rfl) _)
  have HC2 : Hid (Chg w V.drew (fun j => j = db)) := Lib.hid (HC.out.trans (Chg.of_below (below_drewN (Below.refl _ _) 1) _) (fun _ _ h => h))
  have e2 : V.heap[db]? = some (.cells #[.int .i64 room, .int .i64 safe, .slice a m cap] 169) := by rw [← hV, blk_setCell h1]; rfl
  have hob : (Value.slice a m cap).ownBlock = (Value.slice a l.length cap).ownBlock := by cases a <;> rfl
  have hBm : BsO V B (.slice a m cap) (l.take m) := ownsRow_of_block (bs_take h2 hm2) (fun j hj => by
    rw [hob] at hj
    exact HC.out.block j (h2.lt j hj).2 (fun e => h3 (by rw [hj, e])))
  have HF := Lib.hid (dkFlush_cell (V := V.drew) e2 hlen (hBm.below (below_drewN (Below.refl _ _) 1)) (by rw [hob]; exact h3) h.hr (by have := h.hl; omega))
  have HR := Lib.hid (fun u => run_sliceBP h2 m hm2 u)
  have HV := Lib.hid hV
  obtain ⟨n, hn⟩ : ∃ n, n = l.length := ⟨_, rfl⟩
  have hs := h.hs
  have hl := h.hl
  rw [← hn] at c2 hm2 hm3 HR hs hl
  have w1 : IntKind.i64.wrap ((n : Int) - (safe : Int)) = (n : Int) - safe := by rw [IntKind.wrap_i64]; omega
  have w2 : wrap64 ((safe : Int) + if (n : Int) - (safe : Int) < (if keep < 0 then 0 else keep) then (n : Int) - (safe : Int) else if keep < 0 then 0 else keep) = (m : Int) := by
    unfold wrap64
    by_cases hk : keep < 0 <;> simp only [hk, if_true, if_false] <;> split <;> omega
  obtain ⟨_, g2, g3, g4⟩ := bs_cap h2
  have hz : (m : Int) ≤ (cap : Int) := by omega
  have HW1 := Lib.hid (And.intro hm1 (And.intro hm2 hm3))
  have G3 := Lib.hid g3
  have G4 := Lib.hid g4
  clear g2 g3 g4
  clear h h1 h2 h3 hV e2 hBm hob hlen hn hm hm1 hm2 hm3 hs hl
  go_enter Try.func63, Try.ntmps63
  go_upto_region 1 with fail
  cases a with
  | none =>
    obtain ⟨r1, r2⟩ := G3.out rfl
    subst r1 r2
    go_big_region
    rw [HV.out]
    go_wp2_with fail
    all_goals (
      refine HF.out.mono ?_
      rintro e w3 ⟨rfl, q1, q2⟩
      have HQ := Lib.hid (And.intro q1 q2)
      clear q1 q2
      go_wp2_with fail
      go_ret
      exact ⟨rfl, HQ.out.1, HC2.out.trans HQ.out.2 (fun _ _ h => h)⟩)
  | some x =>
    obtain ⟨g, rfl, _⟩ := G4.out x rfl
    go_big_region
    rw [HV.out]
    go_wp2_with fail
    all_goals (
      refine HF.out.mono ?_
      rintro e w3 ⟨rfl, q1, q2⟩
      have HQ := Lib.hid (And.intro q1 q2)
      clear q1 q2
      go_wp2_with fail
      go_ret
      exact ⟨rfl, HQ.out.1, HC2.out.trans HQ.out.2 (fun _ _ h => h)⟩)
end Go.Proofs.Ytcghgnncmnoalaa
