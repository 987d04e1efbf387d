/- cobwebref03.Right. Conditions: the contract's own premises. -/
import Derived.Test.YtonilojjahfboaaGreatGc4
namespace Go.Proofs.YtonilojjahfboaaGreat
open Go.RowKit Go.Maps Go.Lib

open Classical in
theorem rightPs_long {ps : List Pr} (h : 16 < ps.length) : rightPs ps = false := decide_eq_false fun e => by omega
set_option maxRecDepth 100000 in
set_option maxHeartbeats 4000000 in
theorem r3right_any (a : Option Addr) (cap : Nat) (ps : List Pr) (w : World) (h : PsV w a ps) (hl : ps.length ≤ 100000) :
    Calls Tryz.prog 267 #[.slice a ps.length cap] w fun e w' => e = .returned (.bool (rightPs ps)) ∧ Below w.heap.size w w' := by
  by_cases h16 : 16 < ps.length
  · have HE := Lib.hid (rightPs_long h16)
    go_enter Tryz.func267, Tryz.ntmps267
    go_wp2_with fail
    go_ret
    exact ⟨by rw [HE.out]; rfl, Below.refl _ _⟩
  have HH := Lib.hid h
  clear h
  go_enter Tryz.func267, Tryz.ntmps267
  go_wp2_with fail
  go_loopw [3] (fun i wr => ∃ j : Nat, j ≤ ps.length ∧ i = .int .i64 j ∧ Hid (∀ i', i' < j → okAt ps i') ∧ Below w.heap.size w wr) (fun i _ => ps.length - (intOf i).toNat)
  case atStart => exact ⟨0, Nat.zero_le _, rfl, Lib.hid (fun _ h => absurd h (Nat.not_lt_zero _)), Below.refl _ _⟩
  case round =>
    obtain ⟨j, hj, rfl, HN, hbel⟩ := hrel
    by_cases hlt : j < ps.length
    · obtain ⟨p, hp⟩ : ∃ p, ps[j]? = some p := ⟨_, List.getElem?_eq_getElem hlt⟩
      obtain ⟨b, off, rfl, hat⟩ := (HH.out.below hbel) (fun e => by rw [e] at hlt; simp at hlt)
      obtain ⟨q0, q1, q2, q3⟩ := hat.cells j p hp
      have hok := hat.ok p (List.mem_of_getElem? hp)
      have hlb := hat.lt
      have HP := Lib.hid hp
      have HS := Lib.hid hok.key
      have HV := Lib.hid hok.v
      have HAT := Lib.hid hat
      clear hp hok hat
      cases hbk : badS p.key
      · have HB := Lib.hid hbk
        clear hbk
        go_wp2_with fail
        refine (r1right_any p.key _ HS.out).mono ?_
        rintro e w1 ⟨rfl, hb1⟩
        rw [HB.out]
        have hat1 := HAT.out.of_block (hb1.block b hlb)
        clear q0 q1 q2 q3
        obtain ⟨q0, q1, q2, q3⟩ := hat1.cells j p HP.out
        have hlb1 := hat1.lt
        clear hat1
        go_wp2_with fail
        refine (r2right_any p.v _ HV.out).mono ?_
        rintro e w2 ⟨rfl, hb2⟩
        have hb12 := below_then hb1 hb2
        have hat2 := HAT.out.of_block (hb12.block b hlb)
        clear q0 q1 q2 q3 hlb1
        obtain ⟨q0, q1, q2, q3⟩ := hat2.cells j p HP.out
        have hlb2 := hat2.lt
        have HA2 := Lib.hid hat2
        have hbw := below_then hbel hb12
        clear hat2 hb1 hb2
        cases hvr : p.v.right
        · have HF := Lib.hid (rightPs_no hlt (fun ho => by have := (ho p HP.out).2.1; rw [hvr] at this; cases this))
          clear hvr
          go_wp2_with fail
          go_ret
          exact ⟨by rw [HF.out]; rfl, hbw⟩
        · have HVR := Lib.hid hvr
          clear hvr
          rcases Nat.eq_zero_or_pos j with hj0 | hj0
          · subst hj0
            have HO : Hid (okAt ps 0) := Lib.hid (fun p' hp' => by
              have e := HP.out.symm.trans hp'
              injection e with e
              subst e
              exact ⟨HB.out, HVR.out, fun q h0 => absurd h0 (Nat.lt_irrefl _)⟩)
            clear q0 q1 q2 q3
            go_wp2_with fail
            refine wp_region_held_drew (S := (fun w' => Below w2.heap.size w2 w')) (by kernel_rfl) ((Below.refl _ _).drew) (fun hHeld => ?_)
            refine wpAnyH_take (i := 0) (oi := ⟨some 29, _, _, _, _, _⟩) (v := ?va0) rfl (by kernel_rfl) (by kernel_rfl) (by kernel_rfl) (fun _ _ _ h => h) (Or.inl ⟨by rfl, ?ya0⟩) hHeld ?ra0
            case ya0 => (intro wq hSw; (try dsimp only at hSw); go_simp; first | done | with_reducible rfl)
            simp only [Act.put, List.setIfInBounds_toArray, List.set_cons_zero, List.set_cons_succ]
            refine wpAnyH_take (i := 1) (oi := ⟨some 30, _, _, _, _, _⟩) (v := ?va1) rfl (by kernel_rfl) (by kernel_rfl) (by kernel_rfl) (fun _ _ _ h => h) (Or.inl ⟨by rfl, ?ya1⟩) hHeld ?ra1
            case ya1 => (intro wq hSw; (try dsimp only at hSw); go_simp; first | done | with_reducible rfl)
            simp only [Act.put, List.setIfInBounds_toArray, List.set_cons_zero, List.set_cons_succ]
            refine wpAnyH_take (i := 2) (oi := ⟨some 31, _, _, _, _, _⟩) (v := ?va2) rfl (by kernel_rfl) (by kernel_rfl) (by kernel_rfl) (fun _ _ _ h => h) (Or.inl ⟨by rfl, ?ya2⟩) hHeld ?ra2
            case ya2 => (intro wq hSw; (try dsimp only at hSw); go_simp; first | done | with_reducible rfl)
            simp only [Act.put, List.setIfInBounds_toArray, List.set_cons_zero, List.set_cons_succ]
            refine wpAnyH_take (i := 3) (oi := ⟨some 32, _, _, _, _, _⟩) (v := undef) rfl (by kernel_rfl) (by kernel_rfl) (by kernel_rfl) (fun _ _ _ h => h) (Or.inr ⟨by rfl, rfl⟩) hHeld ?_
            simp only [Act.put, List.setIfInBounds_toArray, List.set_cons_zero, List.set_cons_succ]
            refine wpAnyH_take (i := 4) (oi := ⟨some 33, _, _, _, _, _⟩) (v := undef) rfl (by kernel_rfl) (by kernel_rfl) (by kernel_rfl) (fun _ _ _ h => h) (Or.inr ⟨by rfl, rfl⟩) hHeld ?_
            simp only [Act.put, List.setIfInBounds_toArray, List.set_cons_zero, List.set_cons_succ]
            refine wpAnyH_take (i := 5) (oi := ⟨some 34, _, _, _, _, _⟩) (v := undef) rfl (by kernel_rfl) (by kernel_rfl) (by kernel_rfl) (fun _ _ _ h => h) (Or.inr ⟨by rfl, rfl⟩) hHeld ?_
            simp only [Act.put, List.setIfInBounds_toArray, List.set_cons_zero, List.set_cons_succ]
            refine wpAnyH_take (i := 6) (oi := ⟨some 35, _, _, _, _, _⟩) (v := undef) rfl (by kernel_rfl) (by kernel_rfl) (by kernel_rfl) (fun _ _ _ h => h) (Or.inr ⟨by rfl, rfl⟩) hHeld ?_
            simp only [Act.put, List.setIfInBounds_toArray, List.set_cons_zero, List.set_cons_succ]
            refine wpAnyH_take (i := 7) (oi := ⟨some 36, _, _, _, _, _⟩) (v := undef) rfl (by kernel_rfl) (by kernel_rfl) (by kernel_rfl) (fun _ _ _ h => h) (Or.inr ⟨by rfl, rfl⟩) hHeld ?_
            simp only [Act.put, List.setIfInBounds_toArray, List.set_cons_zero, List.set_cons_succ]
            refine wpAnyH_take (i := 8) (oi := ⟨some 37, _, _, _, _, _⟩) (v := undef) rfl (by kernel_rfl) (by kernel_rfl) (by kernel_rfl) (fun _ _ _ h => h) (Or.inr ⟨by rfl, rfl⟩) hHeld ?_
            simp only [Act.put, List.setIfInBounds_toArray, List.set_cons_zero, List.set_cons_succ]
            refine wpAnyH_take (i := 9) (oi := ⟨some 38, _, _, _, _, _⟩) (v := undef) rfl (by kernel_rfl) (by kernel_rfl) (by kernel_rfl) (fun _ _ _ h => h) (Or.inr ⟨by rfl, rfl⟩) hHeld ?_
            simp only [Act.put, List.setIfInBounds_toArray, List.set_cons_zero, List.set_cons_succ]
            refine wpAnyH_take (i := 10) (oi := ⟨some 39, _, _, _, _, _⟩) (v := undef) rfl (by kernel_rfl) (by kernel_rfl) (by kernel_rfl) (fun _ _ _ h => h) (Or.inr ⟨by rfl, rfl⟩) hHeld ?_
            simp only [Act.put, List.setIfInBounds_toArray, List.set_cons_zero, List.set_cons_succ]
            refine wpAnyH_take (i := 11) (oi := ⟨some 40, _, _, _, _, _⟩) (v := undef) rfl (by kernel_rfl) (by kernel_rfl) (by kernel_rfl) (fun _ _ _ h => h) (Or.inr ⟨by rfl, rfl⟩) hHeld ?_
            simp only [Act.put, List.setIfInBounds_toArray, List.set_cons_zero, List.set_cons_succ]
            refine wpAnyH_take (i := 12) (oi := ⟨some 41, _, _, _, _, _⟩) (v := undef) rfl (by kernel_rfl) (by kernel_rfl) (by kernel_rfl) (fun _ _ _ h => h) (Or.inr ⟨by rfl, rfl⟩) hHeld ?_
            simp only [Act.put, List.setIfInBounds_toArray, List.set_cons_zero, List.set_cons_succ]
            refine wpAnyH_take (i := 13) (oi := ⟨some 42, _, _, _, _, _⟩) (v := undef) rfl (by kernel_rfl) (by kernel_rfl) (by kernel_rfl) (fun _ _ _ h => h) (Or.inr ⟨by rfl, rfl⟩) hHeld ?_
            simp only [Act.put, List.setIfInBounds_toArray, List.set_cons_zero, List.set_cons_succ]
            refine wpAnyH_take (i := 14) (oi := ⟨some 43, _, _, _, _, _⟩) (v := undef) rfl (by kernel_rfl) (by kernel_rfl) (by kernel_rfl) (fun _ _ _ h => h) (Or.inr ⟨by rfl, rfl⟩) hHeld ?_
            simp only [Act.put, List.setIfInBounds_toArray, List.set_cons_zero, List.set_cons_succ]
            refine wpAnyH_take (i := 15) (oi := ⟨some 44, _, _, _, _, _⟩) (v := undef) rfl (by kernel_rfl) (by kernel_rfl) (by kernel_rfl) (fun _ _ _ h => h) (Or.inr ⟨by rfl, rfl⟩) hHeld ?_
            simp only [Act.put, List.setIfInBounds_toArray, List.set_cons_zero, List.set_cons_succ]
            refine wpAnyH_take (i := 16) (oi := ⟨some 45, _, _, _, _, _⟩) (v := ?va16) rfl (by kernel_rfl) (by kernel_rfl) (by kernel_rfl) (fun _ _ _ h => h) (Or.inl ⟨by rfl, ?ya16⟩) hHeld ?ra16
            case ya16 => (intro wq hSw; (try dsimp only at hSw); go_simp; first | done | with_reducible rfl)
            simp only [Act.put, List.setIfInBounds_toArray, List.set_cons_zero, List.set_cons_succ]
            refine wpAnyH_done (by kernel_rfl) ?_ _
            go_wp2_with fail
            exact ⟨⟨1, by omega, by go_num, Lib.hid (fun i' hi' => by
              obtain rfl : i' = 0 := by omega
              exact HO.out), hbw.drew⟩, by simp [intOf]; omega⟩
          · obtain ⟨j', rfl⟩ : ∃ j', j = j' + 1 := ⟨j - 1, by omega⟩
            obtain ⟨q, hq⟩ : ∃ q, ps[j']? = some q := ⟨_, List.getElem?_eq_getElem (by omega)⟩
            obtain ⟨p0, p1, p2, p3⟩ := HA2.out.cells j' q hq
            have HQ := Lib.hid hq
            have HQS := Lib.hid (HA2.out.ok q (List.mem_of_getElem? hq)).key
            have ks : ∀ w', Below w2.heap.size w2 w' → (fun w' => Below w2.heap.size w2 w' ∧ w'.cell? ⟨b, off + (j' + 1) * 4, none⟩ = some (.string p.key) ∧ w'.cell? ⟨b, off + j' * 4, none⟩ = some (.string q.key)) w' := fun w' hb => ⟨hb, below_cell hb _ hlb2 q0, below_cell hb _ hlb2 p0⟩
            have KS := Lib.hid ks
            clear ks hq q0 q1 q2 q3 p0 p1 p2 p3
            have hjl : j' < ps.length := by omega
            have hja : (0 : Int) ≤ (j' : Int) + 1 := by omega
            have hjb : (j' : Int) + 1 < (ps.length : Int) := by omega
            have hwj : IntKind.i64.wrap (j' : Int) = j' := by simp [IntKind.wrap, IntKind.bits, IntKind.signed]; omega
            go_wp2_with fail
            refine wp_region_held_drew (S := (fun w' => Below w2.heap.size w2 w' ∧ w'.cell? ⟨b, off + (j' + 1) * 4, none⟩ = some (.string p.key) ∧ w'.cell? ⟨b, off + j' * 4, none⟩ = some (.string q.key))) (by kernel_rfl) (KS.out _ (Below.refl _ _).drew) (fun hHeld => ?_)
            refine wpAnyH_take (i := 0) (oi := ⟨some 29, _, _, _, _, _⟩) (v := ?vb0) rfl (by kernel_rfl) (by kernel_rfl) (by kernel_rfl) (fun _ _ _ h => h) (Or.inl ⟨by rfl, ?yb0⟩) hHeld ?rb0
            case yb0 => (intro wq hSw; (try dsimp only at hSw); go_simp; first | done | with_reducible rfl)
            simp only [Act.put, List.setIfInBounds_toArray, List.set_cons_zero, List.set_cons_succ]
            refine wpAnyH_take (i := 1) (oi := ⟨some 30, _, _, _, _, _⟩) (v := ?vb1) rfl (by kernel_rfl) (by kernel_rfl) (by kernel_rfl) (fun _ _ _ h => h) (Or.inl ⟨by rfl, ?yb1⟩) hHeld ?rb1
            case yb1 => (intro wq hSw; (try dsimp only at hSw); go_simp; first | done | with_reducible rfl)
            simp only [Act.put, List.setIfInBounds_toArray, List.set_cons_zero, List.set_cons_succ]
            refine wpAnyH_take (i := 2) (oi := ⟨some 31, _, _, _, _, _⟩) (v := ?vb2) rfl (by kernel_rfl) (by kernel_rfl) (by kernel_rfl) (fun _ _ _ h => h) (Or.inl ⟨by rfl, ?yb2⟩) hHeld ?rb2
            case yb2 => (intro wq hSw; (try dsimp only at hSw); go_simp; first | done | with_reducible rfl)
            simp only [Act.put, List.setIfInBounds_toArray, List.set_cons_zero, List.set_cons_succ]
            refine wpAnyH_take (i := 3) (oi := ⟨some 32, _, _, _, _, _⟩) (v := ?vb3) rfl (by kernel_rfl) (by kernel_rfl) (by kernel_rfl) (fun _ _ _ h => h) (Or.inl ⟨by rfl, ?yb3⟩) hHeld ?rb3
            case yb3 => (intro wq hSw; (try dsimp only at hSw); go_simp; first | done | with_reducible rfl)
            simp only [Act.put, List.setIfInBounds_toArray, List.set_cons_zero, List.set_cons_succ]
            refine wpAnyH_take (i := 4) (oi := ⟨some 33, _, _, _, _, _⟩) (v := ?vb4) rfl (by kernel_rfl) (by kernel_rfl) (by kernel_rfl) (fun _ _ _ h => h) (Or.inl ⟨by rfl, ?yb4⟩) hHeld ?rb4
            case yb4 => (intro wq hSw; (try dsimp only at hSw); go_simp; first | done | with_reducible rfl)
            simp only [Act.put, List.setIfInBounds_toArray, List.set_cons_zero, List.set_cons_succ]
            refine wpAnyH_take (i := 5) (oi := ⟨some 34, _, _, _, _, _⟩) (v := ?vb5) rfl (by kernel_rfl) (by kernel_rfl) (by kernel_rfl) (fun _ _ _ h => h) (Or.inl ⟨by rfl, ?yb5⟩) hHeld ?rb5
            case yb5 => (intro wq hSw; (try dsimp only at hSw); go_simp; first | done | with_reducible rfl)
            simp only [Act.put, List.setIfInBounds_toArray, List.set_cons_zero, List.set_cons_succ]
            refine wpAnyH_take (i := 6) (oi := ⟨some 35, _, _, _, _, _⟩) (v := ?vb6) rfl (by kernel_rfl) (by kernel_rfl) (by kernel_rfl) (fun _ _ _ h => h) (Or.inl ⟨by rfl, ?yb6⟩) hHeld ?rb6
            case yb6 => (intro wq hSw; (try dsimp only at hSw); go_simp; first | done | with_reducible rfl)
            simp only [Act.put, List.setIfInBounds_toArray, List.set_cons_zero, List.set_cons_succ]
            refine wpAnyH_take (i := 7) (oi := ⟨some 36, _, _, _, _, _⟩) (v := ?vb7) rfl (by kernel_rfl) (by kernel_rfl) (by kernel_rfl) (fun _ _ _ h => h) (Or.inl ⟨by rfl, ?yb7⟩) hHeld ?rb7
            case yb7 => (intro wq hSw; (try dsimp only at hSw); go_simp; first | done | with_reducible rfl)
            simp only [Act.put, List.setIfInBounds_toArray, List.set_cons_zero, List.set_cons_succ]
            refine wpAnyH_take (i := 8) (oi := ⟨some 37, _, _, _, _, _⟩) (v := ?vb8) rfl (by kernel_rfl) (by kernel_rfl) (by kernel_rfl) (fun _ _ _ h => h) (Or.inl ⟨by rfl, ?yb8⟩) hHeld ?rb8
            case yb8 => (intro wq hSw; (try dsimp only at hSw); go_simp; first | done | with_reducible rfl)
            simp only [Act.put, List.setIfInBounds_toArray, List.set_cons_zero, List.set_cons_succ]
            refine wpAnyH_take (i := 9) (oi := ⟨some 38, _, _, _, _, _⟩) (v := ?vb9) rfl (by kernel_rfl) (by kernel_rfl) (by kernel_rfl) (fun _ _ _ h => h) (Or.inl ⟨by rfl, ?yb9⟩) hHeld ?rb9
            case yb9 => (intro wq hSw; (try dsimp only at hSw); go_simp; first | done | with_reducible rfl)
            simp only [Act.put, List.setIfInBounds_toArray, List.set_cons_zero, List.set_cons_succ]
            refine wpAnyH_take (i := 10) (oi := ⟨some 39, _, _, _, _, _⟩) (v := ?vb10) rfl (by kernel_rfl) (by kernel_rfl) (by kernel_rfl) (fun _ _ _ h => h) (Or.inl ⟨by rfl, ?yb10⟩) hHeld ?rb10
            case yb10 => (intro wq hSw; (try dsimp only at hSw); go_simp; first | done | with_reducible rfl)
            simp only [Act.put, List.setIfInBounds_toArray, List.set_cons_zero, List.set_cons_succ]
            refine wpAnyH_take (i := 11) (oi := ⟨some 40, _, _, _, _, _⟩) (v := ?vb11) rfl (by kernel_rfl) (by kernel_rfl) (by kernel_rfl) (fun _ _ _ h => h) (Or.inl ⟨by rfl, ?yb11⟩) hHeld ?rb11
            case yb11 => (intro wq hSw; (try dsimp only at hSw); go_simp; first | done | with_reducible rfl)
            simp only [Act.put, List.setIfInBounds_toArray, List.set_cons_zero, List.set_cons_succ]
            refine wpAnyH_take (i := 12) (oi := ⟨some 41, _, _, _, _, _⟩) (v := ?vb12) rfl (by kernel_rfl) (by kernel_rfl) (by kernel_rfl) (fun _ _ _ h => h) (Or.inl ⟨by rfl, ?yb12⟩) hHeld ?rb12
            case yb12 => (intro wq hSw; (try dsimp only at hSw); go_simp; first | done | with_reducible rfl)
            simp only [Act.put, List.setIfInBounds_toArray, List.set_cons_zero, List.set_cons_succ]
            refine wpAnyH_take (i := 13) (oi := ⟨some 42, _, _, _, _, _⟩) (v := ?vb13) rfl (by kernel_rfl) (by kernel_rfl) (by kernel_rfl) (fun _ _ _ h => h) (Or.inl ⟨by rfl, ?yb13⟩) hHeld ?rb13
            case yb13 => (intro wq hSw; (try dsimp only at hSw); go_simp; first | done | with_reducible rfl)
            simp only [Act.put, List.setIfInBounds_toArray, List.set_cons_zero, List.set_cons_succ]
            refine wpAnyH_ready (rs := [14]) (by kernel_rfl) (by simp) ?_
            refine AllReadyH.cons (o := ⟨some 43, _, _, _, _, _⟩) rfl (fun K hK => ?_) AllReadyH.nil
            go_simp
            refine (r1compare_any q.key p.key _ HQS.out HS.out).mono ?_
            rintro e we ⟨rfl, hbe⟩
            obtain ⟨z, hz⟩ : ∃ z, cmpL (runes q.key) (runes p.key) = z := ⟨_, rfl⟩
            have HZ := Lib.hid hz
            rw [hz]
            clear hz
            go_wp2_with fail
            refine hK.out _ _ ?sb14 (fun hHeld => ?_)
            case sb14 => (exact KS.out _ (below_then (Below.refl _ _).drew hbe))
            clear hK K
            try simp only [Act.put, List.setIfInBounds_toArray, List.set_cons_zero, List.set_cons_succ]
            refine wpAnyH_take (i := 15) (oi := ⟨some 44, _, _, _, _, _⟩) (v := ?vb15) rfl (by kernel_rfl) (by kernel_rfl) (by kernel_rfl) (fun _ _ _ h => h) (Or.inl ⟨by rfl, ?yb15⟩) hHeld ?rb15
            case yb15 => (intro wq hSw; (try dsimp only at hSw); go_simp; first | done | with_reducible rfl)
            simp only [Act.put, List.setIfInBounds_toArray, List.set_cons_zero, List.set_cons_succ]
            refine wpAnyH_take (i := 16) (oi := ⟨some 45, _, _, _, _, _⟩) (v := ?vb16) rfl (by kernel_rfl) (by kernel_rfl) (by kernel_rfl) (fun _ _ _ h => h) (Or.inl ⟨by rfl, ?yb16⟩) hHeld ?rb16
            case yb16 => (intro wq hSw; (try dsimp only at hSw); go_simp; first | done | with_reducible rfl)
            simp only [Act.put, List.setIfInBounds_toArray, List.set_cons_zero, List.set_cons_succ]
            refine wpAnyH_done (by kernel_rfl) ?_ _
            clear hwj hja hjb hjl
            by_cases hz : 0 ≤ z
            · have HF := Lib.hid (rightPs_no hlt (fun ho => by have := (ho p HP.out).2.2 q (by omega) HQ.out; rw [HZ.out] at this; omega))
              go_wp2_with fail
              go_ret
              exact ⟨by rw [HF.out]; rfl, below_then hbw (below_then (Below.refl _ _).drew hbe)⟩
            · have HO : Hid (okAt ps (j' + 1)) := Lib.hid (fun p' hp' => by
                have e := HP.out.symm.trans hp'
                injection e with e
                subst e
                exact ⟨HB.out, HVR.out, fun q' _ hq' => by
                  have e := HQ.out.symm.trans hq'
                  injection e with e
                  subst e
                  rw [HZ.out]; omega⟩)
              go_wp2_with fail
              exact ⟨⟨j' + 1 + 1, by omega, by go_num, Lib.hid (fun i' hi' => by
                by_cases hi : i' = j' + 1
                · subst hi; exact HO.out
                · exact HN.out i' (by omega)), below_then hbw (below_then (Below.refl _ _).drew hbe)⟩, by simp [intOf]; omega⟩
      · have HF := Lib.hid (rightPs_no hlt (fun ho => by have := (ho p HP.out).1; rw [hbk] at this; cases this))
        have HB := Lib.hid hbk
        clear hbk
        go_wp2_with fail
        refine (r1right_any p.key _ HS.out).mono ?_
        rintro e w1 ⟨rfl, hb1⟩
        rw [HB.out]
        go_wp2_with fail
        go_ret
        exact ⟨by rw [HF.out]; rfl, below_then hbel hb1⟩
    · have HF := Lib.hid (rightPs_end (fun i hi => HN.out i (by omega)))
      have h16' : decide (ps.length ≤ 16) = true := decide_eq_true (by omega)
      go_wp2_with fail
      go_ret
      exact ⟨by rw [HF.out, h16']; rfl, hbel⟩
end Go.Proofs.YtonilojjahfboaaGreat
