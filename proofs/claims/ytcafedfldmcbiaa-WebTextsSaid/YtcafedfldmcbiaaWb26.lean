/- cobwebref03.Take. Conditions: the contract's own premises. -/
import Derived.Test.YtcafedfldmcbiaaWb25
import Derived.OneCell
namespace Go.Proofs.Ytcafedfldmcbiaa
open Go.RowKit Go.Maps Go.Lib

theorem PsO.set3 {w : World} {B P : Nat} {v : Value} {l : List Pr} (h : PsO w B v l) (hP : v.ownBlock ≠ some P) (x y z : Value) : PsO (((w.setCell ⟨P, 1, none⟩ x).setCell ⟨P, 2, none⟩ y).setCell ⟨P, 3, none⟩ z) B v l :=
  ownsRow_setCell_other (ownsRow_setCell_other (ownsRow_setCell_other h (a := ⟨P, 1, none⟩) hP x) (a := ⟨P, 2, none⟩) hP y) (a := ⟨P, 3, none⟩) hP z
theorem below_set3 {B P : Nat} {a w : World} (h : Below B a w) (hP : B ≤ P) (x y z : Value) : Below B a (((w.setCell ⟨P, 1, none⟩ x).setCell ⟨P, 2, none⟩ y).setCell ⟨P, 3, none⟩ z) :=
  ((h.setCell (p := ⟨P, 1, none⟩) hP x).setCell (p := ⟨P, 2, none⟩) hP y).setCell (p := ⟨P, 3, none⟩) hP z
set_option maxRecDepth 100000 in
set_option maxHeartbeats 4000000 in
theorem r3take_any (b off cap : Nat) (l : List UInt8) (w : World) (h : BsAt w b off l) (hl : l.length ≤ 1000000) (hcap : l.length ≤ cap) :
    Calls Try.prog 58 #[.slice (some ⟨b, off, none⟩) l.length cap] w (PkPost w (tkA l)) := by
  have hlw := h.lt
  obtain ⟨R, hR⟩ : ∃ R, R = tkA l := ⟨_, rfl⟩
  rw [← hR]
  have HR := Lib.hid hR
  clear hR
  have HH := Lib.hid h
  match l, h with
  | [], h =>
    clear h
    go_enter Try.func58, Try.ntmps58
    go_wp2_with fail
    go_ret3
    exact ⟨Below.refl _ _, _, 0, 20, [], rfl, .inr ⟨by decide, HR.out, rfl⟩⟩
  | x :: r, h =>
    have q0 := h.cells 0 x rfl
    unfold bv at q0
    rw [Nat.add_zero] at q0
    simp at hl
    by_cases h16 : 16 < x.toNat
    · have HN : Hid (R = none) := Lib.hid (by rw [HR.out]; simp [tkA, h16])
      have hx256 : x.toNat < 256 := x.toNat_lt
      clear h
      go_enter Try.func58, Try.ntmps58
      go_wp2_with fail
      go_ret3
      exact ⟨Below.refl _ _, _, 0, 10, [], rfl, .inr ⟨by decide, HN.out, rfl⟩⟩
    · have HN : Hid (R = tkP x.toNat [] r 1) := Lib.hid (by rw [HR.out]; simp [tkA, h16])
      obtain ⟨c, hc⟩ : ∃ c, x.toNat = c := ⟨_, rfl⟩
      rw [hc] at HN h16 q0
      obtain ⟨L, hL⟩ : ∃ L, L = x :: r := ⟨_, rfl⟩
      have hLl : L.length = r.length + 1 := by rw [hL]; rfl
      rw [← hL] at HH hcap ⊢
      have HS : Hid (PtRel L c R w (.slice none 0 0) (.int .i64 1) (.int .i64 0) w) := Lib.hid ⟨0, 1, [], by omega, by omega, rfl, rfl, rfl, PsO.nil _ _, Lib.hid (by simp), Below.refl _ _, Lib.hid (by rw [HN.out, hL]; rfl)⟩
      have hc16 : c ≤ 16 := by omega
      have hL1 : 1 ≤ L.length := by omega
      have hLm : L.length ≤ 1000001 := by omega
      have hL0 : ((L.length : Int) == 0) = false := by simp; intro e; rw [e] at hL1; simp at hL1
      clear h hc hL HR HN h16 hLl hl
      go_enter Try.func58, Try.ntmps58
      go_wp2_with fail
      go_loopw [6, 7, 8] (fun s i j wr => PtRel L c R w s i j wr) (fun _ _ j _ => c - (intOf j).toNat)
      case atStart => exact HS.out
      case round =>
        obtain ⟨j, n, acc, hj, hn, rfl, rfl, hac, hO, HOk, hbel, HT⟩ := hrel
        have hat := HH.out.below hbel
        have hlb : b < wr.heap.size := hat.lt
        have HAT := Lib.hid hat
        clear hat
        by_cases hlt : j < c
        · obtain ⟨c', hc'⟩ : ∃ c', c - j = c' + 1 := ⟨c - j - 1, by omega⟩
          rw [hc'] at HT
          by_cases hln : n < L.length
          · obtain ⟨k, hk⟩ : ∃ k, L[n]? = some k := ⟨_, List.getElem?_eq_getElem hln⟩
            have q1 := HAT.out.cells n k hk
            unfold bv at q1
            have HD : Hid (L.drop n = k :: L.drop (n + 1)) := Lib.hid (by
              rw [List.getElem?_eq_getElem hln] at hk
              injection hk with hk
              rw [drop_get hln, hk])
            clear hk
            have hkn : k.toNat < 256 := k.toNat_lt
            have hrl : (L.drop (n + 1)).length = L.length - n - 1 := by simp; omega
            rw [HD.out] at HT
            by_cases hsh : (L.drop (n + 1)).length < k.toNat
            · have HN : Hid (R = none) := Lib.hid (by rw [HT.out, tkP_short hsh])
              rw [hrl] at hsh
              clear hrl
              go_wp2_with fail
              go_ret3
              exact ⟨hbel, _, 0, 20, [], rfl, .inr ⟨by decide, HN.out, rfl⟩⟩
            · have HSH := Lib.hid hsh
              rw [hrl] at hsh
              clear hrl
              obtain ⟨key, hkey⟩ : ∃ key : ByteArray, key = ⟨((L.drop (n + 1)).take k.toNat).toArray⟩ := ⟨_, rfl⟩
              have hks : key.size = k.toNat := by
                rw [hkey]
                show ((L.drop (n + 1)).take k.toNat).length = _
                simp; omega
              have HKM := Lib.hid (show key.size ≤ 1000000 by omega)
              have HK := Lib.hid hkey
              have hconv : ∀ i (hi : i < ((L.drop (n + 1)).take k.toNat).length), wr.cell? ((⟨b, off + (n + 1), none⟩ : Addr).add i) = some (.int .u8 ((((L.drop (n + 1)).take k.toNat)[i]).toNat : Int)) := fun i hi => by
                have hb2 := (HAT.out.drop (n + 1)).conv i (by simp at hi ⊢; omega)
                rw [hb2, List.getElem_take]
              have HCV := Lib.hid hconv
              clear hkey hconv
              have hWb := below_box wr (.cells #[.string key, .int .i64 0, .int .i64 0, .string ⟨#[]⟩] 79)
              have eW := heap_new wr (.cells #[.string key, .int .i64 0, .int .i64 0, .string ⟨#[]⟩] 79)
              obtain ⟨W1, hW1⟩ : ∃ W1, W1 = wr.alloc (.cells #[.string key, .int .i64 0, .int .i64 0, .string ⟨#[]⟩] 79) := ⟨_, rfl⟩
              rw [← hW1] at hWb eW
              have HW1 := Lib.hid hW1
              clear hW1
              have hlW : wr.heap.size < W1.heap.size := (Array.getElem?_eq_some_iff.1 eW).1
              have ks : ∀ w', Below W1.heap.size W1 w' → (fun w' => Below W1.heap.size W1 w' ∧ w'.cell? ⟨wr.heap.size, 0, none⟩ = some (.string key)) w' := fun w' hb => by
                have e := (hb.block _ hlW).trans eW
                exact ⟨hb, by rw [cell_of_blk e]; rfl⟩
              have KS := Lib.hid ks
              have HEW := Lib.hid eW
              have HWB := Lib.hid hWb
              clear ks eW hWb
              by_cases hcn : cap = n + 1
              · have hk0 : k.toNat = 0 := by omega
                have HN : Hid (R = none) := Lib.hid (by rw [HT.out, tkP_bad (by rw [hk0]; exact badS_empty)])
                have HBK : Hid (badS key = true) := Lib.hid (by rw [HK.out, hk0]; exact badS_empty)
                have HKE : Hid (key = ⟨#[]⟩) := Lib.hid (by rw [HK.out, hk0]; rfl)
                rw [hk0] at q1
                clear HCV HSH HT HD hsh
                subst hcn
                go_wp2_with (first | (refine wpList_toStr _ rfl (.tmp 51) rfl _ 0 _ [] rfl rfl (by intro i hi; simp at hi) ?_; rw [show (⟨([] : List UInt8).toArray⟩ : ByteArray) = key from HKE.out.symm]) | fail)
                rw [← HW1.out]
                refine wp_region_held_drew (S := (fun w' => Below W1.heap.size W1 w' ∧ w'.cell? ⟨wr.heap.size, 0, none⟩ = some (.string key))) (by kernel_rfl) (KS.out _ (Below.refl _ _).drew) (fun hHeld => ?_)
                refine wpAnyH_take (i := 0) (oi := ⟨some 54, _, _, _, _, _⟩) (v := ?va10) rfl (by kernel_rfl) (by kernel_rfl) (by kernel_rfl) (fun _ _ _ h => h) (Or.inl ⟨by rfl, ?ya10⟩) hHeld ?ra10
                case ya10 => (intro wq hSw; (try dsimp only at hSw); go_simp; first | done | with_reducible rfl)
                simp only [Act.put, List.setIfInBounds_toArray, List.set_cons_zero, List.set_cons_succ]
                refine wpAnyH_take (i := 1) (oi := ⟨some 55, _, _, _, _, _⟩) (v := ?va11) rfl (by kernel_rfl) (by kernel_rfl) (by kernel_rfl) (fun _ _ _ h => h) (Or.inl ⟨by rfl, ?ya11⟩) hHeld ?ra11
                case ya11 => (intro wq hSw; (try dsimp only at hSw); go_simp; first | done | with_reducible rfl)
                simp only [Act.put, List.setIfInBounds_toArray, List.set_cons_zero, List.set_cons_succ]
                refine wpAnyH_ready (rs := [2]) (by kernel_rfl) (by simp) ?_
                refine AllReadyH.cons (o := ⟨some 56, _, _, _, _, _⟩) rfl (fun K hK => ?_) AllReadyH.nil
                go_simp
                refine (r1right_any key _ HKM.out).mono ?_
                rintro e wc ⟨rfl, hbc⟩
                rw [HBK.out]
                go_wp2_with fail
                refine hK.out _ _ ?sa12 (fun hHeld => ?_)
                case sa12 => (exact KS.out _ (below_then (Below.refl _ _).drew hbc))
                clear hK K
                try simp only [Act.put, List.setIfInBounds_toArray, List.set_cons_zero, List.set_cons_succ]
                refine wpAnyH_take (i := 3) (oi := ⟨some 57, _, _, _, _, _⟩) (v := ?va13) rfl (by kernel_rfl) (by kernel_rfl) (by kernel_rfl) (fun _ _ _ h => h) (Or.inl ⟨by rfl, ?ya13⟩) hHeld ?ra13
                case ya13 => (intro wq hSw; (try dsimp only at hSw); go_simp; first | done | with_reducible rfl)
                simp only [Act.put, List.setIfInBounds_toArray, List.set_cons_zero, List.set_cons_succ]
                refine wpAnyH_take (i := 4) (oi := ⟨some 58, _, _, _, _, _⟩) (v := ?va14) rfl (by kernel_rfl) (by kernel_rfl) (by kernel_rfl) (fun _ _ _ h => h) (Or.inl ⟨by rfl, ?ya14⟩) hHeld ?ra14
                case ya14 => (intro wq hSw; (try dsimp only at hSw); go_simp; first | done | with_reducible rfl)
                simp only [Act.put, List.setIfInBounds_toArray, List.set_cons_zero, List.set_cons_succ]
                refine wpAnyH_take (i := 5) (oi := ⟨some 59, _, _, _, _, _⟩) (v := undef) rfl (by kernel_rfl) (by kernel_rfl) (by kernel_rfl) (fun _ _ _ h => h) (Or.inr ⟨by rfl, rfl⟩) hHeld ?_
                simp only [Act.put, List.setIfInBounds_toArray, List.set_cons_zero, List.set_cons_succ]
                refine wpAnyH_take (i := 6) (oi := ⟨some 60, _, _, _, _, _⟩) (v := undef) rfl (by kernel_rfl) (by kernel_rfl) (by kernel_rfl) (fun _ _ _ h => h) (Or.inr ⟨by rfl, rfl⟩) hHeld ?_
                simp only [Act.put, List.setIfInBounds_toArray, List.set_cons_zero, List.set_cons_succ]
                refine wpAnyH_take (i := 7) (oi := ⟨some 61, _, _, _, _, _⟩) (v := undef) rfl (by kernel_rfl) (by kernel_rfl) (by kernel_rfl) (fun _ _ _ h => h) (Or.inr ⟨by rfl, rfl⟩) hHeld ?_
                simp only [Act.put, List.setIfInBounds_toArray, List.set_cons_zero, List.set_cons_succ]
                refine wpAnyH_take (i := 8) (oi := ⟨some 62, _, _, _, _, _⟩) (v := undef) rfl (by kernel_rfl) (by kernel_rfl) (by kernel_rfl) (fun _ _ _ h => h) (Or.inr ⟨by rfl, rfl⟩) hHeld ?_
                simp only [Act.put, List.setIfInBounds_toArray, List.set_cons_zero, List.set_cons_succ]
                refine wpAnyH_take (i := 9) (oi := ⟨some 63, _, _, _, _, _⟩) (v := undef) rfl (by kernel_rfl) (by kernel_rfl) (by kernel_rfl) (fun _ _ _ h => h) (Or.inr ⟨by rfl, rfl⟩) hHeld ?_
                simp only [Act.put, List.setIfInBounds_toArray, List.set_cons_zero, List.set_cons_succ]
                refine wpAnyH_take (i := 10) (oi := ⟨some 64, _, _, _, _, _⟩) (v := undef) rfl (by kernel_rfl) (by kernel_rfl) (by kernel_rfl) (fun _ _ _ h => h) (Or.inr ⟨by rfl, rfl⟩) hHeld ?_
                simp only [Act.put, List.setIfInBounds_toArray, List.set_cons_zero, List.set_cons_succ]
                refine wpAnyH_take (i := 11) (oi := ⟨some 65, _, _, _, _, _⟩) (v := undef) rfl (by kernel_rfl) (by kernel_rfl) (by kernel_rfl) (fun _ _ _ h => h) (Or.inr ⟨by rfl, rfl⟩) hHeld ?_
                simp only [Act.put, List.setIfInBounds_toArray, List.set_cons_zero, List.set_cons_succ]
                refine wpAnyH_take (i := 12) (oi := ⟨some 66, _, _, _, _, _⟩) (v := undef) rfl (by kernel_rfl) (by kernel_rfl) (by kernel_rfl) (fun _ _ _ h => h) (Or.inr ⟨by rfl, rfl⟩) hHeld ?_
                simp only [Act.put, List.setIfInBounds_toArray, List.set_cons_zero, List.set_cons_succ]
                refine wpAnyH_take (i := 13) (oi := ⟨some 67, _, _, _, _, _⟩) (v := undef) rfl (by kernel_rfl) (by kernel_rfl) (by kernel_rfl) (fun _ _ _ h => h) (Or.inr ⟨by rfl, rfl⟩) hHeld ?_
                simp only [Act.put, List.setIfInBounds_toArray, List.set_cons_zero, List.set_cons_succ]
                refine wpAnyH_take (i := 14) (oi := ⟨some 68, _, _, _, _, _⟩) (v := undef) rfl (by kernel_rfl) (by kernel_rfl) (by kernel_rfl) (fun _ _ _ h => h) (Or.inr ⟨by rfl, rfl⟩) hHeld ?_
                simp only [Act.put, List.setIfInBounds_toArray, List.set_cons_zero, List.set_cons_succ]
                refine wpAnyH_take (i := 15) (oi := ⟨some 69, _, _, _, _, _⟩) (v := undef) rfl (by kernel_rfl) (by kernel_rfl) (by kernel_rfl) (fun _ _ _ h => h) (Or.inr ⟨by rfl, rfl⟩) hHeld ?_
                simp only [Act.put, List.setIfInBounds_toArray, List.set_cons_zero, List.set_cons_succ]
                refine wpAnyH_take (i := 16) (oi := ⟨some 70, _, _, _, _, _⟩) (v := undef) rfl (by kernel_rfl) (by kernel_rfl) (by kernel_rfl) (fun _ _ _ h => h) (Or.inr ⟨by rfl, rfl⟩) hHeld ?_
                simp only [Act.put, List.setIfInBounds_toArray, List.set_cons_zero, List.set_cons_succ]
                refine wpAnyH_take (i := 17) (oi := ⟨some 71, _, _, _, _, _⟩) (v := undef) rfl (by kernel_rfl) (by kernel_rfl) (by kernel_rfl) (fun _ _ _ h => h) (Or.inr ⟨by rfl, rfl⟩) hHeld ?_
                simp only [Act.put, List.setIfInBounds_toArray, List.set_cons_zero, List.set_cons_succ]
                refine wpAnyH_take (i := 18) (oi := ⟨some 72, _, _, _, _, _⟩) (v := undef) rfl (by kernel_rfl) (by kernel_rfl) (by kernel_rfl) (fun _ _ _ h => h) (Or.inr ⟨by rfl, rfl⟩) hHeld ?_
                simp only [Act.put, List.setIfInBounds_toArray, List.set_cons_zero, List.set_cons_succ]
                refine wpAnyH_take (i := 19) (oi := ⟨some 73, _, _, _, _, _⟩) (v := ?va119) rfl (by kernel_rfl) (by kernel_rfl) (by kernel_rfl) (fun _ _ _ h => h) (Or.inl ⟨by rfl, ?ya119⟩) hHeld ?ra119
                case ya119 => (intro wq hSw; (try dsimp only at hSw); go_simp; first | done | with_reducible rfl)
                simp only [Act.put, List.setIfInBounds_toArray, List.set_cons_zero, List.set_cons_succ]
                refine wpAnyH_done (by kernel_rfl) ?_ _
                go_wp2_with fail
                go_ret3
                exact ⟨below_then hbel (below_then HWB.out (below_then (Below.refl _ _).drew hbc)), _, 0, 30, [], rfl, .inr ⟨by decide, HN.out, rfl⟩⟩
              · obtain ⟨pa, pc, hv, hpv⟩ := hO.psV HOk.out
                have HPV := Lib.hid hpv
                have HO := Lib.hid hO
                have HV := Lib.hid hv
                have HOB := Lib.hid (fun g (hg : _ = some g) => (hO.lt g hg).2)
                clear hpv hO hv
                cases hbad : badS key
                · have HBD := Lib.hid hbad
                  clear hbad
                  rcases Nat.eq_zero_or_pos j with hj0 | hj0
                  · have HLT : Hid (lateK acc key = false) := Lib.hid (by rw [List.eq_nil_of_length_eq_zero (hac.trans hj0)]; rfl)
                    subst hj0
                    go_wp2_with (first | (refine wpList_toStr _ rfl (.tmp 51) rfl _ _ _ ((L.drop (n + 1)).take k.toNat) rfl (by simp; omega) HCV.out ?_; rw [← HK.out]) | fail)
                    rw [← HW1.out]
                    refine wp_region_held_drew (S := (fun w' => Below W1.heap.size W1 w' ∧ w'.cell? ⟨wr.heap.size, 0, none⟩ = some (.string key))) (by kernel_rfl) (KS.out _ (Below.refl _ _).drew) (fun hHeld => ?_)
                    refine wpAnyH_take (i := 0) (oi := ⟨some 54, _, _, _, _, _⟩) (v := ?vb0) rfl (by kernel_rfl) (by kernel_rfl) (by kernel_rfl) (fun _ _ _ h => h) (Or.inl ⟨by rfl, ?yb0⟩) hHeld ?rb0
                    case yb0 => (intro wq hSw; (try dsimp only at hSw); go_simp; first | done | with_reducible rfl)
                    simp only [Act.put, List.setIfInBounds_toArray, List.set_cons_zero, List.set_cons_succ]
                    refine wpAnyH_take (i := 1) (oi := ⟨some 55, _, _, _, _, _⟩) (v := ?vb1) rfl (by kernel_rfl) (by kernel_rfl) (by kernel_rfl) (fun _ _ _ h => h) (Or.inl ⟨by rfl, ?yb1⟩) hHeld ?rb1
                    case yb1 => (intro wq hSw; (try dsimp only at hSw); go_simp; first | done | with_reducible rfl)
                    simp only [Act.put, List.setIfInBounds_toArray, List.set_cons_zero, List.set_cons_succ]
                    refine wpAnyH_ready (rs := [2]) (by kernel_rfl) (by simp) ?_
                    refine AllReadyH.cons (o := ⟨some 56, _, _, _, _, _⟩) rfl (fun K hK => ?_) AllReadyH.nil
                    go_simp
                    refine (r1right_any key _ HKM.out).mono ?_
                    rintro e wc ⟨rfl, hbc⟩
                    rw [HBD.out]
                    go_wp2_with fail
                    refine hK.out _ _ ?sb2 (fun hHeld => ?_)
                    case sb2 => (exact KS.out _ (below_then (Below.refl _ _).drew hbc))
                    clear hK K
                    try simp only [Act.put, List.setIfInBounds_toArray, List.set_cons_zero, List.set_cons_succ]
                    refine wpAnyH_take (i := 3) (oi := ⟨some 57, _, _, _, _, _⟩) (v := ?vb3) rfl (by kernel_rfl) (by kernel_rfl) (by kernel_rfl) (fun _ _ _ h => h) (Or.inl ⟨by rfl, ?yb3⟩) hHeld ?rb3
                    case yb3 => (intro wq hSw; (try dsimp only at hSw); go_simp; first | done | with_reducible rfl)
                    simp only [Act.put, List.setIfInBounds_toArray, List.set_cons_zero, List.set_cons_succ]
                    refine wpAnyH_take (i := 4) (oi := ⟨some 58, _, _, _, _, _⟩) (v := ?vb4) rfl (by kernel_rfl) (by kernel_rfl) (by kernel_rfl) (fun _ _ _ h => h) (Or.inl ⟨by rfl, ?yb4⟩) hHeld ?rb4
                    case yb4 => (intro wq hSw; (try dsimp only at hSw); go_simp; first | done | with_reducible rfl)
                    simp only [Act.put, List.setIfInBounds_toArray, List.set_cons_zero, List.set_cons_succ]
                    refine wpAnyH_take (i := 5) (oi := ⟨some 59, _, _, _, _, _⟩) (v := ?vb5) rfl (by kernel_rfl) (by kernel_rfl) (by kernel_rfl) (fun _ _ _ h => h) (Or.inl ⟨by rfl, ?yb5⟩) hHeld ?rb5
                    case yb5 => (intro wq hSw; (try dsimp only at hSw); go_simp; first | done | with_reducible rfl)
                    simp only [Act.put, List.setIfInBounds_toArray, List.set_cons_zero, List.set_cons_succ]
                    refine wpAnyH_take (i := 6) (oi := ⟨some 60, _, _, _, _, _⟩) (v := ?vb6) rfl (by kernel_rfl) (by kernel_rfl) (by kernel_rfl) (fun _ _ _ h => h) (Or.inl ⟨by rfl, ?yb6⟩) hHeld ?rb6
                    case yb6 => (intro wq hSw; (try dsimp only at hSw); go_simp; first | done | with_reducible rfl)
                    simp only [Act.put, List.setIfInBounds_toArray, List.set_cons_zero, List.set_cons_succ]
                    refine wpAnyH_take (i := 7) (oi := ⟨some 61, _, _, _, _, _⟩) (v := ?vb7) rfl (by kernel_rfl) (by kernel_rfl) (by kernel_rfl) (fun _ _ _ h => h) (Or.inl ⟨by rfl, ?yb7⟩) hHeld ?rb7
                    case yb7 => (intro wq hSw; (try dsimp only at hSw); go_simp; first | done | with_reducible rfl)
                    simp only [Act.put, List.setIfInBounds_toArray, List.set_cons_zero, List.set_cons_succ]
                    refine wpAnyH_take (i := 8) (oi := ⟨some 62, _, _, _, _, _⟩) (v := undef) rfl (by kernel_rfl) (by kernel_rfl) (by kernel_rfl) (fun _ _ _ h => h) (Or.inr ⟨by rfl, rfl⟩) hHeld ?_
                    simp only [Act.put, List.setIfInBounds_toArray, List.set_cons_zero, List.set_cons_succ]
                    refine wpAnyH_take (i := 9) (oi := ⟨some 63, _, _, _, _, _⟩) (v := undef) rfl (by kernel_rfl) (by kernel_rfl) (by kernel_rfl) (fun _ _ _ h => h) (Or.inr ⟨by rfl, rfl⟩) hHeld ?_
                    simp only [Act.put, List.setIfInBounds_toArray, List.set_cons_zero, List.set_cons_succ]
                    refine wpAnyH_take (i := 10) (oi := ⟨some 64, _, _, _, _, _⟩) (v := undef) rfl (by kernel_rfl) (by kernel_rfl) (by kernel_rfl) (fun _ _ _ h => h) (Or.inr ⟨by rfl, rfl⟩) hHeld ?_
                    simp only [Act.put, List.setIfInBounds_toArray, List.set_cons_zero, List.set_cons_succ]
                    refine wpAnyH_take (i := 11) (oi := ⟨some 65, _, _, _, _, _⟩) (v := undef) rfl (by kernel_rfl) (by kernel_rfl) (by kernel_rfl) (fun _ _ _ h => h) (Or.inr ⟨by rfl, rfl⟩) hHeld ?_
                    simp only [Act.put, List.setIfInBounds_toArray, List.set_cons_zero, List.set_cons_succ]
                    refine wpAnyH_take (i := 12) (oi := ⟨some 66, _, _, _, _, _⟩) (v := undef) rfl (by kernel_rfl) (by kernel_rfl) (by kernel_rfl) (fun _ _ _ h => h) (Or.inr ⟨by rfl, rfl⟩) hHeld ?_
                    simp only [Act.put, List.setIfInBounds_toArray, List.set_cons_zero, List.set_cons_succ]
                    refine wpAnyH_take (i := 13) (oi := ⟨some 67, _, _, _, _, _⟩) (v := undef) rfl (by kernel_rfl) (by kernel_rfl) (by kernel_rfl) (fun _ _ _ h => h) (Or.inr ⟨by rfl, rfl⟩) hHeld ?_
                    simp only [Act.put, List.setIfInBounds_toArray, List.set_cons_zero, List.set_cons_succ]
                    refine wpAnyH_take (i := 14) (oi := ⟨some 68, _, _, _, _, _⟩) (v := undef) rfl (by kernel_rfl) (by kernel_rfl) (by kernel_rfl) (fun _ _ _ h => h) (Or.inr ⟨by rfl, rfl⟩) hHeld ?_
                    simp only [Act.put, List.setIfInBounds_toArray, List.set_cons_zero, List.set_cons_succ]
                    refine wpAnyH_take (i := 15) (oi := ⟨some 69, _, _, _, _, _⟩) (v := undef) rfl (by kernel_rfl) (by kernel_rfl) (by kernel_rfl) (fun _ _ _ h => h) (Or.inr ⟨by rfl, rfl⟩) hHeld ?_
                    simp only [Act.put, List.setIfInBounds_toArray, List.set_cons_zero, List.set_cons_succ]
                    refine wpAnyH_take (i := 16) (oi := ⟨some 70, _, _, _, _, _⟩) (v := undef) rfl (by kernel_rfl) (by kernel_rfl) (by kernel_rfl) (fun _ _ _ h => h) (Or.inr ⟨by rfl, rfl⟩) hHeld ?_
                    simp only [Act.put, List.setIfInBounds_toArray, List.set_cons_zero, List.set_cons_succ]
                    refine wpAnyH_take (i := 17) (oi := ⟨some 71, _, _, _, _, _⟩) (v := undef) rfl (by kernel_rfl) (by kernel_rfl) (by kernel_rfl) (fun _ _ _ h => h) (Or.inr ⟨by rfl, rfl⟩) hHeld ?_
                    simp only [Act.put, List.setIfInBounds_toArray, List.set_cons_zero, List.set_cons_succ]
                    refine wpAnyH_take (i := 18) (oi := ⟨some 72, _, _, _, _, _⟩) (v := ?vb18) rfl (by kernel_rfl) (by kernel_rfl) (by kernel_rfl) (fun _ _ _ h => h) (Or.inl ⟨by rfl, ?yb18⟩) hHeld ?rb18
                    case yb18 => (intro wq hSw; (try dsimp only at hSw); go_simp; first | done | with_reducible rfl)
                    simp only [Act.put, List.setIfInBounds_toArray, List.set_cons_zero, List.set_cons_succ]
                    refine wpAnyH_take (i := 19) (oi := ⟨some 73, _, _, _, _, _⟩) (v := ?vb19) rfl (by kernel_rfl) (by kernel_rfl) (by kernel_rfl) (fun _ _ _ h => h) (Or.inl ⟨by rfl, ?yb19⟩) hHeld ?rb19
                    case yb19 => (intro wq hSw; (try dsimp only at hSw); go_simp; first | done | with_reducible rfl)
                    simp only [Act.put, List.setIfInBounds_toArray, List.set_cons_zero, List.set_cons_succ]
                    refine wpAnyH_done (by kernel_rfl) ?_ _
                    obtain ⟨wv, hwv⟩ : ∃ wv, wv = wc := ⟨_, rfl⟩
                    rw [← hwv]
                    have hbv1 : Below W1.heap.size W1 wv := by rw [hwv]; exact below_then (Below.refl _ _).drew hbc
                    clear hwv
                    have hbv := below_then HWB.out hbv1
                    have hbW := below_then hbel hbv
                    have hatv := HAT.out.below hbv
                    have hlv : b < wv.heap.size := hatv.lt
                    have HAV := Lib.hid hatv
                    have HBW := Lib.hid hbW
                    have HOv := Lib.hid (HO.out.below hbv)
                    have HPv : Hid (wv.heap[wr.heap.size]? = some (.cells #[.string key, .int .i64 0, .int .i64 0, .string ⟨#[]⟩] 79)) := Lib.hid ((hbv1.block _ hlW).trans HEW.out)
                    clear hatv hbW
                    by_cases hce : cap = n + 1 + k.toNat
                    · have hz : L.length - (n + 1 + k.toNat) = 0 := by omega
                      have HN : Hid (R = none) := Lib.hid (by rw [HT.out, tkP_none (by rw [List.drop_drop, List.drop_eq_nil_of_le (by omega)]; rfl)])
                      subst hce
                      go_wp2_with fail
                      try rw [hz]
                      refine (r2take_any b off 0 [] wv ⟨by simp, hlv⟩ (by simp)).mono ?_
                      rintro e w2 ⟨hb2, v, m, kk, rfl, hor⟩
                      have hkk : kk ≠ 0 := by
                        rcases hor with ⟨_, ho⟩ | ⟨ho, _⟩
                        · cases ho
                        · exact ho
                      have hk' : (kk == 0) = false := by simpa using hkk
                      have HKK := Lib.hid hkk
                      clear hor hkk
                      go_wp2_with fail
                      go_ret3
                      exact ⟨below_al (below_then HBW.out hb2) _, _, 0, kk, [], rfl, .inr ⟨HKK.out, HN.out, rfl⟩⟩
                    · have hvt := r2take_any b (off + (n + 1 + k.toNat)) (cap - (n + 1 + k.toNat)) (L.drop (n + 1 + k.toNat)) wv (HAV.out.drop _) (by simp; omega)
                      rw [List.length_drop] at hvt
                      have HVT := Lib.hid hvt
                      clear hvt
                      go_wp2_with fail
                      refine HVT.out.mono ?_
                      rintro e w2 ⟨hb2, v, m, kk, rfl, hor⟩
                      have hdd : (L.drop (n + 1)).drop k.toNat = L.drop (n + 1 + k.toNat) := by rw [List.drop_drop]
                      rcases hor with ⟨rfl, hv⟩ | ⟨hkk, hv⟩
                      · have HN : Hid (R = tkP c' (acc ++ [⟨key, v⟩]) (L.drop (n + 1 + k.toNat + m)) (n + 1 + k.toNat + m)) := Lib.hid (by
                          rw [HT.out, tkP_step HSH.out (by rw [← HK.out]; exact HBD.out) (by rw [← HK.out]; exact HLT.out) (by rw [hdd]; exact hv), ← HK.out, List.drop_drop, show n + 1 + (k.toNat + m) = n + 1 + k.toNat + m by omega])
                        obtain ⟨vo, _, _, vl⟩ := tkV_ok hv
                        simp at vl
                        have HVO := Lib.hid vo
                        have hcj : c' = c - (1) := by omega
                        have HCJ := Lib.hid hcj
                        have eP := (hb2.block _ (Array.getElem?_eq_some_iff.1 HPv.out).1).trans HPv.out
                        have f0 := frozen_of_blk eP 0
                        have f1 := frozen_of_blk eP 1
                        have f2 := frozen_of_blk eP 2
                        have f3 := frozen_of_blk eP 3
                        have c0 := cell_of_blk eP 0
                        have c1 := cell_of_blk eP 1
                        have c2 := cell_of_blk eP 2
                        have c3 := cell_of_blk eP 3
                        simp at c0 c1 c2 c3
                        have hlP : wr.heap.size < w2.heap.size := (Array.getElem?_eq_some_iff.1 eP).1
                        have HBS := Lib.hid hbel.size
                        clear hv hdd vo hcj eP
                        go_wp2_with (at_builtin; refine wpList_appP _ rfl (.tmp 94) (.tmp 96) rfl w.heap.size _ acc rfl ((((HOv.out.below hb2).set3 (P := wr.heap.size) (fun e => absurd (HOB.out _ e) (Nat.lt_irrefl _)) _ _ _).alloc _).alloc _) (w2.heap.size + 1) 1 ⟨key, v⟩ rfl (by have := heap_new2 (((w2.setCell ⟨wr.heap.size, 1, none⟩ (.int .i64 v.kind)).setCell ⟨wr.heap.size, 2, none⟩ (.int .i64 v.n)).setCell ⟨wr.heap.size, 3, none⟩ (.string v.s)) (.cells #[.int .i64 v.kind, .int .i64 v.n, .string v.s] 42) (.cells #[.string key, .int .i64 v.kind, .int .i64 v.n, .string v.s] 79); simpa using this) (by omega) (by have := (below_then HBW.out hb2).size; simp; omega) ?_; intro v1 w3 o1 b1 g1)
                        refine ⟨?_, by simp [intOf]; omega⟩
                        exact ⟨1, n + 1 + k.toNat + m, acc ++ [⟨key, v⟩], by omega, by omega, by go_num, by go_num, by rw [List.length_append, hac]; rfl, o1, Lib.hid (fun p hp => by
                          rcases List.mem_append.1 hp with hp | hp
                          · exact HOk.out p hp
                          · simp at hp
                            subst hp
                            exact ⟨by rw [hks]; omega, HVO.out⟩), (below_al (below_al (below_set3 (below_then HBW.out hb2) HBS.out _ _ _) _) _).trans b1, by rw [← HCJ.out]; exact HN⟩
                      · have HN : Hid (R = none) := Lib.hid (by rw [HT.out, tkP_none (by rw [hdd]; exact hv)])
                        have hk' : (kk == 0) = false := by simpa using hkk
                        have HKK := Lib.hid hkk
                        clear hdd hkk hv
                        go_wp2_with fail
                        go_ret3
                        exact ⟨below_al (below_then HBW.out hb2) _, _, 0, kk, [], rfl, .inr ⟨HKK.out, HN.out, rfl⟩⟩
                  · obtain ⟨j', rfl⟩ : ∃ j', j = j' + 1 := ⟨j - 1, by omega⟩
                    obtain ⟨q, hq⟩ : ∃ q, acc[j']? = some q := ⟨_, List.getElem?_eq_getElem (by omega)⟩
                    have HLT : Hid (lateK acc key = decide (0 ≤ cmpL (runes q.key) (runes key))) := Lib.hid (by
                      unfold lateK
                      rw [List.getLast?_eq_getElem?, hac, Nat.add_sub_cancel, hq])
                    obtain ⟨b2, o2, ha2, hat2⟩ := HPV.out (fun e => by rw [e] at hac; simp at hac)
                    have hqo := hat2.ok q (List.mem_of_getElem? hq)
                    have hv2 := HV.out
                    rw [ha2, hac] at hv2
                    obtain ⟨q0', _, _, _⟩ := hat2.cells j' q hq
                    have hl2 := hat2.lt
                    have HQO := Lib.hid hqo.key
                    subst hv2
                    have ks2 : ∀ w', Below W1.heap.size W1 w' → (fun w' => Below W1.heap.size W1 w' ∧ w'.cell? ⟨wr.heap.size, 0, none⟩ = some (.string key) ∧ w'.cell? ⟨b2, o2 + j' * 4, none⟩ = some (.string q.key)) w' := fun w' hb => ⟨hb, (KS.out w' hb).2, below_cell (below_then HWB.out hb) _ hl2 q0'⟩
                    have KS2 := Lib.hid ks2
                    clear hat2 hq hqo ha2 q0' ks2
                    go_wp2_with (first | (refine wpList_toStr _ rfl (.tmp 51) rfl _ _ _ ((L.drop (n + 1)).take k.toNat) rfl (by simp; omega) HCV.out ?_; rw [← HK.out]) | fail)
                    rw [← HW1.out]
                    have hjl : j' < acc.length := by omega
                    have hjl2 : (j' : Int) < (j' : Int) + 1 := by omega
                    have hwj : IntKind.i64.wrap (j' : Int) = j' := by simp [IntKind.wrap, IntKind.bits, IntKind.signed]; omega
                    refine wp_region_held_drew (S := (fun w' => Below W1.heap.size W1 w' ∧ w'.cell? ⟨wr.heap.size, 0, none⟩ = some (.string key) ∧ w'.cell? ⟨b2, o2 + j' * 4, none⟩ = some (.string q.key))) (by kernel_rfl) (KS2.out _ (Below.refl _ _).drew) (fun hHeld => ?_)
                    refine wpAnyH_take (i := 0) (oi := ⟨some 54, _, _, _, _, _⟩) (v := ?vc0) rfl (by kernel_rfl) (by kernel_rfl) (by kernel_rfl) (fun _ _ _ h => h) (Or.inl ⟨by rfl, ?yc0⟩) hHeld ?rc0
                    case yc0 => (intro wq hSw; (try dsimp only at hSw); go_simp; first | done | with_reducible rfl)
                    simp only [Act.put, List.setIfInBounds_toArray, List.set_cons_zero, List.set_cons_succ]
                    refine wpAnyH_take (i := 1) (oi := ⟨some 55, _, _, _, _, _⟩) (v := ?vc1) rfl (by kernel_rfl) (by kernel_rfl) (by kernel_rfl) (fun _ _ _ h => h) (Or.inl ⟨by rfl, ?yc1⟩) hHeld ?rc1
                    case yc1 => (intro wq hSw; (try dsimp only at hSw); go_simp; first | done | with_reducible rfl)
                    simp only [Act.put, List.setIfInBounds_toArray, List.set_cons_zero, List.set_cons_succ]
                    refine wpAnyH_ready (rs := [2]) (by kernel_rfl) (by simp) ?_
                    refine AllReadyH.cons (o := ⟨some 56, _, _, _, _, _⟩) rfl (fun K hK => ?_) AllReadyH.nil
                    go_simp
                    refine (r1right_any key _ HKM.out).mono ?_
                    rintro e wc ⟨rfl, hbc⟩
                    rw [HBD.out]
                    go_wp2_with fail
                    refine hK.out _ _ ?sc2 (fun hHeld => ?_)
                    case sc2 => (first | exact KS2.out _ (below_then (Below.refl _ _).drew (below_then hbc hbe)) | exact KS2.out _ (below_then (Below.refl _ _).drew hbc))
                    clear hK K
                    try simp only [Act.put, List.setIfInBounds_toArray, List.set_cons_zero, List.set_cons_succ]
                    refine wpAnyH_take (i := 3) (oi := ⟨some 57, _, _, _, _, _⟩) (v := ?vc3) rfl (by kernel_rfl) (by kernel_rfl) (by kernel_rfl) (fun _ _ _ h => h) (Or.inl ⟨by rfl, ?yc3⟩) hHeld ?rc3
                    case yc3 => (intro wq hSw; (try dsimp only at hSw); go_simp; first | done | with_reducible rfl)
                    simp only [Act.put, List.setIfInBounds_toArray, List.set_cons_zero, List.set_cons_succ]
                    refine wpAnyH_take (i := 4) (oi := ⟨some 58, _, _, _, _, _⟩) (v := ?vc4) rfl (by kernel_rfl) (by kernel_rfl) (by kernel_rfl) (fun _ _ _ h => h) (Or.inl ⟨by rfl, ?yc4⟩) hHeld ?rc4
                    case yc4 => (intro wq hSw; (try dsimp only at hSw); go_simp; first | done | with_reducible rfl)
                    simp only [Act.put, List.setIfInBounds_toArray, List.set_cons_zero, List.set_cons_succ]
                    refine wpAnyH_take (i := 5) (oi := ⟨some 59, _, _, _, _, _⟩) (v := ?vc5) rfl (by kernel_rfl) (by kernel_rfl) (by kernel_rfl) (fun _ _ _ h => h) (Or.inl ⟨by rfl, ?yc5⟩) hHeld ?rc5
                    case yc5 => (intro wq hSw; (try dsimp only at hSw); go_simp; first | done | with_reducible rfl)
                    simp only [Act.put, List.setIfInBounds_toArray, List.set_cons_zero, List.set_cons_succ]
                    refine wpAnyH_take (i := 6) (oi := ⟨some 60, _, _, _, _, _⟩) (v := ?vc6) rfl (by kernel_rfl) (by kernel_rfl) (by kernel_rfl) (fun _ _ _ h => h) (Or.inl ⟨by rfl, ?yc6⟩) hHeld ?rc6
                    case yc6 => (intro wq hSw; (try dsimp only at hSw); go_simp; first | done | with_reducible rfl)
                    simp only [Act.put, List.setIfInBounds_toArray, List.set_cons_zero, List.set_cons_succ]
                    refine wpAnyH_take (i := 7) (oi := ⟨some 61, _, _, _, _, _⟩) (v := ?vc7) rfl (by kernel_rfl) (by kernel_rfl) (by kernel_rfl) (fun _ _ _ h => h) (Or.inl ⟨by rfl, ?yc7⟩) hHeld ?rc7
                    case yc7 => (intro wq hSw; (try dsimp only at hSw); go_simp; first | done | with_reducible rfl)
                    simp only [Act.put, List.setIfInBounds_toArray, List.set_cons_zero, List.set_cons_succ]
                    refine wpAnyH_take (i := 8) (oi := ⟨some 62, _, _, _, _, _⟩) (v := ?vc8) rfl (by kernel_rfl) (by kernel_rfl) (by kernel_rfl) (fun _ _ _ h => h) (Or.inl ⟨by rfl, ?yc8⟩) hHeld ?rc8
                    case yc8 => (intro wq hSw; (try dsimp only at hSw); go_simp; first | done | with_reducible rfl)
                    simp only [Act.put, List.setIfInBounds_toArray, List.set_cons_zero, List.set_cons_succ]
                    refine wpAnyH_take (i := 9) (oi := ⟨some 63, _, _, _, _, _⟩) (v := ?vc9) rfl (by kernel_rfl) (by kernel_rfl) (by kernel_rfl) (fun _ _ _ h => h) (Or.inl ⟨by rfl, ?yc9⟩) hHeld ?rc9
                    case yc9 => (intro wq hSw; (try dsimp only at hSw); go_simp; first | done | with_reducible rfl)
                    simp only [Act.put, List.setIfInBounds_toArray, List.set_cons_zero, List.set_cons_succ]
                    refine wpAnyH_take (i := 10) (oi := ⟨some 64, _, _, _, _, _⟩) (v := ?vc10) rfl (by kernel_rfl) (by kernel_rfl) (by kernel_rfl) (fun _ _ _ h => h) (Or.inl ⟨by rfl, ?yc10⟩) hHeld ?rc10
                    case yc10 => (intro wq hSw; (try dsimp only at hSw); go_simp; first | done | with_reducible rfl)
                    simp only [Act.put, List.setIfInBounds_toArray, List.set_cons_zero, List.set_cons_succ]
                    refine wpAnyH_take (i := 11) (oi := ⟨some 65, _, _, _, _, _⟩) (v := ?vc11) rfl (by kernel_rfl) (by kernel_rfl) (by kernel_rfl) (fun _ _ _ h => h) (Or.inl ⟨by rfl, ?yc11⟩) hHeld ?rc11
                    case yc11 => (intro wq hSw; (try dsimp only at hSw); go_simp; first | done | with_reducible rfl)
                    simp only [Act.put, List.setIfInBounds_toArray, List.set_cons_zero, List.set_cons_succ]
                    refine wpAnyH_take (i := 12) (oi := ⟨some 66, _, _, _, _, _⟩) (v := ?vc12) rfl (by kernel_rfl) (by kernel_rfl) (by kernel_rfl) (fun _ _ _ h => h) (Or.inl ⟨by rfl, ?yc12⟩) hHeld ?rc12
                    case yc12 => (intro wq hSw; (try dsimp only at hSw); go_simp; first | done | with_reducible rfl)
                    simp only [Act.put, List.setIfInBounds_toArray, List.set_cons_zero, List.set_cons_succ]
                    refine wpAnyH_take (i := 13) (oi := ⟨some 67, _, _, _, _, _⟩) (v := ?vc13) rfl (by kernel_rfl) (by kernel_rfl) (by kernel_rfl) (fun _ _ _ h => h) (Or.inl ⟨by rfl, ?yc13⟩) hHeld ?rc13
                    case yc13 => (intro wq hSw; (try dsimp only at hSw); go_simp; first | done | with_reducible rfl)
                    simp only [Act.put, List.setIfInBounds_toArray, List.set_cons_zero, List.set_cons_succ]
                    refine wpAnyH_take (i := 14) (oi := ⟨some 68, _, _, _, _, _⟩) (v := ?vc14) rfl (by kernel_rfl) (by kernel_rfl) (by kernel_rfl) (fun _ _ _ h => h) (Or.inl ⟨by rfl, ?yc14⟩) hHeld ?rc14
                    case yc14 => (intro wq hSw; (try dsimp only at hSw); go_simp; first | done | with_reducible rfl)
                    simp only [Act.put, List.setIfInBounds_toArray, List.set_cons_zero, List.set_cons_succ]
                    refine wpAnyH_take (i := 15) (oi := ⟨some 69, _, _, _, _, _⟩) (v := ?vc15) rfl (by kernel_rfl) (by kernel_rfl) (by kernel_rfl) (fun _ _ _ h => h) (Or.inl ⟨by rfl, ?yc15⟩) hHeld ?rc15
                    case yc15 => (intro wq hSw; (try dsimp only at hSw); go_simp; first | done | with_reducible rfl)
                    simp only [Act.put, List.setIfInBounds_toArray, List.set_cons_zero, List.set_cons_succ]
                    refine wpAnyH_ready (rs := [16]) (by kernel_rfl) (by simp) ?_
                    refine AllReadyH.cons (o := ⟨some 70, _, _, _, _, _⟩) rfl (fun K hK => ?_) AllReadyH.nil
                    go_simp
                    refine (r1compare_any q.key key _ HQO.out HKM.out).mono ?_
                    rintro e we ⟨rfl, hbe⟩
                    obtain ⟨z, hz⟩ : ∃ z, cmpL (runes q.key) (runes key) = z := ⟨_, rfl⟩
                    have HZ := Lib.hid hz
                    rw [hz]
                    clear hz
                    go_wp2_with fail
                    refine hK.out _ _ ?sc16 (fun hHeld => ?_)
                    case sc16 => (first | exact KS2.out _ (below_then (Below.refl _ _).drew (below_then hbc hbe)) | exact KS2.out _ (below_then (Below.refl _ _).drew hbc))
                    clear hK K
                    try simp only [Act.put, List.setIfInBounds_toArray, List.set_cons_zero, List.set_cons_succ]
                    refine wpAnyH_take (i := 17) (oi := ⟨some 71, _, _, _, _, _⟩) (v := ?vc17) rfl (by kernel_rfl) (by kernel_rfl) (by kernel_rfl) (fun _ _ _ h => h) (Or.inl ⟨by rfl, ?yc17⟩) hHeld ?rc17
                    case yc17 => (intro wq hSw; (try dsimp only at hSw); go_simp; first | done | with_reducible rfl)
                    simp only [Act.put, List.setIfInBounds_toArray, List.set_cons_zero, List.set_cons_succ]
                    refine wpAnyH_take (i := 18) (oi := ⟨some 72, _, _, _, _, _⟩) (v := ?vc18) rfl (by kernel_rfl) (by kernel_rfl) (by kernel_rfl) (fun _ _ _ h => h) (Or.inl ⟨by rfl, ?yc18⟩) hHeld ?rc18
                    case yc18 => (intro wq hSw; (try dsimp only at hSw); go_simp; first | done | with_reducible rfl)
                    simp only [Act.put, List.setIfInBounds_toArray, List.set_cons_zero, List.set_cons_succ]
                    refine wpAnyH_take (i := 19) (oi := ⟨some 73, _, _, _, _, _⟩) (v := ?vc19) rfl (by kernel_rfl) (by kernel_rfl) (by kernel_rfl) (fun _ _ _ h => h) (Or.inl ⟨by rfl, ?yc19⟩) hHeld ?rc19
                    case yc19 => (intro wq hSw; (try dsimp only at hSw); go_simp; first | done | with_reducible rfl)
                    simp only [Act.put, List.setIfInBounds_toArray, List.set_cons_zero, List.set_cons_succ]
                    refine wpAnyH_done (by kernel_rfl) ?_ _
                    clear hwj hjl hjl2
                    by_cases hzz : 0 ≤ z
                    · have HN : Hid (R = none) := Lib.hid (by rw [HT.out, tkP_late (by rw [← HK.out, HLT.out, HZ.out]; exact decide_eq_true hzz)])
                      go_wp2_with fail
                      go_ret3
                      exact ⟨below_then hbel (below_then HWB.out (below_then (Below.refl _ _).drew (below_then hbc hbe))), _, 0, 30, [], rfl, .inr ⟨by decide, HN.out, rfl⟩⟩
                    · rw [HZ.out, decide_eq_false hzz] at HLT
                      obtain ⟨wv, hwv⟩ : ∃ wv, wv = we := ⟨_, rfl⟩
                      rw [← hwv]
                      have hbv1 : Below W1.heap.size W1 wv := by rw [hwv]; exact below_then (Below.refl _ _).drew (below_then hbc hbe)
                      clear hwv
                      have hbv := below_then HWB.out hbv1
                      have hbW := below_then hbel hbv
                      have hatv := HAT.out.below hbv
                      have hlv : b < wv.heap.size := hatv.lt
                      have HAV := Lib.hid hatv
                      have HBW := Lib.hid hbW
                      have HOv := Lib.hid (HO.out.below hbv)
                      have HPv : Hid (wv.heap[wr.heap.size]? = some (.cells #[.string key, .int .i64 0, .int .i64 0, .string ⟨#[]⟩] 79)) := Lib.hid ((hbv1.block _ hlW).trans HEW.out)
                      clear hatv hbW
                      by_cases hce : cap = n + 1 + k.toNat
                      · have hz : L.length - (n + 1 + k.toNat) = 0 := by omega
                        have HN : Hid (R = none) := Lib.hid (by rw [HT.out, tkP_none (by rw [List.drop_drop, List.drop_eq_nil_of_le (by omega)]; rfl)])
                        subst hce
                        go_wp2_with fail
                        try rw [hz]
                        refine (r2take_any b off 0 [] wv ⟨by simp, hlv⟩ (by simp)).mono ?_
                        rintro e w2 ⟨hb2, v, m, kk, rfl, hor⟩
                        have hkk : kk ≠ 0 := by
                          rcases hor with ⟨_, ho⟩ | ⟨ho, _⟩
                          · cases ho
                          · exact ho
                        have hk' : (kk == 0) = false := by simpa using hkk
                        have HKK := Lib.hid hkk
                        clear hor hkk
                        go_wp2_with fail
                        go_ret3
                        exact ⟨below_al (below_then HBW.out hb2) _, _, 0, kk, [], rfl, .inr ⟨HKK.out, HN.out, rfl⟩⟩
                      · have hvt := r2take_any b (off + (n + 1 + k.toNat)) (cap - (n + 1 + k.toNat)) (L.drop (n + 1 + k.toNat)) wv (HAV.out.drop _) (by simp; omega)
                        rw [List.length_drop] at hvt
                        have HVT := Lib.hid hvt
                        clear hvt
                        go_wp2_with fail
                        refine HVT.out.mono ?_
                        rintro e w2 ⟨hb2, v, m, kk, rfl, hor⟩
                        have hdd : (L.drop (n + 1)).drop k.toNat = L.drop (n + 1 + k.toNat) := by rw [List.drop_drop]
                        rcases hor with ⟨rfl, hv⟩ | ⟨hkk, hv⟩
                        · have HN : Hid (R = tkP c' (acc ++ [⟨key, v⟩]) (L.drop (n + 1 + k.toNat + m)) (n + 1 + k.toNat + m)) := Lib.hid (by
                            rw [HT.out, tkP_step HSH.out (by rw [← HK.out]; exact HBD.out) (by rw [← HK.out]; exact HLT.out) (by rw [hdd]; exact hv), ← HK.out, List.drop_drop, show n + 1 + (k.toNat + m) = n + 1 + k.toNat + m by omega])
                          obtain ⟨vo, _, _, vl⟩ := tkV_ok hv
                          simp at vl
                          have HVO := Lib.hid vo
                          have hcj : c' = c - (j' + 1 + 1) := by omega
                          have HCJ := Lib.hid hcj
                          have eP := (hb2.block _ (Array.getElem?_eq_some_iff.1 HPv.out).1).trans HPv.out
                          have f0 := frozen_of_blk eP 0
                          have f1 := frozen_of_blk eP 1
                          have f2 := frozen_of_blk eP 2
                          have f3 := frozen_of_blk eP 3
                          have c0 := cell_of_blk eP 0
                          have c1 := cell_of_blk eP 1
                          have c2 := cell_of_blk eP 2
                          have c3 := cell_of_blk eP 3
                          simp at c0 c1 c2 c3
                          have hlP : wr.heap.size < w2.heap.size := (Array.getElem?_eq_some_iff.1 eP).1
                          have HBS := Lib.hid hbel.size
                          clear hv hdd vo hcj eP
                          go_wp2_with (at_builtin; refine wpList_appP _ rfl (.tmp 94) (.tmp 96) rfl w.heap.size _ acc rfl ((((HOv.out.below hb2).set3 (P := wr.heap.size) (fun e => absurd (HOB.out _ e) (Nat.lt_irrefl _)) _ _ _).alloc _).alloc _) (w2.heap.size + 1) 1 ⟨key, v⟩ rfl (by have := heap_new2 (((w2.setCell ⟨wr.heap.size, 1, none⟩ (.int .i64 v.kind)).setCell ⟨wr.heap.size, 2, none⟩ (.int .i64 v.n)).setCell ⟨wr.heap.size, 3, none⟩ (.string v.s)) (.cells #[.int .i64 v.kind, .int .i64 v.n, .string v.s] 42) (.cells #[.string key, .int .i64 v.kind, .int .i64 v.n, .string v.s] 79); simpa using this) (by omega) (by have := (below_then HBW.out hb2).size; simp; omega) ?_; intro v1 w3 o1 b1 g1)
                          refine ⟨?_, by simp [intOf]; omega⟩
                          exact ⟨j' + 1 + 1, n + 1 + k.toNat + m, acc ++ [⟨key, v⟩], by omega, by omega, by go_num, by go_num, by rw [List.length_append, hac]; rfl, o1, Lib.hid (fun p hp => by
                            rcases List.mem_append.1 hp with hp | hp
                            · exact HOk.out p hp
                            · simp at hp
                              subst hp
                              exact ⟨by rw [hks]; omega, HVO.out⟩), (below_al (below_al (below_set3 (below_then HBW.out hb2) HBS.out _ _ _) _) _).trans b1, by rw [← HCJ.out]; exact HN⟩
                        · have HN : Hid (R = none) := Lib.hid (by rw [HT.out, tkP_none (by rw [hdd]; exact hv)])
                          have hk' : (kk == 0) = false := by simpa using hkk
                          have HKK := Lib.hid hkk
                          clear hdd hkk hv
                          go_wp2_with fail
                          go_ret3
                          exact ⟨below_al (below_then HBW.out hb2) _, _, 0, kk, [], rfl, .inr ⟨HKK.out, HN.out, rfl⟩⟩
                · have HN : Hid (R = none) := Lib.hid (by rw [HT.out, tkP_bad (by rw [← HK.out]; exact hbad)])
                  have HBK := Lib.hid hbad
                  clear hbad
                  go_wp2_with (first | (refine wpList_toStr _ rfl (.tmp 51) rfl _ _ _ ((L.drop (n + 1)).take k.toNat) rfl (by simp; omega) HCV.out ?_; rw [← HK.out]) | fail)
                  rw [← HW1.out]
                  refine wp_region_held_drew (S := (fun w' => Below W1.heap.size W1 w' ∧ w'.cell? ⟨wr.heap.size, 0, none⟩ = some (.string key))) (by kernel_rfl) (KS.out _ (Below.refl _ _).drew) (fun hHeld => ?_)
                  refine wpAnyH_take (i := 0) (oi := ⟨some 54, _, _, _, _, _⟩) (v := ?va20) rfl (by kernel_rfl) (by kernel_rfl) (by kernel_rfl) (fun _ _ _ h => h) (Or.inl ⟨by rfl, ?ya20⟩) hHeld ?ra20
                  case ya20 => (intro wq hSw; (try dsimp only at hSw); go_simp; first | done | with_reducible rfl)
                  simp only [Act.put, List.setIfInBounds_toArray, List.set_cons_zero, List.set_cons_succ]
                  refine wpAnyH_take (i := 1) (oi := ⟨some 55, _, _, _, _, _⟩) (v := ?va21) rfl (by kernel_rfl) (by kernel_rfl) (by kernel_rfl) (fun _ _ _ h => h) (Or.inl ⟨by rfl, ?ya21⟩) hHeld ?ra21
                  case ya21 => (intro wq hSw; (try dsimp only at hSw); go_simp; first | done | with_reducible rfl)
                  simp only [Act.put, List.setIfInBounds_toArray, List.set_cons_zero, List.set_cons_succ]
                  refine wpAnyH_ready (rs := [2]) (by kernel_rfl) (by simp) ?_
                  refine AllReadyH.cons (o := ⟨some 56, _, _, _, _, _⟩) rfl (fun K hK => ?_) AllReadyH.nil
                  go_simp
                  refine (r1right_any key _ HKM.out).mono ?_
                  rintro e wc ⟨rfl, hbc⟩
                  rw [HBK.out]
                  go_wp2_with fail
                  refine hK.out _ _ ?sa22 (fun hHeld => ?_)
                  case sa22 => (exact KS.out _ (below_then (Below.refl _ _).drew hbc))
                  clear hK K
                  try simp only [Act.put, List.setIfInBounds_toArray, List.set_cons_zero, List.set_cons_succ]
                  refine wpAnyH_take (i := 3) (oi := ⟨some 57, _, _, _, _, _⟩) (v := ?va23) rfl (by kernel_rfl) (by kernel_rfl) (by kernel_rfl) (fun _ _ _ h => h) (Or.inl ⟨by rfl, ?ya23⟩) hHeld ?ra23
                  case ya23 => (intro wq hSw; (try dsimp only at hSw); go_simp; first | done | with_reducible rfl)
                  simp only [Act.put, List.setIfInBounds_toArray, List.set_cons_zero, List.set_cons_succ]
                  refine wpAnyH_take (i := 4) (oi := ⟨some 58, _, _, _, _, _⟩) (v := ?va24) rfl (by kernel_rfl) (by kernel_rfl) (by kernel_rfl) (fun _ _ _ h => h) (Or.inl ⟨by rfl, ?ya24⟩) hHeld ?ra24
                  case ya24 => (intro wq hSw; (try dsimp only at hSw); go_simp; first | done | with_reducible rfl)
                  simp only [Act.put, List.setIfInBounds_toArray, List.set_cons_zero, List.set_cons_succ]
                  refine wpAnyH_take (i := 5) (oi := ⟨some 59, _, _, _, _, _⟩) (v := undef) rfl (by kernel_rfl) (by kernel_rfl) (by kernel_rfl) (fun _ _ _ h => h) (Or.inr ⟨by rfl, rfl⟩) hHeld ?_
                  simp only [Act.put, List.setIfInBounds_toArray, List.set_cons_zero, List.set_cons_succ]
                  refine wpAnyH_take (i := 6) (oi := ⟨some 60, _, _, _, _, _⟩) (v := undef) rfl (by kernel_rfl) (by kernel_rfl) (by kernel_rfl) (fun _ _ _ h => h) (Or.inr ⟨by rfl, rfl⟩) hHeld ?_
                  simp only [Act.put, List.setIfInBounds_toArray, List.set_cons_zero, List.set_cons_succ]
                  refine wpAnyH_take (i := 7) (oi := ⟨some 61, _, _, _, _, _⟩) (v := undef) rfl (by kernel_rfl) (by kernel_rfl) (by kernel_rfl) (fun _ _ _ h => h) (Or.inr ⟨by rfl, rfl⟩) hHeld ?_
                  simp only [Act.put, List.setIfInBounds_toArray, List.set_cons_zero, List.set_cons_succ]
                  refine wpAnyH_take (i := 8) (oi := ⟨some 62, _, _, _, _, _⟩) (v := undef) rfl (by kernel_rfl) (by kernel_rfl) (by kernel_rfl) (fun _ _ _ h => h) (Or.inr ⟨by rfl, rfl⟩) hHeld ?_
                  simp only [Act.put, List.setIfInBounds_toArray, List.set_cons_zero, List.set_cons_succ]
                  refine wpAnyH_take (i := 9) (oi := ⟨some 63, _, _, _, _, _⟩) (v := undef) rfl (by kernel_rfl) (by kernel_rfl) (by kernel_rfl) (fun _ _ _ h => h) (Or.inr ⟨by rfl, rfl⟩) hHeld ?_
                  simp only [Act.put, List.setIfInBounds_toArray, List.set_cons_zero, List.set_cons_succ]
                  refine wpAnyH_take (i := 10) (oi := ⟨some 64, _, _, _, _, _⟩) (v := undef) rfl (by kernel_rfl) (by kernel_rfl) (by kernel_rfl) (fun _ _ _ h => h) (Or.inr ⟨by rfl, rfl⟩) hHeld ?_
                  simp only [Act.put, List.setIfInBounds_toArray, List.set_cons_zero, List.set_cons_succ]
                  refine wpAnyH_take (i := 11) (oi := ⟨some 65, _, _, _, _, _⟩) (v := undef) rfl (by kernel_rfl) (by kernel_rfl) (by kernel_rfl) (fun _ _ _ h => h) (Or.inr ⟨by rfl, rfl⟩) hHeld ?_
                  simp only [Act.put, List.setIfInBounds_toArray, List.set_cons_zero, List.set_cons_succ]
                  refine wpAnyH_take (i := 12) (oi := ⟨some 66, _, _, _, _, _⟩) (v := undef) rfl (by kernel_rfl) (by kernel_rfl) (by kernel_rfl) (fun _ _ _ h => h) (Or.inr ⟨by rfl, rfl⟩) hHeld ?_
                  simp only [Act.put, List.setIfInBounds_toArray, List.set_cons_zero, List.set_cons_succ]
                  refine wpAnyH_take (i := 13) (oi := ⟨some 67, _, _, _, _, _⟩) (v := undef) rfl (by kernel_rfl) (by kernel_rfl) (by kernel_rfl) (fun _ _ _ h => h) (Or.inr ⟨by rfl, rfl⟩) hHeld ?_
                  simp only [Act.put, List.setIfInBounds_toArray, List.set_cons_zero, List.set_cons_succ]
                  refine wpAnyH_take (i := 14) (oi := ⟨some 68, _, _, _, _, _⟩) (v := undef) rfl (by kernel_rfl) (by kernel_rfl) (by kernel_rfl) (fun _ _ _ h => h) (Or.inr ⟨by rfl, rfl⟩) hHeld ?_
                  simp only [Act.put, List.setIfInBounds_toArray, List.set_cons_zero, List.set_cons_succ]
                  refine wpAnyH_take (i := 15) (oi := ⟨some 69, _, _, _, _, _⟩) (v := undef) rfl (by kernel_rfl) (by kernel_rfl) (by kernel_rfl) (fun _ _ _ h => h) (Or.inr ⟨by rfl, rfl⟩) hHeld ?_
                  simp only [Act.put, List.setIfInBounds_toArray, List.set_cons_zero, List.set_cons_succ]
                  refine wpAnyH_take (i := 16) (oi := ⟨some 70, _, _, _, _, _⟩) (v := undef) rfl (by kernel_rfl) (by kernel_rfl) (by kernel_rfl) (fun _ _ _ h => h) (Or.inr ⟨by rfl, rfl⟩) hHeld ?_
                  simp only [Act.put, List.setIfInBounds_toArray, List.set_cons_zero, List.set_cons_succ]
                  refine wpAnyH_take (i := 17) (oi := ⟨some 71, _, _, _, _, _⟩) (v := undef) rfl (by kernel_rfl) (by kernel_rfl) (by kernel_rfl) (fun _ _ _ h => h) (Or.inr ⟨by rfl, rfl⟩) hHeld ?_
                  simp only [Act.put, List.setIfInBounds_toArray, List.set_cons_zero, List.set_cons_succ]
                  refine wpAnyH_take (i := 18) (oi := ⟨some 72, _, _, _, _, _⟩) (v := undef) rfl (by kernel_rfl) (by kernel_rfl) (by kernel_rfl) (fun _ _ _ h => h) (Or.inr ⟨by rfl, rfl⟩) hHeld ?_
                  simp only [Act.put, List.setIfInBounds_toArray, List.set_cons_zero, List.set_cons_succ]
                  refine wpAnyH_take (i := 19) (oi := ⟨some 73, _, _, _, _, _⟩) (v := ?va219) rfl (by kernel_rfl) (by kernel_rfl) (by kernel_rfl) (fun _ _ _ h => h) (Or.inl ⟨by rfl, ?ya219⟩) hHeld ?ra219
                  case ya219 => (intro wq hSw; (try dsimp only at hSw); go_simp; first | done | with_reducible rfl)
                  simp only [Act.put, List.setIfInBounds_toArray, List.set_cons_zero, List.set_cons_succ]
                  refine wpAnyH_done (by kernel_rfl) ?_ _
                  go_wp2_with fail
                  go_ret3
                  exact ⟨below_then hbel (below_then HWB.out (below_then (Below.refl _ _).drew hbc)), _, 0, 30, [], rfl, .inr ⟨by decide, HN.out, rfl⟩⟩
          · have hnl : n = L.length := by omega
            have HN : Hid (R = none) := Lib.hid (by rw [HT.out, List.drop_eq_nil_of_le (by omega), tkP_nil])
            clear hnl
            go_wp2_with fail
            go_ret3
            exact ⟨hbel, _, 0, 20, [], rfl, .inr ⟨by decide, HN.out, rfl⟩⟩
        · obtain rfl : j = c := by omega
          have HN : Hid (R = some (acc, n)) := Lib.hid (by rw [HT.out, Nat.sub_self, tkP_zero])
          go_wp2_with fail
          go_ret3
          exact ⟨hbel, _, n, 0, acc, rfl, .inl ⟨rfl, HN.out, hO⟩⟩
end Go.Proofs.Ytcafedfldmcbiaa
