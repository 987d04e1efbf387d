/- CellRooms: the walk. Conditions: the theorem's own premises. -/
import Derived.Test.YtaanohgkdpohhaaRoomsLaw
namespace Go.Proofs.Ytaanohgkdpohhaa
open Go.RowKit Go.Maps
def Rm1 (W : World) (sb n : Nat) (i : Value) (wr : World) : Prop := ∃ (j : Nat) (s : Sto), j ≤ n ∧ i = .int .i64 j ∧ RmS W wr s sb n (List.range j) ∧ s.c = 0
theorem cnt_le' {w : World} {s : Sto} (h : StC w s) : s.cnt ≤ s.ar.room := h.cnt_le.1
set_option maxRecDepth 100000 in
set_option maxHeartbeats 2000000 in
theorem rooms_walk (room : Int) (a : Option Addr) (cap : Nat) (l : List Int) (w : World) (hl : l.length ≤ 40) (hA : ZsV w a l) :
    Calls Try.prog 3 #[.int .i64 room, .slice a l.length cap] w fun e w' => e = .returned (.bool true) ∧ Below w.heap.size w w' := by
  obtain ⟨n, hn, hn20⟩ := mod_n room 20 (by omega) (by omega)
  have HN := Lib.hid hn
  have HA := Lib.hid hA
  clear hn hA
  go_enter Try.func3, Try.ntmps3
  go_wp2_with fail
  refine (awake9_any _).mono ?_
  rintro e w1 ⟨rfl, hb1⟩
  have HB1 := Lib.hid hb1
  clear hb1
  go_wp2_with fail
  rw [show (wrap64 (room.tmod 20 + 20)).tmod 20 = (n : Int) from HN.out]
  refine (new_g n _ (by omega)).mono ?_
  rintro e w2 ⟨s1, rfl, hS1, g1, n1, c1, r1⟩
  obtain ⟨sb, hsb⟩ : ∃ b, s1.sb = b := ⟨_, rfl⟩
  rw [hsb]
  have R1 : Hid (RmS w1 w2 s1 sb n (List.range 0)) := Lib.hid ⟨hS1, by rw [g1]; exact rmG_nil.symm, by rw [n1]; rfl, by rw [c1]; simp, r1, hsb, List.nodup_nil, fun i hi => by cases hi⟩
  have C1 := Lib.hid c1
  clear hS1 g1 n1 c1 r1 hsb
  go_wp2_with fail
  go_loopw [8] (fun i wr => Rm1 w1 sb n i wr) (fun i _ => n - (intOf i).toNat)
  case atStart => exact ⟨0, s1, Nat.zero_le _, rfl, R1.out, C1.out⟩
  case round =>
    obtain ⟨j, s, hj, rfl, hR, hc0⟩ := hrel
    have HR := Lib.hid hR
    have HC := Lib.hid hc0
    have KO := Lib.hid (k9_ok (n := (j : Int)) (i64_lit (by omega) (by omega)))
    clear hR hc0
    by_cases hlt : j < n
    · go_wp2_with fail
      refine (key9_any _ _).mono ?_
      rintro e w3 ⟨rfl, hb3⟩
      have R3 := Lib.hid (HR.out.below hb3)
      clear hb3
      go_wp2_with fail
      refine (lock_new_g s sb (k9 j) 1 _ R3.out.st.st R3.out.sb KO.out (i64_lit (by omega) (by omega)) (by rw [R3.out.g]; exact rmG_no (by simp)) (by rw [R3.out.cnt, R3.out.room]; simp; omega)).mono ?_
      rintro e w4 ⟨rfl, s4, p4⟩
      have S4 := Lib.hid (R3.out.st.gpost p4)
      have P4 := Lib.hid p4
      clear p4
      go_wp2_with fail
      refine (key9_any _ _).mono ?_
      rintro e w5 ⟨rfl, hb5⟩
      have S5 := Lib.hid (S4.out.below hb5)
      clear hb5
      go_wp2_with fail
      refine (seen9_any _ _).mono ?_
      rintro e w6 ⟨rfl, hb6⟩
      have S6 := Lib.hid (S5.out.below hb6)
      clear hb6
      go_wp2_with fail
      refine (install_g s4 sb (k9 j) _ 1 5 0 ⟨#[120]⟩ true _ S6.out.st (P4.out.sb.trans R3.out.sb) KO.out (by rw [P4.out.g, setG_same]) rfl rfl (by unfold Sm; decide) (by decide) (.inl rfl) (by decide)).mono ?_
      rintro e w7 ⟨rfl, s7, p7⟩
      have R7 : Hid (RmS w1 w7 s7 sb n (List.range (j + 1)) ∧ s7.c = 0) := Lib.hid ⟨⟨S6.out.gpost p7, by rw [p7.g, P4.out.g, R3.out.g, List.range_succ]; exact rmG_add _ _ _, by rw [p7.cnt, P4.out.cnt, R3.out.cnt]; simp, by rw [p7.c, P4.out.c, HC.out]; simp; omega, p7.room.trans (P4.out.room.trans R3.out.room), p7.sb.trans (P4.out.sb.trans R3.out.sb), List.nodup_range, fun i hi => by have := List.mem_range.1 hi; omega⟩, by rw [p7.c, P4.out.c, HC.out]⟩
      clear p7
      go_wp2_with fail
      exact ⟨⟨j + 1, s7, by omega, by go_num, R7.out.1, R7.out.2⟩, by simp [intOf]; omega⟩
    · obtain rfl : j = n := by omega
      clear hlt hj
      go_wp2_with fail
      refine (key9_any _ _).mono ?_
      rintro e w3 ⟨rfl, hb3⟩
      have R3 := Lib.hid (HR.out.below hb3)
      clear hb3
      go_wp2_with fail
      refine (lock_full_g s sb (k9 j) 1 _ R3.out.st.st R3.out.sb KO.out (by rw [R3.out.g]; exact rmG_no (by simp)) (by rw [R3.out.cnt, R3.out.room]; simp)).mono ?_
      rintro e w4 ⟨rfl, hb4⟩
      have R4 := Lib.hid (R3.out.below hb4)
      have d0 := cell_of_blk R4.out.st.st.blk 0
      rw [R4.out.sb] at d0
      simp at d0
      clear hb4
      go_wp2_with (go_at_call 21; refine (len_s s _ R4.out.st.st).mono ?_; rintro e w8 ⟨rfl, rfl⟩; rw [show ((s.cnt : Nat) : Int) = (j : Int) by rw [R4.out.cnt]; simp])
      go_loopw [11, 12] (fun left i wr => Rm2 w1 sb j l left i wr) (fun _ i _ => l.length - (intOf i).toNat)
      case atStart => exact ⟨0, s, List.range j, Nat.zero_le _, rfl, by simp, R4.out⟩
      case round =>
        clear d0
        obtain ⟨i, s2, P, hi, rfl, rfl, hR2⟩ := hrel
        have HR2 := Lib.hid hR2
        clear hR2
        by_cases hlt : i < l.length
        · by_cases hj0 : 0 < j
          · obtain ⟨z, hz⟩ : ∃ z, l[i]? = some z := ⟨_, List.getElem?_eq_getElem hlt⟩
            obtain ⟨zb, zo, rfl, zat⟩ := HA.out (fun e => by rw [e] at hlt; simp at hlt)
            have zc := (zat.below (HB1.out.trans (HR2.out.st.bel.mono HB1.out.size))).cells i z hz
            have zl := (zat.below (HB1.out.trans (HR2.out.st.bel.mono HB1.out.size))).lt
            obtain ⟨q, hq, hql⟩ := mod_n z j hj0 (by omega)
            have HQ := Lib.hid hq
            clear hz zat hq
            go_wp2_with fail
            rw [show (wrap64 (z.tmod ↑j + ↑j)).tmod ↑j = (q : Int) from HQ.out]
            refine (key9_any _ _).mono ?_
            rintro e w5 ⟨rfl, hb5⟩
            have KQ := Lib.hid (k9_ok (n := (q : Int)) (i64_lit (by omega) (by omega)))
            have Z5 := Lib.hid ((HR2.out.below hb5).below (below_box w5 (.cells #[.int .i64 1, .int .i64 (q : Int), .int .i64 0, .string ⟨#[]⟩] 32)))
            have X5 := Lib.hid (Bx.new (HR2.out.below hb5).st.st (.cells #[.int .i64 1, .int .i64 (q : Int), .int .i64 0, .string ⟨#[]⟩] 32))
            have q0 := X5.out.cell 0
            have q1 := X5.out.cell 1
            have q2 := X5.out.cell 2
            have q3 := X5.out.cell 3
            simp at q0 q1 q2 q3
            clear hb5 zc zl
            go_wp2_with fail
            refine (handle_any s2 sb (k9 q) _ Z5.out.st.st Z5.out.sb KQ.out).mono ?_
            rintro e w6 ⟨rfl, hb6⟩
            by_cases hin : q ∈ P
            · obtain ⟨y, hy, hyc⟩ := Sto.g_some (show s2.g (k9 q) = some x5 by rw [Z5.out.g]; exact rmG_yes hin)
              obtain ⟨yi, yg, yl⟩ := Z5.out.st.st.i64 hy
              rw [hy]
              simp only [handV]
              have HY := Lib.hid hy
              have HYC := Lib.hid hyc
              have HYL := Lib.hid (And.intro yi (And.intro yg yl))
              have B6 : Hid (StS w1 (w6.alloc (.cells #[.int .i64 y.hs, .int .i64 y.hg] 44)) s2 ∧ Bx (w6.alloc (.cells #[.int .i64 y.hs, .int .i64 y.hg] 44)) s2 w5.heap.size (.cells #[.int .i64 1, .int .i64 (q : Int), .int .i64 0, .string ⟨#[]⟩] 32) ∧ Bx (w6.alloc (.cells #[.int .i64 y.hs, .int .i64 y.hg] 44)) s2 w6.heap.size (.cells #[.int .i64 y.hs, .int .i64 y.hg] 44)) :=
                Lib.hid ⟨(Z5.out.st.below hb6).alloc _, (X5.out.below hb6).alloc _, Bx.new (Z5.out.below hb6).st.st _⟩
              clear hy hyc yi yg yl hb6 q0 q1 q2 q3
              have q0 := B6.out.2.1.cell 0
              have q1 := B6.out.2.1.cell 1
              have q2 := B6.out.2.1.cell 2
              have q3 := B6.out.2.1.cell 3
              simp at q0 q1 q2 q3
              go_wp2_with fail
              refine (read_g s2 sb (k9 q) _ B6.out.1.st Z5.out.sb KQ.out).mono ?_
              rintro e w7 ⟨rfl, hb7⟩
              rw [Z5.out.g, rmG_yes hin]
              simp only [readV, x5, Bool.false_eq_true, if_false, Bool.not_false]
              have B7 : Hid (RmB w1 (w7.alloc (.cells #[.int .u64 5, .string ⟨#[120]⟩, .bool true] 36)) s2 sb w5.heap.size w6.heap.size w7.heap.size (q : Int) y.hs y.hg) :=
                Lib.hid ⟨(B6.out.1.below hb7).alloc _, Z5.out.sb, (B6.out.2.1.below hb7).alloc _, (B6.out.2.2.below hb7).alloc _, Bx.new (B6.out.1.below hb7).st _⟩
              clear hb7 q0 q1 q2 q3
              go_upto_region 24 with fail
              obtain ⟨V, hV⟩ : ∃ V, V = w7.alloc (.cells #[.int .u64 5, .string ⟨#[120]⟩, .bool true] 36) := ⟨_, rfl⟩
              rw [← hV] at B7 ⊢
              clear hV
              obtain ⟨kb, hkb⟩ : ∃ x, x = w5.heap.size := ⟨_, rfl⟩
              obtain ⟨hb, hhb⟩ : ∃ x, x = w6.heap.size := ⟨_, rfl⟩
              obtain ⟨vb, hvb⟩ : ∃ x, x = w7.heap.size := ⟨_, rfl⟩
              rw [← hkb, ← hhb, ← hvb] at B7
              rw [← hkb, ← hhb, ← hvb]
              have HBN := Lib.hid (And.intro hkb (And.intro hhb hvb))
              have HZ : Hid (s2.g = rmG P ∧ s2.cnt = P.length ∧ s2.c + P.length ≤ j ∧ s2.ar.room = j ∧ P.Nodup ∧ ∀ i ∈ P, i < j) := Lib.hid ⟨Z5.out.g, Z5.out.cnt, Z5.out.c, Z5.out.room, Z5.out.nd, Z5.out.lt⟩
              have HIN := Lib.hid hin
              clear B6 X5 Z5 hkb hhb hvb hin
              refine wp_region_held_drew (S := (fun w' : World => w'.cell? ⟨kb, 0, none⟩ = some (.int .i64 1) ∧ w'.cell? ⟨kb, 1, none⟩ = some (.int .i64 (q : Int)) ∧ w'.cell? ⟨kb, 2, none⟩ = some (.int .i64 0) ∧ w'.cell? ⟨kb, 3, none⟩ = some (.string ⟨#[]⟩) ∧ w'.cell? ⟨hb, 0, none⟩ = some (.int .i64 y.hs) ∧ w'.cell? ⟨hb, 1, none⟩ = some (.int .i64 y.hg) ∧ w'.cell? ⟨vb, 0, none⟩ = some (.int .u64 5))) (by kernel_rfl) (B7.out.below (below_drewN (Below.refl _ _) 1) |>.c) (fun hHeld => ?_)
              obtain ⟨X8, hGen⟩ : ∃ u, u = World.drew V := ⟨_, rfl⟩
              rw [← hGen] at hHeld ⊢
              have B8 : Hid (RmB w1 X8 s2 sb kb hb vb (q : Int) y.hs y.hg) := Lib.hid (by rw [hGen]; exact B7.out.below (below_drewN (Below.refl _ _) 1))
              clear hGen
              refine wpAnyH_take (i := 0) (oi := ⟨some 110, _, _, _, _, _⟩) (v := ?vvra1) rfl (by kernel_rfl) (by kernel_rfl) (by kernel_rfl) (fun _ _ _ h => h) (Or.inl ⟨by rfl, ?yyra1⟩) hHeld ?rrra1
              case yyra1 => (intro wq hSw; (try dsimp only at hSw); go_simp; first | done | with_reducible rfl)
              simp only [Act.put, List.setIfInBounds_toArray, List.set_cons_zero, List.set_cons_succ]
              refine wpAnyH_take (i := 1) (oi := ⟨some 111, _, _, _, _, _⟩) (v := ?vvra2) rfl (by kernel_rfl) (by kernel_rfl) (by kernel_rfl) (fun _ _ _ h => h) (Or.inl ⟨by rfl, ?yyra2⟩) hHeld ?rrra2
              case yyra2 => (intro wq hSw; (try dsimp only at hSw); go_simp; first | done | with_reducible rfl)
              simp only [Act.put, List.setIfInBounds_toArray, List.set_cons_zero, List.set_cons_succ]
              refine wpAnyH_ready (rs := [2]) (by kernel_rfl) (by simp) ?_
              refine AllReadyH.cons (o := ⟨some 112, _, _, _, _, _⟩) rfl (fun K hK => ?_) AllReadyH.nil
              go_simp
              have B8' := Lib.hid (B8.out.below (below_box X8 (.cells #[.int .i64 1, .int .i64 (q : Int), .int .i64 0, .string ⟨#[]⟩] 32)))
              try dsimp only
              refine hK.out _ _ ?ssra3 (fun hHeld => ?_)
              case ssra3 => (exact B8'.out.c)
              clear hK K
              try simp only [Act.put, List.setIfInBounds_toArray, List.set_cons_zero, List.set_cons_succ]
              refine wpAnyH_ready (rs := [3]) (by kernel_rfl) (by simp) ?_
              refine AllReadyH.cons (o := ⟨some 113, _, _, _, _, _⟩) rfl (fun K hK => ?_) AllReadyH.nil
              go_simp
              refine (free_none s2 sb 1 (some ⟨X8.heap.size, 0, none⟩) [k9 q] _ B8'.out.st.st B8'.out.sb (ksv_any rfl KQ.out) (by simp) (fun k x hk hx => by rw [List.mem_singleton] at hk; subst hk; rw [HZ.out.1, rmG_yes HIN.out] at hx; cases hx; rfl)).mono ?_
              rintro e u1 ⟨rfl, hu1⟩
              have U1 := Lib.hid (B8'.out.below hu1)
              clear hu1
              try dsimp only
              refine hK.out _ _ ?ssra4 (fun hHeld => ?_)
              case ssra4 => (exact U1.out.c)
              clear hK K
              try simp only [Act.put, List.setIfInBounds_toArray, List.set_cons_zero, List.set_cons_succ]
              refine wpAnyH_take (i := 4) (oi := ⟨some 114, _, _, _, _, _⟩) (v := ?vvra5) rfl (by kernel_rfl) (by kernel_rfl) (by kernel_rfl) (fun _ _ _ h => h) (Or.inl ⟨by rfl, ?yyra5⟩) hHeld ?rrra5
              case yyra5 => (intro wq hSw; (try dsimp only at hSw); go_simp; first | done | with_reducible rfl)
              simp only [Act.put, List.setIfInBounds_toArray, List.set_cons_zero, List.set_cons_succ]
              refine wpAnyH_take (i := 5) (oi := ⟨some 115, _, _, _, _, _⟩) (v := ?vvra6) rfl (by kernel_rfl) (by kernel_rfl) (by kernel_rfl) (fun _ _ _ h => h) (Or.inl ⟨by rfl, ?yyra6⟩) hHeld ?rrra6
              case yyra6 => (intro wq hSw; (try dsimp only at hSw); go_simp; first | done | with_reducible rfl)
              simp only [Act.put, List.setIfInBounds_toArray, List.set_cons_zero, List.set_cons_succ]
              refine wpAnyH_take (i := 6) (oi := ⟨some 116, _, _, _, _, _⟩) (v := ?vvra7) rfl (by kernel_rfl) (by kernel_rfl) (by kernel_rfl) (fun _ _ _ h => h) (Or.inl ⟨by rfl, ?yyra7⟩) hHeld ?rrra7
              case yyra7 => (intro wq hSw; (try dsimp only at hSw); go_simp; first | done | with_reducible rfl)
              simp only [Act.put, List.setIfInBounds_toArray, List.set_cons_zero, List.set_cons_succ]
              refine wpAnyH_take (i := 7) (oi := ⟨some 117, _, _, _, _, _⟩) (v := ?vvra8) rfl (by kernel_rfl) (by kernel_rfl) (by kernel_rfl) (fun _ _ _ h => h) (Or.inl ⟨by rfl, ?yyra8⟩) hHeld ?rrra8
              case yyra8 => (intro wq hSw; (try dsimp only at hSw); go_simp; first | done | with_reducible rfl)
              simp only [Act.put, List.setIfInBounds_toArray, List.set_cons_zero, List.set_cons_succ]
              refine wpAnyH_take (i := 8) (oi := ⟨some 118, _, _, _, _, _⟩) (v := ?vvra9) rfl (by kernel_rfl) (by kernel_rfl) (by kernel_rfl) (fun _ _ _ h => h) (Or.inl ⟨by rfl, ?yyra9⟩) hHeld ?rrra9
              case yyra9 => (intro wq hSw; (try dsimp only at hSw); go_simp; first | done | with_reducible rfl)
              simp only [Act.put, List.setIfInBounds_toArray, List.set_cons_zero, List.set_cons_succ]
              refine wpAnyH_take (i := 10) (oi := ⟨some 120, _, _, _, _, _⟩) (v := ?vvra10) rfl (by kernel_rfl) (by kernel_rfl) (by kernel_rfl) (fun _ _ _ h => h) (Or.inl ⟨by rfl, ?yyra10⟩) hHeld ?rrra10
              case yyra10 => (intro wq hSw; (try dsimp only at hSw); go_simp; first | done | with_reducible rfl)
              simp only [Act.put, List.setIfInBounds_toArray, List.set_cons_zero, List.set_cons_succ]
              refine wpAnyH_ready (rs := [9]) (by kernel_rfl) (by simp) ?_
              refine AllReadyH.cons (o := ⟨some 119, _, _, _, _, _⟩) rfl (fun K hK => ?_) AllReadyH.nil
              have ha0 := U1.out.a0
              go_simp
              clear ha0
              try dsimp only
              refine hK.out _ _ ?ssra11 (fun hHeld => ?_)
              case ssra11 => (exact U1.out.c)
              clear hK K
              try simp only [Act.put, List.setIfInBounds_toArray, List.set_cons_zero, List.set_cons_succ]
              refine wpAnyH_ready (rs := [11]) (by kernel_rfl) (by simp) ?_
              refine AllReadyH.cons (o := ⟨some 121, _, _, _, _, _⟩) rfl (fun K hK => ?_) AllReadyH.nil
              go_simp
              refine (live_s s2 _ U1.out.st.st y.hs y.hg HYL.out.1 true HYL.out.2.2).mono ?_
              rintro e u2 ⟨rfl, hu2⟩
              have U2 := Lib.hid (U1.out.below hu2)
              clear hu2
              try dsimp only
              refine hK.out _ _ ?ssra12 (fun hHeld => ?_)
              case ssra12 => (exact U2.out.c)
              clear hK K
              try simp only [Act.put, List.setIfInBounds_toArray, List.set_cons_zero, List.set_cons_succ]
              refine wpAnyH_take (i := 12) (oi := ⟨some 122, _, _, _, _, _⟩) (v := ?vvra13) rfl (by kernel_rfl) (by kernel_rfl) (by kernel_rfl) (fun _ _ _ h => h) (Or.inl ⟨by rfl, ?yyra13⟩) hHeld ?rrra13
              case yyra13 => (intro wq hSw; (try dsimp only at hSw); go_simp; first | done | with_reducible rfl)
              simp only [Act.put, List.setIfInBounds_toArray, List.set_cons_zero, List.set_cons_succ]
              refine wpAnyH_take (i := 13) (oi := ⟨some 123, _, _, _, _, _⟩) (v := ?vvra14) rfl (by kernel_rfl) (by kernel_rfl) (by kernel_rfl) (fun _ _ _ h => h) (Or.inl ⟨by rfl, ?yyra14⟩) hHeld ?rrra14
              case yyra14 => (intro wq hSw; (try dsimp only at hSw); go_simp; first | done | with_reducible rfl)
              simp only [Act.put, List.setIfInBounds_toArray, List.set_cons_zero, List.set_cons_succ]
              refine wpAnyH_done (by kernel_rfl) ?_ _
              clear hHeld
              have r0 := U2.out.c.1
              have r1 := U2.out.c.2.1
              have r2 := U2.out.c.2.2.1
              have r3 := U2.out.c.2.2.2.1
              go_wp2_with fail
              refine (lock_sl s2 sb (k9 q) y 2 _ U2.out.st.st U2.out.sb KQ.out (i64_lit (by omega) (by omega)) HY.out (by have := HYC.out; unfold x5 at this; unfold Sl.cl at this; injection this)).mono ?_
              rintro e V3 ⟨rfl, s3, p3, f3, a3⟩
              have U3 := Lib.hid (U2.out.gpost p3)
              have P3 := Lib.hid p3
              have F3 := Lib.hid f3
              clear p3 f3 a3 r0 r1 r2 r3
              go_upto_region 27 with fail
              refine wp_region_held_drew (S := (fun w' : World => w'.cell? ⟨kb, 0, none⟩ = some (.int .i64 1) ∧ w'.cell? ⟨kb, 1, none⟩ = some (.int .i64 (q : Int)) ∧ w'.cell? ⟨kb, 2, none⟩ = some (.int .i64 0) ∧ w'.cell? ⟨kb, 3, none⟩ = some (.string ⟨#[]⟩) ∧ w'.cell? ⟨hb, 0, none⟩ = some (.int .i64 y.hs) ∧ w'.cell? ⟨hb, 1, none⟩ = some (.int .i64 y.hg) ∧ w'.cell? ⟨vb, 0, none⟩ = some (.int .u64 5))) (by kernel_rfl) (U3.out.below (below_drewN (Below.refl _ _) 1) |>.c) (fun hHeld => ?_)
              obtain ⟨X9, hGen⟩ : ∃ u, u = World.drew V3 := ⟨_, rfl⟩
              rw [← hGen] at hHeld ⊢
              have U3' : Hid (RmB w1 X9 s3 sb kb hb vb (q : Int) y.hs y.hg) := Lib.hid (by rw [hGen]; exact U3.out.below (below_drewN (Below.refl _ _) 1))
              clear hGen
              refine wpAnyH_take (i := 0) (oi := ⟨some 127, _, _, _, _, _⟩) (v := ?vvrb1) rfl (by kernel_rfl) (by kernel_rfl) (by kernel_rfl) (fun _ _ _ h => h) (Or.inl ⟨by rfl, ?yyrb1⟩) hHeld ?rrrb1
              case yyrb1 => (intro wq hSw; (try dsimp only at hSw); go_simp; first | done | with_reducible rfl)
              simp only [Act.put, List.setIfInBounds_toArray, List.set_cons_zero, List.set_cons_succ]
              refine wpAnyH_take (i := 1) (oi := ⟨some 128, _, _, _, _, _⟩) (v := ?vvrb2) rfl (by kernel_rfl) (by kernel_rfl) (by kernel_rfl) (fun _ _ _ h => h) (Or.inl ⟨by rfl, ?yyrb2⟩) hHeld ?rrrb2
              case yyrb2 => (intro wq hSw; (try dsimp only at hSw); go_simp; first | done | with_reducible rfl)
              simp only [Act.put, List.setIfInBounds_toArray, List.set_cons_zero, List.set_cons_succ]
              refine wpAnyH_take (i := 2) (oi := ⟨some 129, _, _, _, _, _⟩) (v := ?vvrb3) rfl (by kernel_rfl) (by kernel_rfl) (by kernel_rfl) (fun _ _ _ h => h) (Or.inl ⟨by rfl, ?yyrb3⟩) hHeld ?rrrb3
              case yyrb3 => (intro wq hSw; (try dsimp only at hSw); go_simp; first | done | with_reducible rfl)
              simp only [Act.put, List.setIfInBounds_toArray, List.set_cons_zero, List.set_cons_succ]
              refine wpAnyH_take (i := 3) (oi := ⟨some 130, _, _, _, _, _⟩) (v := ?vvrb4) rfl (by kernel_rfl) (by kernel_rfl) (by kernel_rfl) (fun _ _ _ h => h) (Or.inl ⟨by rfl, ?yyrb4⟩) hHeld ?rrrb4
              case yyrb4 => (intro wq hSw; (try dsimp only at hSw); go_simp; first | done | with_reducible rfl)
              simp only [Act.put, List.setIfInBounds_toArray, List.set_cons_zero, List.set_cons_succ]
              refine wpAnyH_take (i := 4) (oi := ⟨some 131, _, _, _, _, _⟩) (v := ?vvrb5) rfl (by kernel_rfl) (by kernel_rfl) (by kernel_rfl) (fun _ _ _ h => h) (Or.inl ⟨by rfl, ?yyrb5⟩) hHeld ?rrrb5
              case yyrb5 => (intro wq hSw; (try dsimp only at hSw); go_simp; first | done | with_reducible rfl)
              simp only [Act.put, List.setIfInBounds_toArray, List.set_cons_zero, List.set_cons_succ]
              refine wpAnyH_take (i := 5) (oi := ⟨some 132, _, _, _, _, _⟩) (v := ?vvrb6) rfl (by kernel_rfl) (by kernel_rfl) (by kernel_rfl) (fun _ _ _ h => h) (Or.inl ⟨by rfl, ?yyrb6⟩) hHeld ?rrrb6
              case yyrb6 => (intro wq hSw; (try dsimp only at hSw); go_simp; first | done | with_reducible rfl)
              simp only [Act.put, List.setIfInBounds_toArray, List.set_cons_zero, List.set_cons_succ]
              refine wpAnyH_ready (rs := [6]) (by kernel_rfl) (by simp) ?_
              refine AllReadyH.cons (o := ⟨some 133, _, _, _, _, _⟩) rfl (fun K hK => ?_) AllReadyH.nil
              go_simp
              refine (install_sl s3 sb (k9 q) _ 2 6 0 ⟨#[]⟩ false _ U3'.out.st.st U3'.out.sb KQ.out F3.out rfl rfl (by unfold Sm; decide) (by have h := HYC.out; unfold x5 at h; unfold Sl.cl at h; injection h with h; show y.st < 6; omega) (.inr ⟨rfl, rfl⟩) (by decide)).mono ?_
              rintro e u4 ⟨rfl, s4, p4, f4, a4⟩
              have U4 := Lib.hid (U3'.out.gpost p4)
              have P4 := Lib.hid p4
              have F4 := Lib.hid f4
              have C4 : Hid (s4.cnt = P.length) := Lib.hid (by rw [P4.out.cnt, P3.out.cnt, HZ.out.2.1])
              clear p4 f4 a4
              try dsimp only
              refine hK.out _ _ ?ssrb7 (fun hHeld => ?_)
              case ssrb7 => (exact U4.out.c)
              clear hK K
              try simp only [Act.put, List.setIfInBounds_toArray, List.set_cons_zero, List.set_cons_succ]
              refine wpAnyH_take (i := 7) (oi := ⟨some 134, _, _, _, _, _⟩) (v := ?vvrb8) rfl (by kernel_rfl) (by kernel_rfl) (by kernel_rfl) (fun _ _ _ h => h) (Or.inl ⟨by rfl, ?yyrb8⟩) hHeld ?rrrb8
              case yyrb8 => (intro wq hSw; (try dsimp only at hSw); go_simp; first | done | with_reducible rfl)
              simp only [Act.put, List.setIfInBounds_toArray, List.set_cons_zero, List.set_cons_succ]
              refine wpAnyH_take (i := 8) (oi := ⟨some 135, _, _, _, _, _⟩) (v := ?vvrb9) rfl (by kernel_rfl) (by kernel_rfl) (by kernel_rfl) (fun _ _ _ h => h) (Or.inl ⟨by rfl, ?yyrb9⟩) hHeld ?rrrb9
              case yyrb9 => (intro wq hSw; (try dsimp only at hSw); go_simp; first | done | with_reducible rfl)
              simp only [Act.put, List.setIfInBounds_toArray, List.set_cons_zero, List.set_cons_succ]
              refine wpAnyH_take (i := 9) (oi := ⟨some 136, _, _, _, _, _⟩) (v := ?vvrb10) rfl (by kernel_rfl) (by kernel_rfl) (by kernel_rfl) (fun _ _ _ h => h) (Or.inl ⟨by rfl, ?yyrb10⟩) hHeld ?rrrb10
              case yyrb10 => (intro wq hSw; (try dsimp only at hSw); go_simp; first | done | with_reducible rfl)
              simp only [Act.put, List.setIfInBounds_toArray, List.set_cons_zero, List.set_cons_succ]
              refine wpAnyH_take (i := 10) (oi := ⟨some 137, _, _, _, _, _⟩) (v := ?vvrb11) rfl (by kernel_rfl) (by kernel_rfl) (by kernel_rfl) (fun _ _ _ h => h) (Or.inl ⟨by rfl, ?yyrb11⟩) hHeld ?rrrb11
              case yyrb11 => (intro wq hSw; (try dsimp only at hSw); go_simp; first | done | with_reducible rfl)
              simp only [Act.put, List.setIfInBounds_toArray, List.set_cons_zero, List.set_cons_succ]
              refine wpAnyH_take (i := 11) (oi := ⟨some 138, _, _, _, _, _⟩) (v := ?vvrb12) rfl (by kernel_rfl) (by kernel_rfl) (by kernel_rfl) (fun _ _ _ h => h) (Or.inl ⟨by rfl, ?yyrb12⟩) hHeld ?rrrb12
              case yyrb12 => (intro wq hSw; (try dsimp only at hSw); go_simp; first | done | with_reducible rfl)
              simp only [Act.put, List.setIfInBounds_toArray, List.set_cons_zero, List.set_cons_succ]
              refine wpAnyH_take (i := 14) (oi := ⟨some 141, _, _, _, _, _⟩) (v := ?vvrb13) rfl (by kernel_rfl) (by kernel_rfl) (by kernel_rfl) (fun _ _ _ h => h) (Or.inl ⟨by rfl, ?yyrb13⟩) hHeld ?rrrb13
              case yyrb13 => (intro wq hSw; (try dsimp only at hSw); go_simp; first | done | with_reducible rfl)
              simp only [Act.put, List.setIfInBounds_toArray, List.set_cons_zero, List.set_cons_succ]
              refine wpAnyH_ready (rs := [12]) (by kernel_rfl) (by simp) ?_
              refine AllReadyH.cons (o := ⟨some 139, _, _, _, _, _⟩) rfl (fun K hK => ?_) AllReadyH.nil
              have ha0 := U4.out.a0
              go_simp
              clear ha0
              try dsimp only
              refine hK.out _ _ ?ssrb14 (fun hHeld => ?_)
              case ssrb14 => (exact U4.out.c)
              clear hK K
              try simp only [Act.put, List.setIfInBounds_toArray, List.set_cons_zero, List.set_cons_succ]
              refine wpAnyH_ready (rs := [13]) (by kernel_rfl) (by simp) ?_
              refine AllReadyH.cons (o := ⟨some 140, _, _, _, _, _⟩) rfl (fun K hK => ?_) AllReadyH.nil
              go_simp
              refine (len_s s4 _ U4.out.st.st).mono ?_
              rintro e w' ⟨rfl, rfl⟩
              rw [C4.out]
              try dsimp only
              refine hK.out _ _ ?ssrb15 (fun hHeld => ?_)
              case ssrb15 => (exact U4.out.c)
              clear hK K
              try simp only [Act.put, List.setIfInBounds_toArray, List.set_cons_zero, List.set_cons_succ]
              refine wpAnyH_take (i := 15) (oi := ⟨some 142, _, _, _, _, _⟩) (v := ?vvrb16) rfl (by kernel_rfl) (by kernel_rfl) (by kernel_rfl) (fun _ _ _ h => h) (Or.inl ⟨by rfl, ?yyrb16⟩) hHeld ?rrrb16
              case yyrb16 => (intro wq hSw; (try dsimp only at hSw); go_simp; first | done | with_reducible rfl)
              simp only [Act.put, List.setIfInBounds_toArray, List.set_cons_zero, List.set_cons_succ]
              refine wpAnyH_take (i := 16) (oi := ⟨some 143, _, _, _, _, _⟩) (v := ?vvrb17) rfl (by kernel_rfl) (by kernel_rfl) (by kernel_rfl) (fun _ _ _ h => h) (Or.inl ⟨by rfl, ?yyrb17⟩) hHeld ?rrrb17
              case yyrb17 => (intro wq hSw; (try dsimp only at hSw); go_simp; first | done | with_reducible rfl)
              simp only [Act.put, List.setIfInBounds_toArray, List.set_cons_zero, List.set_cons_succ]
              refine wpAnyH_take (i := 17) (oi := ⟨some 144, _, _, _, _, _⟩) (v := ?vvrb18) rfl (by kernel_rfl) (by kernel_rfl) (by kernel_rfl) (fun _ _ _ h => h) (Or.inl ⟨by rfl, ?yyrb18⟩) hHeld ?rrrb18
              case yyrb18 => (intro wq hSw; (try dsimp only at hSw); go_simp; first | done | with_reducible rfl)
              simp only [Act.put, List.setIfInBounds_toArray, List.set_cons_zero, List.set_cons_succ]
              refine wpAnyH_take (i := 18) (oi := ⟨some 145, _, _, _, _, _⟩) (v := ?vvrb19) rfl (by kernel_rfl) (by kernel_rfl) (by kernel_rfl) (fun _ _ _ h => h) (Or.inl ⟨by rfl, ?yyrb19⟩) hHeld ?rrrb19
              case yyrb19 => (intro wq hSw; (try dsimp only at hSw); go_simp; first | done | with_reducible rfl)
              simp only [Act.put, List.setIfInBounds_toArray, List.set_cons_zero, List.set_cons_succ]
              refine wpAnyH_take (i := 19) (oi := ⟨some 146, _, _, _, _, _⟩) (v := ?vvrb20) rfl (by kernel_rfl) (by kernel_rfl) (by kernel_rfl) (fun _ _ _ h => h) (Or.inl ⟨by rfl, ?yyrb20⟩) hHeld ?rrrb20
              case yyrb20 => (intro wq hSw; (try dsimp only at hSw); go_simp; first | done | with_reducible rfl)
              simp only [Act.put, List.setIfInBounds_toArray, List.set_cons_zero, List.set_cons_succ]
              refine wpAnyH_take (i := 20) (oi := ⟨some 147, _, _, _, _, _⟩) (v := ?vvrb21) rfl (by kernel_rfl) (by kernel_rfl) (by kernel_rfl) (fun _ _ _ h => h) (Or.inl ⟨by rfl, ?yyrb21⟩) hHeld ?rrrb21
              case yyrb21 => (intro wq hSw; (try dsimp only at hSw); go_simp; first | done | with_reducible rfl)
              simp only [Act.put, List.setIfInBounds_toArray, List.set_cons_zero, List.set_cons_succ]
              refine wpAnyH_ready (rs := [21]) (by kernel_rfl) (by simp) ?_
              refine AllReadyH.cons (o := ⟨some 148, _, _, _, _, _⟩) rfl (fun K hK => ?_) AllReadyH.nil
              go_simp
              have U4' := Lib.hid (U4.out.below (below_box u4 (.cells #[.int .i64 1, .int .i64 (q : Int), .int .i64 0, .string ⟨#[]⟩, .int .i64 1, .int .i64 (q : Int), .int .i64 0, .string ⟨#[]⟩] 32)))
              try dsimp only
              refine hK.out _ _ ?ssrb22 (fun hHeld => ?_)
              case ssrb22 => (exact U4'.out.c)
              clear hK K
              try simp only [Act.put, List.setIfInBounds_toArray, List.set_cons_zero, List.set_cons_succ]
              refine wpAnyH_ready (rs := [22]) (by kernel_rfl) (by simp) ?_
              refine AllReadyH.cons (o := ⟨some 149, _, _, _, _, _⟩) rfl (fun K hK => ?_) AllReadyH.nil
              go_simp
              refine (free_dead s4 sb 2 (some ⟨u4.heap.size, 0, none⟩) [k9 q, k9 q] _ U4'.out.st.st U4'.out.sb (ksv_two (U4).out.st.st rfl KQ.out) (by simp) (by rw [P4.out.c, P3.out.c]; have := HZ.out.2.2.1; simp; omega)).mono ?_
              unfold FdPost
              rw [show freeG s4.g [k9 q, k9 q] = (rmG (P.erase q), 1) from rm_free P3.out P4.out HZ.out.1 HZ.out.2.2.2.2.1]
              rintro e u5 ⟨rfl, s5, p5, d5⟩
              have U5 := Lib.hid (U4'.out.gpost p5)
              have P5 := Lib.hid p5
              have D5 : Hid (s5.ar.live y.hs y.hg = false) := Lib.hid (by have h9 := d5.2 (k9 q) _ F4.out (Sto.g_none (by rw [p5.g]; exact rmG_no (fun h => by simpa using (HZ.out.2.2.2.2.1.mem_erase_iff.1 h).1))); exact h9)
              clear p5 d5
              try dsimp only
              refine hK.out _ _ ?ssrb23 (fun hHeld => ?_)
              case ssrb23 => (exact U5.out.c)
              clear hK K
              try simp only [Act.put, List.setIfInBounds_toArray, List.set_cons_zero, List.set_cons_succ]
              refine wpAnyH_take (i := 23) (oi := ⟨some 150, _, _, _, _, _⟩) (v := ?vvrb24) rfl (by kernel_rfl) (by kernel_rfl) (by kernel_rfl) (fun _ _ _ h => h) (Or.inl ⟨by rfl, ?yyrb24⟩) hHeld ?rrrb24
              case yyrb24 => (intro wq hSw; (try dsimp only at hSw); go_simp; first | done | with_reducible rfl)
              simp only [Act.put, List.setIfInBounds_toArray, List.set_cons_zero, List.set_cons_succ]
              refine wpAnyH_take (i := 24) (oi := ⟨some 151, _, _, _, _, _⟩) (v := ?vvrb25) rfl (by kernel_rfl) (by kernel_rfl) (by kernel_rfl) (fun _ _ _ h => h) (Or.inl ⟨by rfl, ?yyrb25⟩) hHeld ?rrrb25
              case yyrb25 => (intro wq hSw; (try dsimp only at hSw); go_simp; first | done | with_reducible rfl)
              simp only [Act.put, List.setIfInBounds_toArray, List.set_cons_zero, List.set_cons_succ]
              refine wpAnyH_take (i := 25) (oi := ⟨some 152, _, _, _, _, _⟩) (v := ?vvrb26) rfl (by kernel_rfl) (by kernel_rfl) (by kernel_rfl) (fun _ _ _ h => h) (Or.inl ⟨by rfl, ?yyrb26⟩) hHeld ?rrrb26
              case yyrb26 => (intro wq hSw; (try dsimp only at hSw); go_simp; first | done | with_reducible rfl)
              simp only [Act.put, List.setIfInBounds_toArray, List.set_cons_zero, List.set_cons_succ]
              refine wpAnyH_take (i := 26) (oi := ⟨some 153, _, _, _, _, _⟩) (v := ?vvrb27) rfl (by kernel_rfl) (by kernel_rfl) (by kernel_rfl) (fun _ _ _ h => h) (Or.inl ⟨by rfl, ?yyrb27⟩) hHeld ?rrrb27
              case yyrb27 => (intro wq hSw; (try dsimp only at hSw); go_simp; first | done | with_reducible rfl)
              simp only [Act.put, List.setIfInBounds_toArray, List.set_cons_zero, List.set_cons_succ]
              refine wpAnyH_take (i := 27) (oi := ⟨some 154, _, _, _, _, _⟩) (v := ?vvrb28) rfl (by kernel_rfl) (by kernel_rfl) (by kernel_rfl) (fun _ _ _ h => h) (Or.inl ⟨by rfl, ?yyrb28⟩) hHeld ?rrrb28
              case yyrb28 => (intro wq hSw; (try dsimp only at hSw); go_simp; first | done | with_reducible rfl)
              simp only [Act.put, List.setIfInBounds_toArray, List.set_cons_zero, List.set_cons_succ]
              refine wpAnyH_take (i := 28) (oi := ⟨some 155, _, _, _, _, _⟩) (v := ?vvrb29) rfl (by kernel_rfl) (by kernel_rfl) (by kernel_rfl) (fun _ _ _ h => h) (Or.inl ⟨by rfl, ?yyrb29⟩) hHeld ?rrrb29
              case yyrb29 => (intro wq hSw; (try dsimp only at hSw); go_simp; first | done | with_reducible rfl)
              simp only [Act.put, List.setIfInBounds_toArray, List.set_cons_zero, List.set_cons_succ]
              refine wpAnyH_take (i := 30) (oi := ⟨some 157, _, _, _, _, _⟩) (v := ?vvrb30) rfl (by kernel_rfl) (by kernel_rfl) (by kernel_rfl) (fun _ _ _ h => h) (Or.inl ⟨by rfl, ?yyrb30⟩) hHeld ?rrrb30
              case yyrb30 => (intro wq hSw; (try dsimp only at hSw); go_simp; first | done | with_reducible rfl)
              simp only [Act.put, List.setIfInBounds_toArray, List.set_cons_zero, List.set_cons_succ]
              refine wpAnyH_ready (rs := [29]) (by kernel_rfl) (by simp) ?_
              refine AllReadyH.cons (o := ⟨some 156, _, _, _, _, _⟩) rfl (fun K hK => ?_) AllReadyH.nil
              have ha0 := U5.out.a0
              go_simp
              clear ha0
              try dsimp only
              refine hK.out _ _ ?ssrb31 (fun hHeld => ?_)
              case ssrb31 => (exact U5.out.c)
              clear hK K
              try simp only [Act.put, List.setIfInBounds_toArray, List.set_cons_zero, List.set_cons_succ]
              refine wpAnyH_ready (rs := [31]) (by kernel_rfl) (by simp) ?_
              refine AllReadyH.cons (o := ⟨some 158, _, _, _, _, _⟩) rfl (fun K hK => ?_) AllReadyH.nil
              go_simp
              refine (live_s s5 _ U5.out.st.st y.hs y.hg HYL.out.1 false D5.out).mono ?_
              rintro e u6 ⟨rfl, hu6⟩
              have U6 := Lib.hid (U5.out.below hu6)
              clear hu6
              try dsimp only
              refine hK.out _ _ ?ssrb32 (fun hHeld => ?_)
              case ssrb32 => (exact U6.out.c)
              clear hK K
              try simp only [Act.put, List.setIfInBounds_toArray, List.set_cons_zero, List.set_cons_succ]
              refine wpAnyH_take (i := 32) (oi := ⟨some 159, _, _, _, _, _⟩) (v := ?vvrb33) rfl (by kernel_rfl) (by kernel_rfl) (by kernel_rfl) (fun _ _ _ h => h) (Or.inl ⟨by rfl, ?yyrb33⟩) hHeld ?rrrb33
              case yyrb33 => (intro wq hSw; (try dsimp only at hSw); go_simp; first | done | with_reducible rfl)
              simp only [Act.put, List.setIfInBounds_toArray, List.set_cons_zero, List.set_cons_succ]
              refine wpAnyH_done (by kernel_rfl) ?_ _
              clear hHeld
              have R6 : Hid (RmS w1 u6 s5 sb j (P.erase q) ∧ (P.erase q).length + 1 = P.length) := Lib.hid (rm_done U6.out.st P3.out P4.out P5.out HZ.out HIN.out U6.out.sb)
              obtain ⟨pn, hpn⟩ : ∃ m, m = (P.erase q).length := ⟨_, rfl⟩
              have hpl : P.length = pn + 1 := by have := R6.out.2; omega
              have HPN := Lib.hid hpn
              have hpb : pn ≤ 20 := by have := HZ.out.2.2.1; omega
              rw [hpl]
              clear hpn hpl
              go_wp2_with fail
              exact ⟨⟨i + 1, s5, P.erase q, by omega, by go_num, by rw [← HPN.out], R6.out.1⟩, by simp [intOf]; omega⟩
            · rw [Sto.g_none (show s2.g (k9 q) = none by rw [Z5.out.g]; exact rmG_no hin)]
              simp only [handV]
              have Z6 := Lib.hid ((Z5.out.below hb6).below (below_box w6 (.cells #[.int .i64 0, .int .i64 0] 44)))
              clear hb6 q0 q1 q2 q3
              go_wp2_with fail
              exact ⟨⟨i + 1, s2, P, by omega, by go_num, rfl, Z6.out⟩, by simp [intOf]; omega⟩
          · have HR5 := Lib.hid HR2.out
            have d1 := cell_of_blk HR5.out.st.st.blk 0
            rw [HR5.out.sb] at d1
            simp at d1
            have HPL : Hid (s2.cnt = P.length ∧ P.length ≤ 20) := Lib.hid ⟨HR5.out.cnt, by have := HR5.out.c; omega⟩
            have HWH := Lib.hid (fun v (hv : Below _ _ v) => keys_g s2 sb v (HR5.out.st.st.stay hv) HR5.out.sb (by have := HPL.out; omega))
            go_wp2_with (first | (go_at_call 21; refine (len_s s2 _ HR5.out.st.st).mono ?_; rintro e w8 ⟨rfl, rfl⟩; rw [HPL.out.1]) | (go_at_call 26; refine (HWH.out _ (Below.refl _ _)).mono ?_; intro e w9 hw9; rw [HR5.out.g] at hw9; obtain ⟨ka, kc, rfl, hb9⟩ := rm_which HR5.out.nd hw9))
            go_ret
            exact ⟨rfl, HB1.out.trans ((HR5.out.st.bel.mono HB1.out.size).trans (hb9.mono (Nat.le_trans HB1.out.size HR5.out.st.bel.size)))⟩
        · have HR5 := Lib.hid HR2.out
          have d1 := cell_of_blk HR5.out.st.st.blk 0
          rw [HR5.out.sb] at d1
          simp at d1
          have HPL : Hid (s2.cnt = P.length ∧ P.length ≤ 20) := Lib.hid ⟨HR5.out.cnt, by have := HR5.out.c; omega⟩
          have HWH := Lib.hid (fun v (hv : Below _ _ v) => keys_g s2 sb v (HR5.out.st.st.stay hv) HR5.out.sb (by have := HPL.out; omega))
          go_wp2_with (first | (go_at_call 21; refine (len_s s2 _ HR5.out.st.st).mono ?_; rintro e w8 ⟨rfl, rfl⟩; rw [HPL.out.1]) | (go_at_call 26; refine (HWH.out _ (Below.refl _ _)).mono ?_; intro e w9 hw9; rw [HR5.out.g] at hw9; obtain ⟨ka, kc, rfl, hb9⟩ := rm_which HR5.out.nd hw9))
          go_ret
          exact ⟨rfl, HB1.out.trans ((HR5.out.st.bel.mono HB1.out.size).trans (hb9.mono (Nat.le_trans HB1.out.size HR5.out.st.bel.size)))⟩
set_option maxRecDepth 100000 in
set_option maxHeartbeats 2000000 in
theorem rooms_long (room : Int) (a : Option Addr) (cap : Nat) (l : List Int) (w : World) (hl : 40 < l.length) (hm : l.length ≤ maxLen) :
    Calls Try.prog 3 #[.int .i64 room, .slice a l.length cap] w fun e w' => e = .returned (.bool true) ∧ Below w.heap.size w w' := by
  unfold maxLen at hm
  go_enter Try.func3, Try.ntmps3
  go_wp2_with fail
  refine (awake9_any _).mono ?_
  rintro e w1 ⟨rfl, hb1⟩
  have HB1 := Lib.hid hb1
  clear hb1
  go_wp2_with fail
  refine (awake9_any _).mono ?_
  rintro e w2 ⟨rfl, hb2⟩
  have HB2 := Lib.hid hb2
  clear hb2
  go_wp2_with fail
  go_ret
  exact ⟨rfl, below_then HB1.out HB2.out⟩
theorem rooms_law (room : Int) (a : Option Addr) (cap : Nat) (l : List Int) (w : World) (hm : l.length ≤ maxLen) (hA : ZsV w a l) :
    Calls Try.prog 3 #[.int .i64 room, .slice a l.length cap] w fun e w' => e = .returned (.bool true) ∧ Below w.heap.size w w' := by
  by_cases hl : l.length ≤ 40
  · exact rooms_walk room a cap l w hl hA
  · exact rooms_long room a cap l w (by omega) hm
end Go.Proofs.Ytaanohgkdpohhaa
