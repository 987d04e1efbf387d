/- The reference's Take. Conditions: each contract's own premises. -/
import Derived.Test.YtcghgnncmnoalaaBk6
namespace Go.Proofs.Ytcghgnncmnoalaa
open Go.RowKit Go.Maps

/-- 'string(b)' in a region, b's cells known -/
theorem step_toStr (w : World) {ops : Array Oper} {o : Oper} {a : Act} {K : Act → World → Prop} {Q : Exit → Act → World → Prop} {E : Prop} (hgd : o.guard = none) (x : Operand) (hop : o.op = Op.convert 22 9 x) (ad : Addr) (n cap : Nat) (l : List UInt8) (hx : a.eval x = .slice (some ad) n cap) (hn : l.length = n)
    (hc : ∀ j (hj : j < l.length), w.cell? (ad.add j) = some (.int .u8 (l[j].toNat : Int))) (hK : K (a.put o.dst (.string ⟨l.toArray⟩)) w) :
    if Region.wanted o (yielded ops a.tmps) = true then Oper.wp Try.prog o a w K Q else E := by
  have hw : Region.wanted o (yielded ops a.tmps) = true := by simp [Region.wanted, hgd]
  rw [if_pos hw]
  subst hn
  have hrun := run_convert_bytes_back (P := Try.prog) w 22 9 5 ad cap l Try.underlying22 Try.underlying5 Try.underlying9 hc
  unfold Oper.wp
  simp [execOp, hop, hx, hrun, Result.andThen]
  exact hK
theorem tkN_eq {l : List UInt8} {p q r s : UInt8} (h2 : l[2]? = some p) (h3 : l[3]? = some q) (h4 : l[4]? = some r) (h5 : l[5]? = some s) : tkN l = ((p.toNat * 256 + q.toNat) * 256 + r.toNat) * 256 + s.toNat := by
  match l, h2, h3, h4, h5 with
  | _ :: _ :: x2 :: x3 :: x4 :: x5 :: t, h2, h3, h4, h5 =>
    simp at h2 h3 h4 h5
    subst h2 h3 h4 h5
    simp [tkN, numL]
theorem four_num {m : List UInt8} (h : m.length = 4) : fourL (numL m) = m := by
  match m, h with
  | [a, b, c, d], _ =>
    have ha := a.toNat_lt
    have hb := b.toNat_lt
    have hc := c.toNat_lt
    have hd := d.toNat_lt
    have e : numL [a, b, c, d] = ((a.toNat * 256 + b.toNat) * 256 + c.toNat) * 256 + d.toNat := by simp [numL]
    rw [e]
    unfold fourL
    have e1 : UInt8.ofNat ((((a.toNat * 256 + b.toNat) * 256 + c.toNat) * 256 + d.toNat) / 16777216) = a := by
      apply UInt8.toNat_inj.1; simp; omega
    have e2 : UInt8.ofNat ((((a.toNat * 256 + b.toNat) * 256 + c.toNat) * 256 + d.toNat) / 65536) = b := by
      apply UInt8.toNat_inj.1; simp; omega
    have e3 : UInt8.ofNat ((((a.toNat * 256 + b.toNat) * 256 + c.toNat) * 256 + d.toNat) / 256) = c := by
      apply UInt8.toNat_inj.1; simp; omega
    have e4 : UInt8.ofNat (((a.toNat * 256 + b.toNat) * 256 + c.toNat) * 256 + d.toNat) = d := by
      apply UInt8.toNat_inj.1
      simp
    rw [e1, e2, e3, e4]
theorem num_four {n : Nat} (h : n < 4294967296) : numL (fourL n) = n := by
  simp [numL, fourL]; omega
theorem num4_ne {m : List UInt8} {c : Nat} (hm : m.length = 4) (hc : c < 4294967296) : (numL m ≠ c) ↔ (fourL c ≠ m) :=
  ⟨fun h e => h (by rw [← e, num_four hc]), fun h e => h (by rw [← e, four_num hm])⟩
theorem r8sum_any' (a : Option Addr) (n cap : Nat) (l : List UInt8) (w : World) (h : BsV w a l) (hn : l.length = n) (hl : l.length ≤ 4000000) :
    Calls Try.prog 98 #[.slice a n cap] w fun e w' => e = .returned (.int .u32 (crc l : Nat)) ∧ w' = w := by
  subst hn
  exact r8sum_any a cap l w h hl
/-- what the reference's taking leaves -/
def TkrPost (w : World) (b off cap : Nat) (l : List UInt8) (e : Ending) (w' : World) : Prop :=
  Below w.heap.size w w' ∧ ((tkE l = 0 ∧ e = .returned (.tuple #[.agg #[bv (l.getD 1 0), .slice (some ⟨b, off + 6, none⟩) (tkB l).length (cap - 6)], .int .i64 ((tkN l + 10 : Nat) : Int), .int .i64 0])) ∨
    (tkE l ≠ 0 ∧ e = .returned (.tuple #[.agg #[.int .u8 0, .slice none 0 0], .int .i64 0, .int .i64 (tkE l)])))
def TkrPost' (w : World) (a : Option Addr) (cap : Nat) (l : List UInt8) (e : Ending) (w' : World) : Prop := ∃ b off, (l ≠ [] → a = some ⟨b, off, none⟩) ∧ TkrPost w b off cap l e w'
set_option maxRecDepth 100000 in
set_option maxHeartbeats 4000000 in
theorem r8take_any (a : Option Addr) (cap : Nat) (l : List UInt8) (w : World) (h : BsV w a l) (hl : l.length ≤ 3000000) (hcap : l.length ≤ cap) : Calls Try.prog 82 #[.slice a l.length cap] w (TkrPost' w a cap l) := by
  have HH := Lib.hid h
  have HCAP := Lib.hid hcap
  have HTE : Hid (tkE l = if l = [] then 20 else if l.getD 0 0 ≠ 203 then 80 else if l.length < 6 then 20 else if 1048576 < tkN l then 82 else if l.length < tkN l + 10 then 20 else
    if numL ((l.drop (tkN l + 6)).take 4) ≠ crc (l.take (tkN l + 6)) then 81 else 0) := Lib.hid rfl
  obtain ⟨W, hW⟩ : ∃ W, W = w.alloc (.cells #[.int .u8 0, .slice none 0 0] 43) := ⟨_, rfl⟩
  have hzW : W.heap.size = w.heap.size + 1 := by rw [hW]; simp
  have hBW : Below w.heap.size w W := by rw [hW]; exact below_box w _
  have eW : W.heap[w.heap.size]? = some (.cells #[.int .u8 0, .slice none 0 0] 43) := by rw [hW]; exact heap_new w _
  have HEW := Lib.hid eW
  have HBW := Lib.hid hBW
  have HW := Lib.hid hW
  have HZ := Lib.hid hzW
  clear h hW hBW eW hzW hcap
  go_enter Try.func82, Try.ntmps82
  go_upto_region 1 with fail
  rw [← HW.out]
  clear HW
  have f0 := frozen_of_blk HEW.out 0
  have f1 := frozen_of_blk HEW.out 1
  have c0 := cell_of_blk HEW.out 0
  have c1 := cell_of_blk HEW.out 1
  simp at c0 c1
  by_cases hn : l = []
  · have HE2 : Hid (tkE l = 20) := Lib.hid (by rw [HTE.out, if_pos hn])
    have HN := Lib.hid hn
    have hlen : ((l.length : Int) == 0) = true := by rw [hn]; rfl
    clear hn
    go_wp2_with fail
    refine tkb_ret HEW.out _ _ _ _ _ 0 20 Try.results82 rfl rfl rfl rfl (fun w3 b3 _ => ⟨0, 0, fun e => absurd HN.out e, HBW.out.trans b3, .inr ⟨by rw [HE2.out]; decide, by rw [HE2.out]⟩⟩)
  · obtain ⟨b, off, rfl, hat⟩ := HH.out hn
    have HA0 := Lib.hid hat
    have hat := hat.below HBW.out
    have HAT := Lib.hid hat
    have hlen : ((l.length : Int) == 0) = false := by
      have := List.length_pos_iff.2 hn
      simp; omega
    have hpos := List.length_pos_iff.2 hn
    obtain ⟨x0, hx0⟩ : ∃ x, l[0]? = some x := ⟨_, List.getElem?_eq_getElem hpos⟩
    have q0 := hat.cells 0 x0 hx0
    rw [Nat.add_zero] at q0
    unfold bv at q0
    have hg0 : l.getD 0 0 = x0 := by rw [List.getD_eq_getElem?_getD, hx0]; rfl
    clear hx0
    have hbw : b < W.heap.size := hat.lt
    clear hat
    by_cases h0 : x0 = 203
    · have q0' : W.cell? ⟨b, off, none⟩ = some (.int .u8 203) := by rw [q0, h0]; rfl
      clear q0
      by_cases h6 : l.length < 6
      · have HE2 : Hid (tkE l = 20) := Lib.hid (by rw [HTE.out, if_neg hn, if_neg (by rw [hg0, h0]; decide), if_pos h6])
        clear hn h0 hg0
        go_wp2_with fail
        refine tkb_ret HEW.out _ _ _ _ _ 0 20 Try.results82 rfl rfl rfl rfl (fun w3 b3 _ => ⟨b, off, fun _ => rfl, HBW.out.trans b3, .inr ⟨by rw [HE2.out]; decide, by rw [HE2.out]⟩⟩)
      · have HTE2 : Hid (tkE l = if 1048576 < tkN l then 82 else if l.length < tkN l + 10 then 20 else
          if numL ((l.drop (tkN l + 6)).take 4) ≠ crc (l.take (tkN l + 6)) then 81 else 0) := Lib.hid (by rw [HTE.out, if_neg hn, if_neg (by rw [hg0, h0]; decide), if_neg h6])
        obtain ⟨x1, hx1⟩ : ∃ x, l[1]? = some x := ⟨_, List.getElem?_eq_getElem (by omega)⟩
        obtain ⟨x2, hx2⟩ : ∃ x, l[2]? = some x := ⟨_, List.getElem?_eq_getElem (by omega)⟩
        obtain ⟨x3, hx3⟩ : ∃ x, l[3]? = some x := ⟨_, List.getElem?_eq_getElem (by omega)⟩
        obtain ⟨x4, hx4⟩ : ∃ x, l[4]? = some x := ⟨_, List.getElem?_eq_getElem (by omega)⟩
        obtain ⟨x5, hx5⟩ : ∃ x, l[5]? = some x := ⟨_, List.getElem?_eq_getElem (by omega)⟩
        have HTN := Lib.hid (tkN_eq hx2 hx3 hx4 hx5)
        have q2 := HAT.out.cells 2 x2 hx2
        have q3 := HAT.out.cells 3 x3 hx3
        have q4 := HAT.out.cells 4 x4 hx4
        have q5 := HAT.out.cells 5 x5 hx5
        unfold bv at q2 q3 q4 q5
        have HX1 := Lib.hid hx1
        have HG1 : Hid (l.getD 1 0 = x1) := Lib.hid (by rw [List.getD_eq_getElem?_getD, hx1]; rfl)
        have l2 := x2.toNat_lt
        have l3 := x3.toNat_lt
        have l4 := x4.toNat_lt
        have l5 := x5.toNat_lt
        obtain ⟨y2, hy2⟩ : ∃ y, x2.toNat = y := ⟨_, rfl⟩
        obtain ⟨y3, hy3⟩ : ∃ y, x3.toNat = y := ⟨_, rfl⟩
        obtain ⟨y4, hy4⟩ : ∃ y, x4.toNat = y := ⟨_, rfl⟩
        obtain ⟨y5, hy5⟩ : ∃ y, x5.toNat = y := ⟨_, rfl⟩
        rw [hy2, hy3, hy4, hy5] at HTN
        rw [hy2] at q2 l2
        rw [hy3] at q3 l3
        rw [hy4] at q4 l4
        rw [hy5] at q5 l5
        have HHc := HCAP.out
        have h6' : 6 ≤ l.length := by omega
        have i2 : (2 : Int) < (l.length : Int) := by omega
        have i3 : (3 : Int) < (l.length : Int) := by omega
        have i4 : (4 : Int) < (l.length : Int) := by omega
        have i5 : (5 : Int) < (l.length : Int) := by omega
        clear hn h0 hg0 h6 HTE hx1 hx2 hx3 hx4 hx5 hy2 hy3 hy4 hy5
        go_wp2_with fail
        go_quiet (fail)
        obtain ⟨n, hnn⟩ : ∃ n, tkN l = n := ⟨_, rfl⟩
        have HNN := Lib.hid hnn
        rw [hnn] at HTE2 HTN
        have hnz : (((y2 : Int) * 256 + (y3 : Int)) * 256 + (y4 : Int)) * 256 + (y5 : Int) = (n : Int) := by rw [HTN.out]; push_cast; rfl
        rw [hnz]
        clear hnn q0' q2 q3 q4 q5 hnz i2 i3 i4 i5
        obtain ⟨V, hV⟩ : ∃ V, V = W.drewN nq := ⟨_, rfl⟩
        have HEV := Lib.hid (show V.heap[w.heap.size]? = some (.cells #[.int .u8 0, .slice none 0 0] 43) by rw [hV]; exact HEW.out)
        have HBV := Lib.hid (show Below w.heap.size w V by rw [hV]; exact below_drewN' HBW.out nq)
        have HVZ := Lib.hid (show V.heap.size = w.heap.size + 1 by rw [hV]; exact HZ.out)
        rw [← hV]
        clear hV f0 f1 c0 c1 HEW HBW HAT hbw
        have f0 := frozen_of_blk HEV.out 0
        have f1 := frozen_of_blk HEV.out 1
        have c0 := cell_of_blk HEV.out 0
        have c1 := cell_of_blk HEV.out 1
        simp at c0 c1
        have hnl : n < 4294967296 := by
          have := HTN.out
          omega
        by_cases hbig : 1048576 < n
        · have HE2 : Hid (tkE l = 82) := Lib.hid (by rw [HTE2.out, if_pos hbig])
          go_wp2_with fail
          refine tkb_ret HEV.out _ _ _ _ _ 0 82 Try.results82 rfl rfl rfl rfl (fun w3 b3 _ => ⟨b, off, fun _ => rfl, HBV.out.trans b3, .inr ⟨by rw [HE2.out]; decide, by rw [HE2.out]⟩⟩)
        · by_cases hsh : l.length < n + 10
          · have HE2 : Hid (tkE l = 20) := Lib.hid (by rw [HTE2.out, if_neg hbig, if_pos hsh])
            go_wp2_with fail
            refine tkb_ret HEV.out _ _ _ _ _ 0 20 Try.results82 rfl rfl rfl rfl (fun w3 b3 _ => ⟨b, off, fun _ => rfl, HBV.out.trans b3, .inr ⟨by rw [HE2.out]; decide, by rw [HE2.out]⟩⟩)
          · obtain ⟨n6, hn6⟩ : ∃ k, n + 6 = k := ⟨_, rfl⟩
            obtain ⟨n10, hn10⟩ : ∃ k, n + 10 = k := ⟨_, rfl⟩
            obtain ⟨cc, hcc⟩ : ∃ c, crc (l.take n6) = c := ⟨_, rfl⟩
            obtain ⟨m4, hm4⟩ : ∃ c, (l.drop n6).take 4 = c := ⟨_, rfl⟩
            have hge : n + 10 ≤ l.length := by omega
            have hm4l : m4.length = 4 := by rw [← hm4]; simp; omega
            have hcl : cc < 4294967296 := by rw [← hcc]; exact crc_lt _
            have HTE3 : Hid (tkE l = if fourL cc ≠ m4 then 81 else 0) := Lib.hid (by
              rw [HTE2.out, if_neg hbig, if_neg hsh, hn6, hcc, hm4]
              by_cases hq : numL m4 = cc
              · rw [if_neg (by simpa using hq), if_neg (fun h => (num4_ne hm4l hcl).2 h hq)]
              · rw [if_pos hq, if_pos ((num4_ne hm4l hcl).1 hq)])
            have hn20 : n ≤ 1048576 := by omega
            have HCC := Lib.hid hcc
            have HM4 := Lib.hid hm4
            have HML := Lib.hid hm4l
            have HCL := Lib.hid hcl
            have HL6 : Hid ((l.take n6).length = n6) := Lib.hid (by simp; omega)
            have HLB : Hid ((tkB l).length = n) := Lib.hid (by unfold tkB; rw [HNN.out]; simp; omega)
            have HA6 : Hid (BsAt w b off (l.take n6)) := Lib.hid (HA0.out.take _)
            have HA4 : Hid (BsAt w b (off + n6) m4) := Lib.hid (by rw [← hm4]; exact (HA0.out.drop _).take 4)
            obtain ⟨x1n, hx1n⟩ : ∃ x, x1.toNat = x := ⟨_, rfl⟩
            have HX1N := Lib.hid hx1n
            have HX1A : Hid (∀ w', Below w.heap.size w w' → w'.cell? ⟨b, off + 1, none⟩ = some (.int .u8 (x1n : Int))) := Lib.hid (fun w' hb => by
              have := (HA0.out.below hb).cells 1 x1 HX1.out
              unfold bv at this
              rw [hx1n] at this
              exact this)
            have hw6 : IntKind.i64.wrap ((n : Int) + 6) = (n6 : Int) := by rw [IntKind.wrap_i64]; omega
            have hw10 : IntKind.i64.wrap ((n : Int) + 10) = (n10 : Int) := by rw [IntKind.wrap_i64]; omega
            have HN6 := Lib.hid hn6
            have HN10 := Lib.hid hn10
            have hc6 : n6 ≤ cap := by omega
            have hc10 : n10 ≤ cap := by omega
            have hne6 : ¬ cap = n6 := by omega
            have hs4 : n10 - n6 = 4 := by omega
            have h610 : n6 ≤ n10 := by omega
            have hge2 : n10 ≤ l.length := by omega
            have hge3 : (n10 : Int) ≤ (l.length : Int) := by omega
            clear hbig hsh hn6 hn10 hcc hm4 hm4l hcl HTE2 hx1n f0 f1 c0 c1
            go_wp2_with fail
            refine wp_region_held_drew (S := (fun w' => Below V.heap.size V w')) (by kernel_rfl) ((Below.refl _ _).drew) (fun hHeld => ?_)
            obtain ⟨Vd, hGen⟩ : ∃ u, u = World.drew V := ⟨_, rfl⟩
            rw [← hGen] at hHeld ⊢
            clear hGen
            refine wpAnyH_take (i := 0) (oi := ⟨some 50, _, _, _, _, _⟩) (v := ?vvz1) rfl (by kernel_rfl) (by kernel_rfl) (by kernel_rfl) (fun _ _ _ h => h) (Or.inl ⟨by rfl, ?yyz1⟩) hHeld ?rrz1
            case yyz1 => (intro wq hSw; (try dsimp only at hSw); go_simp; first | done | with_reducible rfl)
            simp only [Act.put, List.setIfInBounds_toArray, List.set_cons_zero, List.set_cons_succ]
            refine wpAnyH_take (i := 1) (oi := ⟨some 51, _, _, _, _, _⟩) (v := ?vvz2) rfl (by kernel_rfl) (by kernel_rfl) (by kernel_rfl) (fun _ _ _ h => h) (Or.inl ⟨by rfl, ?yyz2⟩) hHeld ?rrz2
            case yyz2 => (intro wq hSw; (try dsimp only at hSw); go_simp; first | done | with_reducible rfl)
            simp only [Act.put, List.setIfInBounds_toArray, List.set_cons_zero, List.set_cons_succ]
            refine wpAnyH_take (i := 2) (oi := ⟨some 52, _, _, _, _, _⟩) (v := ?vvz3) rfl (by kernel_rfl) (by kernel_rfl) (by kernel_rfl) (fun _ _ _ h => h) (Or.inl ⟨by rfl, ?yyz3⟩) hHeld ?rrz3
            case yyz3 => (intro wq hSw; (try dsimp only at hSw); go_simp; first | done | with_reducible rfl)
            simp only [Act.put, List.setIfInBounds_toArray, List.set_cons_zero, List.set_cons_succ]
            refine wpAnyH_take (i := 3) (oi := ⟨some 53, _, _, _, _, _⟩) (v := ?vvz4) rfl (by kernel_rfl) (by kernel_rfl) (by kernel_rfl) (fun _ _ _ h => h) (Or.inl ⟨by rfl, ?yyz4⟩) hHeld ?rrz4
            case yyz4 => (intro wq hSw; (try dsimp only at hSw); go_simp; first | done | with_reducible rfl)
            simp only [Act.put, List.setIfInBounds_toArray, List.set_cons_zero, List.set_cons_succ]
            refine wpAnyH_take (i := 7) (oi := ⟨some 57, _, _, _, _, _⟩) (v := ?vvz5) rfl (by kernel_rfl) (by kernel_rfl) (by kernel_rfl) (fun _ _ _ h => h) (Or.inl ⟨by rfl, ?yyz5⟩) hHeld ?rrz5
            case yyz5 => (intro wq hSw; (try dsimp only at hSw); go_simp; first | done | with_reducible rfl)
            simp only [Act.put, List.setIfInBounds_toArray, List.set_cons_zero, List.set_cons_succ]
            refine wpAnyH_take (i := 8) (oi := ⟨some 58, _, _, _, _, _⟩) (v := ?vvz6) rfl (by kernel_rfl) (by kernel_rfl) (by kernel_rfl) (fun _ _ _ h => h) (Or.inl ⟨by rfl, ?yyz6⟩) hHeld ?rrz6
            case yyz6 => (intro wq hSw; (try dsimp only at hSw); go_simp; first | done | with_reducible rfl)
            simp only [Act.put, List.setIfInBounds_toArray, List.set_cons_zero, List.set_cons_succ]
            refine wpAnyH_take (i := 9) (oi := ⟨some 59, _, _, _, _, _⟩) (v := ?vvz7) rfl (by kernel_rfl) (by kernel_rfl) (by kernel_rfl) (fun _ _ _ h => h) (Or.inl ⟨by rfl, ?yyz7⟩) hHeld ?rrz7
            case yyz7 => (intro wq hSw; (try dsimp only at hSw); go_simp; first | done | with_reducible rfl)
            simp only [Act.put, List.setIfInBounds_toArray, List.set_cons_zero, List.set_cons_succ]
            refine wpAnyH_take (i := 10) (oi := ⟨some 60, _, _, _, _, _⟩) (v := ?vvz8) rfl (by kernel_rfl) (by kernel_rfl) (by kernel_rfl) (fun _ _ _ h => h) (Or.inl ⟨by rfl, ?yyz8⟩) hHeld ?rrz8
            case yyz8 => (intro wq hSw; (try dsimp only at hSw); go_simp; first | done | with_reducible rfl)
            simp only [Act.put, List.setIfInBounds_toArray, List.set_cons_zero, List.set_cons_succ]
            refine wpAnyH_take (i := 11) (oi := ⟨some 61, _, _, _, _, _⟩) (v := ?vvz9) rfl (by kernel_rfl) (by kernel_rfl) (by kernel_rfl) (fun _ _ _ h => h) (Or.inl ⟨by rfl, ?yyz9⟩) hHeld ?rrz9
            case yyz9 => (intro wq hSw; (try dsimp only at hSw); go_simp; first | done | with_reducible rfl)
            simp only [Act.put, List.setIfInBounds_toArray, List.set_cons_zero, List.set_cons_succ]
            refine wpAnyH_take (i := 12) (oi := ⟨some 62, _, _, _, _, _⟩) (v := ?vvz10) rfl (by kernel_rfl) (by kernel_rfl) (by kernel_rfl) (fun _ _ _ h => h) (Or.inl ⟨by rfl, ?yyz10⟩) hHeld ?rrz10
            case yyz10 => (intro wq hSw; (try dsimp only at hSw); go_simp; first | done | with_reducible rfl)
            simp only [Act.put, List.setIfInBounds_toArray, List.set_cons_zero, List.set_cons_succ]
            refine wpAnyH_ready (rs := [4, 13]) (by kernel_rfl) (by simp) ?_
            refine AllReadyH.cons (o := ⟨some 54, _, _, _, _, _⟩) rfl (fun K hK => ?_) (AllReadyH.cons (o := ⟨some 63, _, _, _, _, _⟩) rfl (fun K hK => ?_) AllReadyH.nil)
            · go_simp
              refine (r8sum_any' (some ⟨b, off, none⟩) n6 _ (l.take n6) _ (fun _ => ⟨b, off, rfl, HA6.out.below (HBV.out.trans (hHeld.mono (by rw [HVZ.out]; omega)))⟩) HL6.out (by rw [HL6.out]; omega)).mono ?_
              rintro e w5 ⟨rfl, rfl⟩
              rw [HCC.out]
              go_wp2_with fail
              refine hK.out _ _ ?ssz11 (fun hHeld => ?_)
              case ssz11 => (exact hHeld)
              clear hK K
              try simp only [Act.put, List.setIfInBounds_toArray, List.set_cons_zero, List.set_cons_succ]
              refine wpAnyH_ready (rs := [5, 13]) (by kernel_rfl) (by simp) ?_
              refine AllReadyH.cons (o := ⟨some 55, _, _, _, _, _⟩) rfl (fun K hK => ?_) (AllReadyH.cons (o := ⟨some 63, _, _, _, _, _⟩) rfl (fun K hK => ?_) AllReadyH.nil)
              · go_simp
                refine (r8four_any cc _ HCL.out).mono ?_
                rintro e w6 ⟨v6, rfl, o6, b6⟩
                have hB6 := below_then hHeld b6
                obtain ⟨g6, c6, rfl, _, at6⟩ := o6.at' (by simp [fourL])
                have A6 := Lib.hid at6
                clear o6 at6
                go_wp2_with fail
                refine hK.out _ _ ?ssz12 (fun hHeld => ?_)
                case ssz12 => (exact hB6)
                clear hK K
                try simp only [Act.put, List.setIfInBounds_toArray, List.set_cons_zero, List.set_cons_succ]
                refine wpAnyH_ready (rs := [6, 13]) (by kernel_rfl) (by simp) ?_
                refine AllReadyH.cons (o := ⟨some 56, _, _, _, _, _⟩) rfl (fun K hK => ?_) (AllReadyH.cons (o := ⟨some 63, _, _, _, _, _⟩) rfl (fun K hK => ?_) AllReadyH.nil)
                · refine step_toStr _ rfl (.tmp 55) rfl ⟨g6, 0, none⟩ 4 c6 (fourL cc) rfl rfl A6.out.conv ?_
                  refine hK.out _ _ ?ssz13 (fun hHeld => ?_)
                  case ssz13 => (exact hHeld)
                  clear hK K
                  try simp only [Act.put, List.setIfInBounds_toArray, List.set_cons_zero, List.set_cons_succ]
                  refine wpAnyH_ready (rs := [13]) (by kernel_rfl) (by simp) ?_
                  refine AllReadyH.cons (o := ⟨some 63, _, _, _, _, _⟩) rfl (fun K hK => ?_) AllReadyH.nil
                  refine step_toStr _ rfl (.tmp 62) rfl ⟨b, off + n6, none⟩ 4 (cap - n6) m4 rfl HML.out (HA4.out.below (HBV.out.trans (hHeld.mono (by rw [HVZ.out]; omega)))).conv ?_
                  refine hK.out _ _ ?ssz14 (fun hHeld => ?_)
                  case ssz14 => (exact hHeld)
                  clear hK K
                  try simp only [Act.put, List.setIfInBounds_toArray, List.set_cons_zero, List.set_cons_succ]
                  refine wpAnyH_take (i := 14) (oi := ⟨some 64, _, _, _, _, _⟩) (v := ?vvz15) rfl (by kernel_rfl) (by kernel_rfl) (by kernel_rfl) (fun _ _ _ h => h) (Or.inl ⟨by rfl, ?yyz15⟩) hHeld ?rrz15
                  case yyz15 => (intro wq hSw; (try dsimp only at hSw); go_simp; first | done | with_reducible rfl)
                  simp only [Act.put, List.setIfInBounds_toArray, List.set_cons_zero, List.set_cons_succ]
                  refine wpAnyH_done (by kernel_rfl) ?_ _
                  have hB9 := hHeld
                  clear hHeld
                  have HE5 := Lib.hid ((hB9.block _ (by rw [HVZ.out]; omega)).trans HEV.out)
                  have HBX := Lib.hid (HBV.out.trans (hB9.mono (by rw [HVZ.out]; omega)))
                  have f0 := frozen_of_blk HE5.out 0
                  have f1 := frozen_of_blk HE5.out 1
                  have c0 := cell_of_blk HE5.out 0
                  have c1 := cell_of_blk HE5.out 1
                  simp at c0 c1
                  go_wp2_with fail
                  · have hq : (!fourL cc == m4) = true := by assumption
                    have HE2 : Hid (tkE l = 81) := Lib.hid (by rw [HTE3.out, if_pos (by simpa using hq)])
                    refine tkb_ret HE5.out _ _ _ _ _ 0 81 Try.results82 rfl rfl rfl rfl (fun w3 b3 _ => ⟨b, off, fun _ => rfl, HBX.out.trans b3, .inr ⟨by rw [HE2.out]; decide, by rw [HE2.out]⟩⟩)
                  · have hq : (!fourL cc == m4) = false := by assumption
                    have HE2 : Hid (tkE l = 0) := Lib.hid (by rw [HTE3.out, if_neg (by simpa using hq)])
                    have ks : ∀ w', Below w.heap.size w w' → (fun w' => Below w.heap.size w w' ∧ w'.cell? ⟨b, off + 1, none⟩ = some (.int .u8 (x1n : Int))) w' := fun w' hb => ⟨hb, HX1A.out w' hb⟩
                    have KS := Lib.hid ks
                    have i1 : (1 : Int) < (l.length : Int) := by omega
                    have i3 : 6 ≤ n6 := by rw [← HN6.out]; omega
                    have i2 : (6 : Int) ≤ (n6 : Int) := by omega
                    have i4 : ¬ cap = 6 := by omega
                    clear ks
                    refine wp_region_held_drew (S := (fun w' => Below w.heap.size w w' ∧ w'.cell? ⟨b, off + 1, none⟩ = some (.int .u8 (x1n : Int)))) (by kernel_rfl) (KS.out _ HBX.out.drew) (fun hHeld => ?_)
                    refine wpAnyH_take (i := 0) (oi := ⟨some 66, _, _, _, _, _⟩) (v := ?vvy1) rfl (by kernel_rfl) (by kernel_rfl) (by kernel_rfl) (fun _ _ _ h => h) (Or.inl ⟨by rfl, ?yyy1⟩) hHeld ?rry1
                    case yyy1 => (intro wq hSw; (try dsimp only at hSw); go_simp; first | done | with_reducible rfl)
                    simp only [Act.put, List.setIfInBounds_toArray, List.set_cons_zero, List.set_cons_succ]
                    refine wpAnyH_take (i := 1) (oi := ⟨some 67, _, _, _, _, _⟩) (v := ?vvy2) rfl (by kernel_rfl) (by kernel_rfl) (by kernel_rfl) (fun _ _ _ h => h) (Or.inl ⟨by rfl, ?yyy2⟩) hHeld ?rry2
                    case yyy2 => (intro wq hSw; (try dsimp only at hSw); go_simp; first | done | with_reducible rfl)
                    simp only [Act.put, List.setIfInBounds_toArray, List.set_cons_zero, List.set_cons_succ]
                    refine wpAnyH_take (i := 2) (oi := ⟨some 68, _, _, _, _, _⟩) (v := ?vvy3) rfl (by kernel_rfl) (by kernel_rfl) (by kernel_rfl) (fun _ _ _ h => h) (Or.inl ⟨by rfl, ?yyy3⟩) hHeld ?rry3
                    case yyy3 => (intro wq hSw; (try dsimp only at hSw); go_simp; first | done | with_reducible rfl)
                    simp only [Act.put, List.setIfInBounds_toArray, List.set_cons_zero, List.set_cons_succ]
                    refine wpAnyH_take (i := 3) (oi := ⟨some 69, _, _, _, _, _⟩) (v := ?vvy4) rfl (by kernel_rfl) (by kernel_rfl) (by kernel_rfl) (fun _ _ _ h => h) (Or.inl ⟨by rfl, ?yyy4⟩) hHeld ?rry4
                    case yyy4 => (intro wq hSw; (try dsimp only at hSw); go_simp; first | done | with_reducible rfl)
                    simp only [Act.put, List.setIfInBounds_toArray, List.set_cons_zero, List.set_cons_succ]
                    refine wpAnyH_take (i := 4) (oi := ⟨some 70, _, _, _, _, _⟩) (v := ?vvy5) rfl (by kernel_rfl) (by kernel_rfl) (by kernel_rfl) (fun _ _ _ h => h) (Or.inl ⟨by rfl, ?yyy5⟩) hHeld ?rry5
                    case yyy5 => (intro wq hSw; (try dsimp only at hSw); go_simp; first | done | with_reducible rfl)
                    simp only [Act.put, List.setIfInBounds_toArray, List.set_cons_zero, List.set_cons_succ]
                    refine wpAnyH_take (i := 5) (oi := ⟨some 71, _, _, _, _, _⟩) (v := ?vvy6) rfl (by kernel_rfl) (by kernel_rfl) (by kernel_rfl) (fun _ _ _ h => h) (Or.inl ⟨by rfl, ?yyy6⟩) hHeld ?rry6
                    case yyy6 => (intro wq hSw; (try dsimp only at hSw); go_simp; first | done | with_reducible rfl)
                    simp only [Act.put, List.setIfInBounds_toArray, List.set_cons_zero, List.set_cons_succ]
                    refine wpAnyH_take (i := 6) (oi := ⟨some 72, _, _, _, _, _⟩) (v := ?vvy7) rfl (by kernel_rfl) (by kernel_rfl) (by kernel_rfl) (fun _ _ _ h => h) (Or.inl ⟨by rfl, ?yyy7⟩) hHeld ?rry7
                    case yyy7 => (intro wq hSw; (try dsimp only at hSw); go_simp; first | done | with_reducible rfl)
                    simp only [Act.put, List.setIfInBounds_toArray, List.set_cons_zero, List.set_cons_succ]
                    refine wpAnyH_take (i := 7) (oi := ⟨some 73, _, _, _, _, _⟩) (v := ?vvy8) rfl (by kernel_rfl) (by kernel_rfl) (by kernel_rfl) (fun _ _ _ h => h) (Or.inl ⟨by rfl, ?yyy8⟩) hHeld ?rry8
                    case yyy8 => (intro wq hSw; (try dsimp only at hSw); go_simp; first | done | with_reducible rfl)
                    simp only [Act.put, List.setIfInBounds_toArray, List.set_cons_zero, List.set_cons_succ]
                    refine wpAnyH_take (i := 8) (oi := ⟨some 74, _, _, _, _, _⟩) (v := ?vvy9) rfl (by kernel_rfl) (by kernel_rfl) (by kernel_rfl) (fun _ _ _ h => h) (Or.inl ⟨by rfl, ?yyy9⟩) hHeld ?rry9
                    case yyy9 => (intro wq hSw; (try dsimp only at hSw); go_simp; first | done | with_reducible rfl)
                    simp only [Act.put, List.setIfInBounds_toArray, List.set_cons_zero, List.set_cons_succ]
                    refine wpAnyH_take (i := 9) (oi := ⟨some 75, _, _, _, _, _⟩) (v := ?vvy10) rfl (by kernel_rfl) (by kernel_rfl) (by kernel_rfl) (fun _ _ _ h => h) (Or.inl ⟨by rfl, ?yyy10⟩) hHeld ?rry10
                    case yyy10 => (intro wq hSw; (try dsimp only at hSw); go_simp; first | done | with_reducible rfl)
                    simp only [Act.put, List.setIfInBounds_toArray, List.set_cons_zero, List.set_cons_succ]
                    refine wpAnyH_ready (rs := [10]) (by kernel_rfl) (by simp) ?_
                    refine AllReadyH.cons (o := ⟨none, _, _, _, _, _⟩) rfl (fun K hK => ?_) AllReadyH.nil
                    have hB6 := hHeld.1
                    try dsimp only at hB6
                    go_simp
                    refine hK.out _ _ ?ssy11 (fun hHeld => ?_)
                    case ssy11 => (exact KS.out _ ((hB6.setCell (p := ⟨w.heap.size, 0, none⟩) (Nat.le_refl _) _).setCell (p := ⟨w.heap.size, 1, none⟩) (Nat.le_refl _) _))
                    clear hK K
                    try simp only [Act.put, List.setIfInBounds_toArray, List.set_cons_zero, List.set_cons_succ]
                    refine wpAnyH_take (i := 11) (oi := ⟨some 3, _, _, _, _, _⟩) (v := ?vvy12) rfl (by kernel_rfl) (by kernel_rfl) (by kernel_rfl) (fun _ _ _ h => h) (Or.inl ⟨by rfl, ?yyy12⟩) hHeld ?rry12
                    case yyy12 => (intro wq hSw; (try dsimp only at hSw); go_simp; first | done | with_reducible rfl)
                    simp only [Act.put, List.setIfInBounds_toArray, List.set_cons_zero, List.set_cons_succ]
                    refine wpAnyH_take (i := 12) (oi := ⟨some 4, _, _, _, _, _⟩) (v := ?vvy13) rfl (by kernel_rfl) (by kernel_rfl) (by kernel_rfl) (fun _ _ _ h => h) (Or.inl ⟨by rfl, ?yyy13⟩) hHeld ?rry13
                    case yyy13 => (intro wq hSw; (try dsimp only at hSw); go_simp; first | done | with_reducible rfl)
                    simp only [Act.put, List.setIfInBounds_toArray, List.set_cons_zero, List.set_cons_succ]
                    refine wpAnyH_done (by kernel_rfl) ?_ _
                    clear hHeld
                    go_wp2_with fail
                    refine tkb_ret (wr := w6.drew) HE5.out _ _ _ _ (.slice (some ⟨b, off + 6, none⟩) (n6 - 6) (cap - 6)) (n10 : Int) 0 Try.results82 rfl rfl rfl rfl (fun w3 b3 o3 => ⟨b, off, fun _ => rfl, HBX.out.drew.trans b3, .inl ⟨HE2.out, ?_⟩⟩)
                    rw [HG1.out, HNN.out, HLB.out, HN10.out, show n6 - 6 = n by rw [← HN6.out]; omega]; unfold bv; rw [HX1N.out]
                · refine step_toStr _ rfl (.tmp 62) rfl ⟨b, off + n6, none⟩ 4 (cap - n6) m4 rfl HML.out (HA4.out.below (HBV.out.trans (hHeld.mono (by rw [HVZ.out]; omega)))).conv ?_
                  refine hK.out _ _ ?ssz16 (fun hHeld => ?_)
                  case ssz16 => (exact hHeld)
                  clear hK K
                  try simp only [Act.put, List.setIfInBounds_toArray, List.set_cons_zero, List.set_cons_succ]
                  refine wpAnyH_ready (rs := [6]) (by kernel_rfl) (by simp) ?_
                  refine AllReadyH.cons (o := ⟨some 56, _, _, _, _, _⟩) rfl (fun K hK => ?_) AllReadyH.nil
                  refine step_toStr _ rfl (.tmp 55) rfl ⟨g6, 0, none⟩ 4 c6 (fourL cc) rfl rfl A6.out.conv ?_
                  refine hK.out _ _ ?ssz17 (fun hHeld => ?_)
                  case ssz17 => (exact hHeld)
                  clear hK K
                  try simp only [Act.put, List.setIfInBounds_toArray, List.set_cons_zero, List.set_cons_succ]
                  refine wpAnyH_take (i := 14) (oi := ⟨some 64, _, _, _, _, _⟩) (v := ?vvz18) rfl (by kernel_rfl) (by kernel_rfl) (by kernel_rfl) (fun _ _ _ h => h) (Or.inl ⟨by rfl, ?yyz18⟩) hHeld ?rrz18
                  case yyz18 => (intro wq hSw; (try dsimp only at hSw); go_simp; first | done | with_reducible rfl)
                  simp only [Act.put, List.setIfInBounds_toArray, List.set_cons_zero, List.set_cons_succ]
                  refine wpAnyH_done (by kernel_rfl) ?_ _
                  have hB9 := hHeld
                  clear hHeld
                  have HE5 := Lib.hid ((hB9.block _ (by rw [HVZ.out]; omega)).trans HEV.out)
                  have HBX := Lib.hid (HBV.out.trans (hB9.mono (by rw [HVZ.out]; omega)))
                  have f0 := frozen_of_blk HE5.out 0
                  have f1 := frozen_of_blk HE5.out 1
                  have c0 := cell_of_blk HE5.out 0
                  have c1 := cell_of_blk HE5.out 1
                  simp at c0 c1
                  go_wp2_with fail
                  · have hq : (!fourL cc == m4) = true := by assumption
                    have HE2 : Hid (tkE l = 81) := Lib.hid (by rw [HTE3.out, if_pos (by simpa using hq)])
                    refine tkb_ret HE5.out _ _ _ _ _ 0 81 Try.results82 rfl rfl rfl rfl (fun w3 b3 _ => ⟨b, off, fun _ => rfl, HBX.out.trans b3, .inr ⟨by rw [HE2.out]; decide, by rw [HE2.out]⟩⟩)
                  · have hq : (!fourL cc == m4) = false := by assumption
                    have HE2 : Hid (tkE l = 0) := Lib.hid (by rw [HTE3.out, if_neg (by simpa using hq)])
                    have ks : ∀ w', Below w.heap.size w w' → (fun w' => Below w.heap.size w w' ∧ w'.cell? ⟨b, off + 1, none⟩ = some (.int .u8 (x1n : Int))) w' := fun w' hb => ⟨hb, HX1A.out w' hb⟩
                    have KS := Lib.hid ks
                    have i1 : (1 : Int) < (l.length : Int) := by omega
                    have i3 : 6 ≤ n6 := by rw [← HN6.out]; omega
                    have i2 : (6 : Int) ≤ (n6 : Int) := by omega
                    have i4 : ¬ cap = 6 := by omega
                    clear ks
                    refine wp_region_held_drew (S := (fun w' => Below w.heap.size w w' ∧ w'.cell? ⟨b, off + 1, none⟩ = some (.int .u8 (x1n : Int)))) (by kernel_rfl) (KS.out _ HBX.out.drew) (fun hHeld => ?_)
                    refine wpAnyH_take (i := 0) (oi := ⟨some 66, _, _, _, _, _⟩) (v := ?vvy14) rfl (by kernel_rfl) (by kernel_rfl) (by kernel_rfl) (fun _ _ _ h => h) (Or.inl ⟨by rfl, ?yyy14⟩) hHeld ?rry14
                    case yyy14 => (intro wq hSw; (try dsimp only at hSw); go_simp; first | done | with_reducible rfl)
                    simp only [Act.put, List.setIfInBounds_toArray, List.set_cons_zero, List.set_cons_succ]
                    refine wpAnyH_take (i := 1) (oi := ⟨some 67, _, _, _, _, _⟩) (v := ?vvy15) rfl (by kernel_rfl) (by kernel_rfl) (by kernel_rfl) (fun _ _ _ h => h) (Or.inl ⟨by rfl, ?yyy15⟩) hHeld ?rry15
                    case yyy15 => (intro wq hSw; (try dsimp only at hSw); go_simp; first | done | with_reducible rfl)
                    simp only [Act.put, List.setIfInBounds_toArray, List.set_cons_zero, List.set_cons_succ]
                    refine wpAnyH_take (i := 2) (oi := ⟨some 68, _, _, _, _, _⟩) (v := ?vvy16) rfl (by kernel_rfl) (by kernel_rfl) (by kernel_rfl) (fun _ _ _ h => h) (Or.inl ⟨by rfl, ?yyy16⟩) hHeld ?rry16
                    case yyy16 => (intro wq hSw; (try dsimp only at hSw); go_simp; first | done | with_reducible rfl)
                    simp only [Act.put, List.setIfInBounds_toArray, List.set_cons_zero, List.set_cons_succ]
                    refine wpAnyH_take (i := 3) (oi := ⟨some 69, _, _, _, _, _⟩) (v := ?vvy17) rfl (by kernel_rfl) (by kernel_rfl) (by kernel_rfl) (fun _ _ _ h => h) (Or.inl ⟨by rfl, ?yyy17⟩) hHeld ?rry17
                    case yyy17 => (intro wq hSw; (try dsimp only at hSw); go_simp; first | done | with_reducible rfl)
                    simp only [Act.put, List.setIfInBounds_toArray, List.set_cons_zero, List.set_cons_succ]
                    refine wpAnyH_take (i := 4) (oi := ⟨some 70, _, _, _, _, _⟩) (v := ?vvy18) rfl (by kernel_rfl) (by kernel_rfl) (by kernel_rfl) (fun _ _ _ h => h) (Or.inl ⟨by rfl, ?yyy18⟩) hHeld ?rry18
                    case yyy18 => (intro wq hSw; (try dsimp only at hSw); go_simp; first | done | with_reducible rfl)
                    simp only [Act.put, List.setIfInBounds_toArray, List.set_cons_zero, List.set_cons_succ]
                    refine wpAnyH_take (i := 5) (oi := ⟨some 71, _, _, _, _, _⟩) (v := ?vvy19) rfl (by kernel_rfl) (by kernel_rfl) (by kernel_rfl) (fun _ _ _ h => h) (Or.inl ⟨by rfl, ?yyy19⟩) hHeld ?rry19
                    case yyy19 => (intro wq hSw; (try dsimp only at hSw); go_simp; first | done | with_reducible rfl)
                    simp only [Act.put, List.setIfInBounds_toArray, List.set_cons_zero, List.set_cons_succ]
                    refine wpAnyH_take (i := 6) (oi := ⟨some 72, _, _, _, _, _⟩) (v := ?vvy20) rfl (by kernel_rfl) (by kernel_rfl) (by kernel_rfl) (fun _ _ _ h => h) (Or.inl ⟨by rfl, ?yyy20⟩) hHeld ?rry20
                    case yyy20 => (intro wq hSw; (try dsimp only at hSw); go_simp; first | done | with_reducible rfl)
                    simp only [Act.put, List.setIfInBounds_toArray, List.set_cons_zero, List.set_cons_succ]
                    refine wpAnyH_take (i := 7) (oi := ⟨some 73, _, _, _, _, _⟩) (v := ?vvy21) rfl (by kernel_rfl) (by kernel_rfl) (by kernel_rfl) (fun _ _ _ h => h) (Or.inl ⟨by rfl, ?yyy21⟩) hHeld ?rry21
                    case yyy21 => (intro wq hSw; (try dsimp only at hSw); go_simp; first | done | with_reducible rfl)
                    simp only [Act.put, List.setIfInBounds_toArray, List.set_cons_zero, List.set_cons_succ]
                    refine wpAnyH_take (i := 8) (oi := ⟨some 74, _, _, _, _, _⟩) (v := ?vvy22) rfl (by kernel_rfl) (by kernel_rfl) (by kernel_rfl) (fun _ _ _ h => h) (Or.inl ⟨by rfl, ?yyy22⟩) hHeld ?rry22
                    case yyy22 => (intro wq hSw; (try dsimp only at hSw); go_simp; first | done | with_reducible rfl)
                    simp only [Act.put, List.setIfInBounds_toArray, List.set_cons_zero, List.set_cons_succ]
                    refine wpAnyH_take (i := 9) (oi := ⟨some 75, _, _, _, _, _⟩) (v := ?vvy23) rfl (by kernel_rfl) (by kernel_rfl) (by kernel_rfl) (fun _ _ _ h => h) (Or.inl ⟨by rfl, ?yyy23⟩) hHeld ?rry23
                    case yyy23 => (intro wq hSw; (try dsimp only at hSw); go_simp; first | done | with_reducible rfl)
                    simp only [Act.put, List.setIfInBounds_toArray, List.set_cons_zero, List.set_cons_succ]
                    refine wpAnyH_ready (rs := [10]) (by kernel_rfl) (by simp) ?_
                    refine AllReadyH.cons (o := ⟨none, _, _, _, _, _⟩) rfl (fun K hK => ?_) AllReadyH.nil
                    have hB6 := hHeld.1
                    try dsimp only at hB6
                    go_simp
                    refine hK.out _ _ ?ssy24 (fun hHeld => ?_)
                    case ssy24 => (exact KS.out _ ((hB6.setCell (p := ⟨w.heap.size, 0, none⟩) (Nat.le_refl _) _).setCell (p := ⟨w.heap.size, 1, none⟩) (Nat.le_refl _) _))
                    clear hK K
                    try simp only [Act.put, List.setIfInBounds_toArray, List.set_cons_zero, List.set_cons_succ]
                    refine wpAnyH_take (i := 11) (oi := ⟨some 3, _, _, _, _, _⟩) (v := ?vvy25) rfl (by kernel_rfl) (by kernel_rfl) (by kernel_rfl) (fun _ _ _ h => h) (Or.inl ⟨by rfl, ?yyy25⟩) hHeld ?rry25
                    case yyy25 => (intro wq hSw; (try dsimp only at hSw); go_simp; first | done | with_reducible rfl)
                    simp only [Act.put, List.setIfInBounds_toArray, List.set_cons_zero, List.set_cons_succ]
                    refine wpAnyH_take (i := 12) (oi := ⟨some 4, _, _, _, _, _⟩) (v := ?vvy26) rfl (by kernel_rfl) (by kernel_rfl) (by kernel_rfl) (fun _ _ _ h => h) (Or.inl ⟨by rfl, ?yyy26⟩) hHeld ?rry26
                    case yyy26 => (intro wq hSw; (try dsimp only at hSw); go_simp; first | done | with_reducible rfl)
                    simp only [Act.put, List.setIfInBounds_toArray, List.set_cons_zero, List.set_cons_succ]
                    refine wpAnyH_done (by kernel_rfl) ?_ _
                    clear hHeld
                    go_wp2_with fail
                    refine tkb_ret (wr := w6.drew) HE5.out _ _ _ _ (.slice (some ⟨b, off + 6, none⟩) (n6 - 6) (cap - 6)) (n10 : Int) 0 Try.results82 rfl rfl rfl rfl (fun w3 b3 o3 => ⟨b, off, fun _ => rfl, HBX.out.drew.trans b3, .inl ⟨HE2.out, ?_⟩⟩)
                    rw [HG1.out, HNN.out, HLB.out, HN10.out, show n6 - 6 = n by rw [← HN6.out]; omega]; unfold bv; rw [HX1N.out]
              · refine step_toStr _ rfl (.tmp 62) rfl ⟨b, off + n6, none⟩ 4 (cap - n6) m4 rfl HML.out (HA4.out.below (HBV.out.trans (hHeld.mono (by rw [HVZ.out]; omega)))).conv ?_
                refine hK.out _ _ ?ssz19 (fun hHeld => ?_)
                case ssz19 => (exact hHeld)
                clear hK K
                try simp only [Act.put, List.setIfInBounds_toArray, List.set_cons_zero, List.set_cons_succ]
                refine wpAnyH_ready (rs := [5]) (by kernel_rfl) (by simp) ?_
                refine AllReadyH.cons (o := ⟨some 55, _, _, _, _, _⟩) rfl (fun K hK => ?_) AllReadyH.nil
                go_simp
                refine (r8four_any cc _ HCL.out).mono ?_
                rintro e w6 ⟨v6, rfl, o6, b6⟩
                have hB6 := below_then hHeld b6
                obtain ⟨g6, c6, rfl, _, at6⟩ := o6.at' (by simp [fourL])
                have A6 := Lib.hid at6
                clear o6 at6
                go_wp2_with fail
                refine hK.out _ _ ?ssz20 (fun hHeld => ?_)
                case ssz20 => (exact hB6)
                clear hK K
                try simp only [Act.put, List.setIfInBounds_toArray, List.set_cons_zero, List.set_cons_succ]
                refine wpAnyH_ready (rs := [6]) (by kernel_rfl) (by simp) ?_
                refine AllReadyH.cons (o := ⟨some 56, _, _, _, _, _⟩) rfl (fun K hK => ?_) AllReadyH.nil
                refine step_toStr _ rfl (.tmp 55) rfl ⟨g6, 0, none⟩ 4 c6 (fourL cc) rfl rfl A6.out.conv ?_
                refine hK.out _ _ ?ssz21 (fun hHeld => ?_)
                case ssz21 => (exact hHeld)
                clear hK K
                try simp only [Act.put, List.setIfInBounds_toArray, List.set_cons_zero, List.set_cons_succ]
                refine wpAnyH_take (i := 14) (oi := ⟨some 64, _, _, _, _, _⟩) (v := ?vvz22) rfl (by kernel_rfl) (by kernel_rfl) (by kernel_rfl) (fun _ _ _ h => h) (Or.inl ⟨by rfl, ?yyz22⟩) hHeld ?rrz22
                case yyz22 => (intro wq hSw; (try dsimp only at hSw); go_simp; first | done | with_reducible rfl)
                simp only [Act.put, List.setIfInBounds_toArray, List.set_cons_zero, List.set_cons_succ]
                refine wpAnyH_done (by kernel_rfl) ?_ _
                have hB9 := hHeld
                clear hHeld
                have HE5 := Lib.hid ((hB9.block _ (by rw [HVZ.out]; omega)).trans HEV.out)
                have HBX := Lib.hid (HBV.out.trans (hB9.mono (by rw [HVZ.out]; omega)))
                have f0 := frozen_of_blk HE5.out 0
                have f1 := frozen_of_blk HE5.out 1
                have c0 := cell_of_blk HE5.out 0
                have c1 := cell_of_blk HE5.out 1
                simp at c0 c1
                go_wp2_with fail
                · have hq : (!fourL cc == m4) = true := by assumption
                  have HE2 : Hid (tkE l = 81) := Lib.hid (by rw [HTE3.out, if_pos (by simpa using hq)])
                  refine tkb_ret HE5.out _ _ _ _ _ 0 81 Try.results82 rfl rfl rfl rfl (fun w3 b3 _ => ⟨b, off, fun _ => rfl, HBX.out.trans b3, .inr ⟨by rw [HE2.out]; decide, by rw [HE2.out]⟩⟩)
                · have hq : (!fourL cc == m4) = false := by assumption
                  have HE2 : Hid (tkE l = 0) := Lib.hid (by rw [HTE3.out, if_neg (by simpa using hq)])
                  have ks : ∀ w', Below w.heap.size w w' → (fun w' => Below w.heap.size w w' ∧ w'.cell? ⟨b, off + 1, none⟩ = some (.int .u8 (x1n : Int))) w' := fun w' hb => ⟨hb, HX1A.out w' hb⟩
                  have KS := Lib.hid ks
                  have i1 : (1 : Int) < (l.length : Int) := by omega
                  have i3 : 6 ≤ n6 := by rw [← HN6.out]; omega
                  have i2 : (6 : Int) ≤ (n6 : Int) := by omega
                  have i4 : ¬ cap = 6 := by omega
                  clear ks
                  refine wp_region_held_drew (S := (fun w' => Below w.heap.size w w' ∧ w'.cell? ⟨b, off + 1, none⟩ = some (.int .u8 (x1n : Int)))) (by kernel_rfl) (KS.out _ HBX.out.drew) (fun hHeld => ?_)
                  refine wpAnyH_take (i := 0) (oi := ⟨some 66, _, _, _, _, _⟩) (v := ?vvy27) rfl (by kernel_rfl) (by kernel_rfl) (by kernel_rfl) (fun _ _ _ h => h) (Or.inl ⟨by rfl, ?yyy27⟩) hHeld ?rry27
                  case yyy27 => (intro wq hSw; (try dsimp only at hSw); go_simp; first | done | with_reducible rfl)
                  simp only [Act.put, List.setIfInBounds_toArray, List.set_cons_zero, List.set_cons_succ]
                  refine wpAnyH_take (i := 1) (oi := ⟨some 67, _, _, _, _, _⟩) (v := ?vvy28) rfl (by kernel_rfl) (by kernel_rfl) (by kernel_rfl) (fun _ _ _ h => h) (Or.inl ⟨by rfl, ?yyy28⟩) hHeld ?rry28
                  case yyy28 => (intro wq hSw; (try dsimp only at hSw); go_simp; first | done | with_reducible rfl)
                  simp only [Act.put, List.setIfInBounds_toArray, List.set_cons_zero, List.set_cons_succ]
                  refine wpAnyH_take (i := 2) (oi := ⟨some 68, _, _, _, _, _⟩) (v := ?vvy29) rfl (by kernel_rfl) (by kernel_rfl) (by kernel_rfl) (fun _ _ _ h => h) (Or.inl ⟨by rfl, ?yyy29⟩) hHeld ?rry29
                  case yyy29 => (intro wq hSw; (try dsimp only at hSw); go_simp; first | done | with_reducible rfl)
                  simp only [Act.put, List.setIfInBounds_toArray, List.set_cons_zero, List.set_cons_succ]
                  refine wpAnyH_take (i := 3) (oi := ⟨some 69, _, _, _, _, _⟩) (v := ?vvy30) rfl (by kernel_rfl) (by kernel_rfl) (by kernel_rfl) (fun _ _ _ h => h) (Or.inl ⟨by rfl, ?yyy30⟩) hHeld ?rry30
                  case yyy30 => (intro wq hSw; (try dsimp only at hSw); go_simp; first | done | with_reducible rfl)
                  simp only [Act.put, List.setIfInBounds_toArray, List.set_cons_zero, List.set_cons_succ]
                  refine wpAnyH_take (i := 4) (oi := ⟨some 70, _, _, _, _, _⟩) (v := ?vvy31) rfl (by kernel_rfl) (by kernel_rfl) (by kernel_rfl) (fun _ _ _ h => h) (Or.inl ⟨by rfl, ?yyy31⟩) hHeld ?rry31
                  case yyy31 => (intro wq hSw; (try dsimp only at hSw); go_simp; first | done | with_reducible rfl)
                  simp only [Act.put, List.setIfInBounds_toArray, List.set_cons_zero, List.set_cons_succ]
                  refine wpAnyH_take (i := 5) (oi := ⟨some 71, _, _, _, _, _⟩) (v := ?vvy32) rfl (by kernel_rfl) (by kernel_rfl) (by kernel_rfl) (fun _ _ _ h => h) (Or.inl ⟨by rfl, ?yyy32⟩) hHeld ?rry32
                  case yyy32 => (intro wq hSw; (try dsimp only at hSw); go_simp; first | done | with_reducible rfl)
                  simp only [Act.put, List.setIfInBounds_toArray, List.set_cons_zero, List.set_cons_succ]
                  refine wpAnyH_take (i := 6) (oi := ⟨some 72, _, _, _, _, _⟩) (v := ?vvy33) rfl (by kernel_rfl) (by kernel_rfl) (by kernel_rfl) (fun _ _ _ h => h) (Or.inl ⟨by rfl, ?yyy33⟩) hHeld ?rry33
                  case yyy33 => (intro wq hSw; (try dsimp only at hSw); go_simp; first | done | with_reducible rfl)
                  simp only [Act.put, List.setIfInBounds_toArray, List.set_cons_zero, List.set_cons_succ]
                  refine wpAnyH_take (i := 7) (oi := ⟨some 73, _, _, _, _, _⟩) (v := ?vvy34) rfl (by kernel_rfl) (by kernel_rfl) (by kernel_rfl) (fun _ _ _ h => h) (Or.inl ⟨by rfl, ?yyy34⟩) hHeld ?rry34
                  case yyy34 => (intro wq hSw; (try dsimp only at hSw); go_simp; first | done | with_reducible rfl)
                  simp only [Act.put, List.setIfInBounds_toArray, List.set_cons_zero, List.set_cons_succ]
                  refine wpAnyH_take (i := 8) (oi := ⟨some 74, _, _, _, _, _⟩) (v := ?vvy35) rfl (by kernel_rfl) (by kernel_rfl) (by kernel_rfl) (fun _ _ _ h => h) (Or.inl ⟨by rfl, ?yyy35⟩) hHeld ?rry35
                  case yyy35 => (intro wq hSw; (try dsimp only at hSw); go_simp; first | done | with_reducible rfl)
                  simp only [Act.put, List.setIfInBounds_toArray, List.set_cons_zero, List.set_cons_succ]
                  refine wpAnyH_take (i := 9) (oi := ⟨some 75, _, _, _, _, _⟩) (v := ?vvy36) rfl (by kernel_rfl) (by kernel_rfl) (by kernel_rfl) (fun _ _ _ h => h) (Or.inl ⟨by rfl, ?yyy36⟩) hHeld ?rry36
                  case yyy36 => (intro wq hSw; (try dsimp only at hSw); go_simp; first | done | with_reducible rfl)
                  simp only [Act.put, List.setIfInBounds_toArray, List.set_cons_zero, List.set_cons_succ]
                  refine wpAnyH_ready (rs := [10]) (by kernel_rfl) (by simp) ?_
                  refine AllReadyH.cons (o := ⟨none, _, _, _, _, _⟩) rfl (fun K hK => ?_) AllReadyH.nil
                  have hB6 := hHeld.1
                  try dsimp only at hB6
                  go_simp
                  refine hK.out _ _ ?ssy37 (fun hHeld => ?_)
                  case ssy37 => (exact KS.out _ ((hB6.setCell (p := ⟨w.heap.size, 0, none⟩) (Nat.le_refl _) _).setCell (p := ⟨w.heap.size, 1, none⟩) (Nat.le_refl _) _))
                  clear hK K
                  try simp only [Act.put, List.setIfInBounds_toArray, List.set_cons_zero, List.set_cons_succ]
                  refine wpAnyH_take (i := 11) (oi := ⟨some 3, _, _, _, _, _⟩) (v := ?vvy38) rfl (by kernel_rfl) (by kernel_rfl) (by kernel_rfl) (fun _ _ _ h => h) (Or.inl ⟨by rfl, ?yyy38⟩) hHeld ?rry38
                  case yyy38 => (intro wq hSw; (try dsimp only at hSw); go_simp; first | done | with_reducible rfl)
                  simp only [Act.put, List.setIfInBounds_toArray, List.set_cons_zero, List.set_cons_succ]
                  refine wpAnyH_take (i := 12) (oi := ⟨some 4, _, _, _, _, _⟩) (v := ?vvy39) rfl (by kernel_rfl) (by kernel_rfl) (by kernel_rfl) (fun _ _ _ h => h) (Or.inl ⟨by rfl, ?yyy39⟩) hHeld ?rry39
                  case yyy39 => (intro wq hSw; (try dsimp only at hSw); go_simp; first | done | with_reducible rfl)
                  simp only [Act.put, List.setIfInBounds_toArray, List.set_cons_zero, List.set_cons_succ]
                  refine wpAnyH_done (by kernel_rfl) ?_ _
                  clear hHeld
                  go_wp2_with fail
                  refine tkb_ret (wr := w6.drew) HE5.out _ _ _ _ (.slice (some ⟨b, off + 6, none⟩) (n6 - 6) (cap - 6)) (n10 : Int) 0 Try.results82 rfl rfl rfl rfl (fun w3 b3 o3 => ⟨b, off, fun _ => rfl, HBX.out.drew.trans b3, .inl ⟨HE2.out, ?_⟩⟩)
                  rw [HG1.out, HNN.out, HLB.out, HN10.out, show n6 - 6 = n by rw [← HN6.out]; omega]; unfold bv; rw [HX1N.out]
            · refine step_toStr _ rfl (.tmp 62) rfl ⟨b, off + n6, none⟩ 4 (cap - n6) m4 rfl HML.out (HA4.out.below (HBV.out.trans (hHeld.mono (by rw [HVZ.out]; omega)))).conv ?_
              refine hK.out _ _ ?ssz23 (fun hHeld => ?_)
              case ssz23 => (exact hHeld)
              clear hK K
              try simp only [Act.put, List.setIfInBounds_toArray, List.set_cons_zero, List.set_cons_succ]
              refine wpAnyH_ready (rs := [4]) (by kernel_rfl) (by simp) ?_
              refine AllReadyH.cons (o := ⟨some 54, _, _, _, _, _⟩) rfl (fun K hK => ?_) AllReadyH.nil
              go_simp
              refine (r8sum_any' (some ⟨b, off, none⟩) n6 _ (l.take n6) _ (fun _ => ⟨b, off, rfl, HA6.out.below (HBV.out.trans (hHeld.mono (by rw [HVZ.out]; omega)))⟩) HL6.out (by rw [HL6.out]; omega)).mono ?_
              rintro e w5 ⟨rfl, rfl⟩
              rw [HCC.out]
              go_wp2_with fail
              refine hK.out _ _ ?ssz24 (fun hHeld => ?_)
              case ssz24 => (exact hHeld)
              clear hK K
              try simp only [Act.put, List.setIfInBounds_toArray, List.set_cons_zero, List.set_cons_succ]
              refine wpAnyH_ready (rs := [5]) (by kernel_rfl) (by simp) ?_
              refine AllReadyH.cons (o := ⟨some 55, _, _, _, _, _⟩) rfl (fun K hK => ?_) AllReadyH.nil
              go_simp
              refine (r8four_any cc _ HCL.out).mono ?_
              rintro e w6 ⟨v6, rfl, o6, b6⟩
              have hB6 := below_then hHeld b6
              obtain ⟨g6, c6, rfl, _, at6⟩ := o6.at' (by simp [fourL])
              have A6 := Lib.hid at6
              clear o6 at6
              go_wp2_with fail
              refine hK.out _ _ ?ssz25 (fun hHeld => ?_)
              case ssz25 => (exact hB6)
              clear hK K
              try simp only [Act.put, List.setIfInBounds_toArray, List.set_cons_zero, List.set_cons_succ]
              refine wpAnyH_ready (rs := [6]) (by kernel_rfl) (by simp) ?_
              refine AllReadyH.cons (o := ⟨some 56, _, _, _, _, _⟩) rfl (fun K hK => ?_) AllReadyH.nil
              refine step_toStr _ rfl (.tmp 55) rfl ⟨g6, 0, none⟩ 4 c6 (fourL cc) rfl rfl A6.out.conv ?_
              refine hK.out _ _ ?ssz26 (fun hHeld => ?_)
              case ssz26 => (exact hHeld)
              clear hK K
              try simp only [Act.put, List.setIfInBounds_toArray, List.set_cons_zero, List.set_cons_succ]
              refine wpAnyH_take (i := 14) (oi := ⟨some 64, _, _, _, _, _⟩) (v := ?vvz27) rfl (by kernel_rfl) (by kernel_rfl) (by kernel_rfl) (fun _ _ _ h => h) (Or.inl ⟨by rfl, ?yyz27⟩) hHeld ?rrz27
              case yyz27 => (intro wq hSw; (try dsimp only at hSw); go_simp; first | done | with_reducible rfl)
              simp only [Act.put, List.setIfInBounds_toArray, List.set_cons_zero, List.set_cons_succ]
              refine wpAnyH_done (by kernel_rfl) ?_ _
              have hB9 := hHeld
              clear hHeld
              have HE5 := Lib.hid ((hB9.block _ (by rw [HVZ.out]; omega)).trans HEV.out)
              have HBX := Lib.hid (HBV.out.trans (hB9.mono (by rw [HVZ.out]; omega)))
              have f0 := frozen_of_blk HE5.out 0
              have f1 := frozen_of_blk HE5.out 1
              have c0 := cell_of_blk HE5.out 0
              have c1 := cell_of_blk HE5.out 1
              simp at c0 c1
              go_wp2_with fail
              · have hq : (!fourL cc == m4) = true := by assumption
                have HE2 : Hid (tkE l = 81) := Lib.hid (by rw [HTE3.out, if_pos (by simpa using hq)])
                refine tkb_ret HE5.out _ _ _ _ _ 0 81 Try.results82 rfl rfl rfl rfl (fun w3 b3 _ => ⟨b, off, fun _ => rfl, HBX.out.trans b3, .inr ⟨by rw [HE2.out]; decide, by rw [HE2.out]⟩⟩)
              · have hq : (!fourL cc == m4) = false := by assumption
                have HE2 : Hid (tkE l = 0) := Lib.hid (by rw [HTE3.out, if_neg (by simpa using hq)])
                have ks : ∀ w', Below w.heap.size w w' → (fun w' => Below w.heap.size w w' ∧ w'.cell? ⟨b, off + 1, none⟩ = some (.int .u8 (x1n : Int))) w' := fun w' hb => ⟨hb, HX1A.out w' hb⟩
                have KS := Lib.hid ks
                have i1 : (1 : Int) < (l.length : Int) := by omega
                have i3 : 6 ≤ n6 := by rw [← HN6.out]; omega
                have i2 : (6 : Int) ≤ (n6 : Int) := by omega
                have i4 : ¬ cap = 6 := by omega
                clear ks
                refine wp_region_held_drew (S := (fun w' => Below w.heap.size w w' ∧ w'.cell? ⟨b, off + 1, none⟩ = some (.int .u8 (x1n : Int)))) (by kernel_rfl) (KS.out _ HBX.out.drew) (fun hHeld => ?_)
                refine wpAnyH_take (i := 0) (oi := ⟨some 66, _, _, _, _, _⟩) (v := ?vvy40) rfl (by kernel_rfl) (by kernel_rfl) (by kernel_rfl) (fun _ _ _ h => h) (Or.inl ⟨by rfl, ?yyy40⟩) hHeld ?rry40
                case yyy40 => (intro wq hSw; (try dsimp only at hSw); go_simp; first | done | with_reducible rfl)
                simp only [Act.put, List.setIfInBounds_toArray, List.set_cons_zero, List.set_cons_succ]
                refine wpAnyH_take (i := 1) (oi := ⟨some 67, _, _, _, _, _⟩) (v := ?vvy41) rfl (by kernel_rfl) (by kernel_rfl) (by kernel_rfl) (fun _ _ _ h => h) (Or.inl ⟨by rfl, ?yyy41⟩) hHeld ?rry41
                case yyy41 => (intro wq hSw; (try dsimp only at hSw); go_simp; first | done | with_reducible rfl)
                simp only [Act.put, List.setIfInBounds_toArray, List.set_cons_zero, List.set_cons_succ]
                refine wpAnyH_take (i := 2) (oi := ⟨some 68, _, _, _, _, _⟩) (v := ?vvy42) rfl (by kernel_rfl) (by kernel_rfl) (by kernel_rfl) (fun _ _ _ h => h) (Or.inl ⟨by rfl, ?yyy42⟩) hHeld ?rry42
                case yyy42 => (intro wq hSw; (try dsimp only at hSw); go_simp; first | done | with_reducible rfl)
                simp only [Act.put, List.setIfInBounds_toArray, List.set_cons_zero, List.set_cons_succ]
                refine wpAnyH_take (i := 3) (oi := ⟨some 69, _, _, _, _, _⟩) (v := ?vvy43) rfl (by kernel_rfl) (by kernel_rfl) (by kernel_rfl) (fun _ _ _ h => h) (Or.inl ⟨by rfl, ?yyy43⟩) hHeld ?rry43
                case yyy43 => (intro wq hSw; (try dsimp only at hSw); go_simp; first | done | with_reducible rfl)
                simp only [Act.put, List.setIfInBounds_toArray, List.set_cons_zero, List.set_cons_succ]
                refine wpAnyH_take (i := 4) (oi := ⟨some 70, _, _, _, _, _⟩) (v := ?vvy44) rfl (by kernel_rfl) (by kernel_rfl) (by kernel_rfl) (fun _ _ _ h => h) (Or.inl ⟨by rfl, ?yyy44⟩) hHeld ?rry44
                case yyy44 => (intro wq hSw; (try dsimp only at hSw); go_simp; first | done | with_reducible rfl)
                simp only [Act.put, List.setIfInBounds_toArray, List.set_cons_zero, List.set_cons_succ]
                refine wpAnyH_take (i := 5) (oi := ⟨some 71, _, _, _, _, _⟩) (v := ?vvy45) rfl (by kernel_rfl) (by kernel_rfl) (by kernel_rfl) (fun _ _ _ h => h) (Or.inl ⟨by rfl, ?yyy45⟩) hHeld ?rry45
                case yyy45 => (intro wq hSw; (try dsimp only at hSw); go_simp; first | done | with_reducible rfl)
                simp only [Act.put, List.setIfInBounds_toArray, List.set_cons_zero, List.set_cons_succ]
                refine wpAnyH_take (i := 6) (oi := ⟨some 72, _, _, _, _, _⟩) (v := ?vvy46) rfl (by kernel_rfl) (by kernel_rfl) (by kernel_rfl) (fun _ _ _ h => h) (Or.inl ⟨by rfl, ?yyy46⟩) hHeld ?rry46
                case yyy46 => (intro wq hSw; (try dsimp only at hSw); go_simp; first | done | with_reducible rfl)
                simp only [Act.put, List.setIfInBounds_toArray, List.set_cons_zero, List.set_cons_succ]
                refine wpAnyH_take (i := 7) (oi := ⟨some 73, _, _, _, _, _⟩) (v := ?vvy47) rfl (by kernel_rfl) (by kernel_rfl) (by kernel_rfl) (fun _ _ _ h => h) (Or.inl ⟨by rfl, ?yyy47⟩) hHeld ?rry47
                case yyy47 => (intro wq hSw; (try dsimp only at hSw); go_simp; first | done | with_reducible rfl)
                simp only [Act.put, List.setIfInBounds_toArray, List.set_cons_zero, List.set_cons_succ]
                refine wpAnyH_take (i := 8) (oi := ⟨some 74, _, _, _, _, _⟩) (v := ?vvy48) rfl (by kernel_rfl) (by kernel_rfl) (by kernel_rfl) (fun _ _ _ h => h) (Or.inl ⟨by rfl, ?yyy48⟩) hHeld ?rry48
                case yyy48 => (intro wq hSw; (try dsimp only at hSw); go_simp; first | done | with_reducible rfl)
                simp only [Act.put, List.setIfInBounds_toArray, List.set_cons_zero, List.set_cons_succ]
                refine wpAnyH_take (i := 9) (oi := ⟨some 75, _, _, _, _, _⟩) (v := ?vvy49) rfl (by kernel_rfl) (by kernel_rfl) (by kernel_rfl) (fun _ _ _ h => h) (Or.inl ⟨by rfl, ?yyy49⟩) hHeld ?rry49
                case yyy49 => (intro wq hSw; (try dsimp only at hSw); go_simp; first | done | with_reducible rfl)
                simp only [Act.put, List.setIfInBounds_toArray, List.set_cons_zero, List.set_cons_succ]
                refine wpAnyH_ready (rs := [10]) (by kernel_rfl) (by simp) ?_
                refine AllReadyH.cons (o := ⟨none, _, _, _, _, _⟩) rfl (fun K hK => ?_) AllReadyH.nil
                have hB6 := hHeld.1
                try dsimp only at hB6
                go_simp
                refine hK.out _ _ ?ssy50 (fun hHeld => ?_)
                case ssy50 => (exact KS.out _ ((hB6.setCell (p := ⟨w.heap.size, 0, none⟩) (Nat.le_refl _) _).setCell (p := ⟨w.heap.size, 1, none⟩) (Nat.le_refl _) _))
                clear hK K
                try simp only [Act.put, List.setIfInBounds_toArray, List.set_cons_zero, List.set_cons_succ]
                refine wpAnyH_take (i := 11) (oi := ⟨some 3, _, _, _, _, _⟩) (v := ?vvy51) rfl (by kernel_rfl) (by kernel_rfl) (by kernel_rfl) (fun _ _ _ h => h) (Or.inl ⟨by rfl, ?yyy51⟩) hHeld ?rry51
                case yyy51 => (intro wq hSw; (try dsimp only at hSw); go_simp; first | done | with_reducible rfl)
                simp only [Act.put, List.setIfInBounds_toArray, List.set_cons_zero, List.set_cons_succ]
                refine wpAnyH_take (i := 12) (oi := ⟨some 4, _, _, _, _, _⟩) (v := ?vvy52) rfl (by kernel_rfl) (by kernel_rfl) (by kernel_rfl) (fun _ _ _ h => h) (Or.inl ⟨by rfl, ?yyy52⟩) hHeld ?rry52
                case yyy52 => (intro wq hSw; (try dsimp only at hSw); go_simp; first | done | with_reducible rfl)
                simp only [Act.put, List.setIfInBounds_toArray, List.set_cons_zero, List.set_cons_succ]
                refine wpAnyH_done (by kernel_rfl) ?_ _
                clear hHeld
                go_wp2_with fail
                refine tkb_ret (wr := w6.drew) HE5.out _ _ _ _ (.slice (some ⟨b, off + 6, none⟩) (n6 - 6) (cap - 6)) (n10 : Int) 0 Try.results82 rfl rfl rfl rfl (fun w3 b3 o3 => ⟨b, off, fun _ => rfl, HBX.out.drew.trans b3, .inl ⟨HE2.out, ?_⟩⟩)
                rw [HG1.out, HNN.out, HLB.out, HN10.out, show n6 - 6 = n by rw [← HN6.out]; omega]; unfold bv; rw [HX1N.out]
    · have HE2 : Hid (tkE l = 80) := Lib.hid (by rw [HTE.out, if_neg hn, if_pos (by rw [hg0]; exact h0)])
      have t1 : ((x0.toNat : Int) != 203) = true := by
        have := u8_ne (b := 203) h0
        simpa using this
      clear hn h0 hg0
      go_wp2_with fail
      refine tkb_ret HEW.out _ _ _ _ _ 0 80 Try.results82 rfl rfl rfl rfl (fun w3 b3 _ => ⟨b, off, fun _ => rfl, HBW.out.trans b3, .inr ⟨by rw [HE2.out]; decide, by rw [HE2.out]⟩⟩)
end Go.Proofs.Ytcghgnncmnoalaa
