/- SetsActs: the walk. Conditions: each contract's own premises. -/
import Derived.Test.YtcghgnncmnoalaaSx22
import Derived.Deep.CutBlock
namespace Go.Proofs.Ytcghgnncmnoalaa
open Go.RowKit Go.Maps

theorem sizeAct (a : Ac13) : (Try.prog.info? 67).map (·.size) = some a.cells.length := by kernel_rfl
theorem sizeAct2 (a : Ac13) : (Try.prog.info? 67).map (·.size) = some a.cells.toArray.size := by kernel_rfl
theorem oneAct (a : Ac13) : a.cells.toArray.all (·.oneCell') = true := by
  refine all_oneCell_toArray (fun u hu => ?_)
  simp [Ac13.cells] at hu
  rcases hu with rfl | rfl | rfl | rfl | rfl | rfl | rfl | rfl | rfl <;> rfl
theorem actRange {w : World} {b : Nat} {a : Ac13} (h : w.heap[b]? = some (.cells a.cells.toArray 67)) : w.rangeAt b 0 a.cells := fun j v hv => by
  rw [cell_of_blk h, Nat.zero_add]
  simpa using hv
theorem small_parts {a : Ac13} (h : a.small = true) : a.ks.length ≤ 10 ∧ a.v.val.size ≤ 200 := by
  unfold Ac13.small at h
  simp at h
  exact ⟨h.1, h.2.1⟩
theorem below_grownK {w w' : World} {B : Nat} {v : Value} {l : List Ky} (h : kK.Own w B v l) (hg : w.grownBy w' v.ownBlock) (hB : B ≤ w.heap.size) : Below B w w' :=
  ⟨hg.os, hg.tape, hg.output, hg.size, fun k hk => hg.block k (by omega) (fun e => by have := (h.lt k e.symm).1; omega)⟩
set_option maxRecDepth 100000 in
set_option maxHeartbeats 16000000 in
theorem sacts_any (aa : Option Addr) (ac : Nat) (l : List Ac13) (w : World) (h : AcV w aa l) :
    Calls Try.prog 7 #[.slice aa l.length ac] w (BoolPost w true) := by
  have HL := Lib.hid h
  obtain ⟨n, hn⟩ : ∃ n, n = l.length := ⟨_, rfl⟩
  rw [← hn]
  have HN := Lib.hid hn
  clear h hn
  go_enter Try.func7, Try.ntmps7
  go_wp2_with fail
  refine (awake13_any _).mono ?_
  rintro e w1 ⟨rfl, b1⟩
  have HB1 := Lib.hid b1
  clear b1
  by_cases hbig : 80 < n
  · have t1 : decide ((80 : Int) < (n : Int)) = true := decide_eq_true (by omega)
    go_wp2_with fail
    refine (awake13_any _).mono ?_
    rintro e w2 ⟨rfl, b2⟩
    have HB2 := Lib.hid b2
    clear b2
    go_wp2_with fail
    go_ret
    exact ⟨rfl, below_then HB1.out HB2.out⟩
  have t1 : decide ((80 : Int) < (n : Int)) = false := decide_eq_false (by omega)
  go_wp2_with fail
  refine (sxNew_any _).mono ?_
  rintro e w2 ⟨sb, bs, bw, bm, rfl, g0, g1, g2, g3, s2, b2⟩
  obtain ⟨V, hV⟩ : ∃ V, w2.alloc (.cells #[.slice none 0 0] 60) = V := ⟨_, rfl⟩
  obtain ⟨rb, hrb⟩ : ∃ x, x = w2.heap.size := ⟨_, rfl⟩
  have bV : Below w2.heap.size w2 V := by rw [← hV]; exact below_box _ _
  have eV : V.heap[rb]? = some (.cells #[.slice none 0 0] 60) := by rw [← hV, hrb]; exact heap_new _ _
  have hM : MA w1 V sb bs bw bm 0 0 0 (fun _ => none) (fun _ => none) (fun _ => none) rb [] := ⟨⟨s2.below bV, below_then b2 bV, g0, g1, g2, g3⟩, ⟨⟨none, 0, eV, RowK.Own.nil kX V _, fun e => by cases e⟩, Nat.zero_le _⟩, by rw [hrb]; exact b2.size⟩
  have HJ0 : Hid (JI w1 V sb rb 0) := Lib.hid ⟨⟨_, _, _, _, _, _, _, _, _, _, hM, PX.start, fun x hx => by simp at hx, by omega, by omega, by omega, by simp⟩⟩
  have HV := Lib.hid (And.intro hV hrb)
  clear s2 b2 bV eV hM hV hrb g0 g1 g2 g3 t1
  go_upto_region 4 with fail
  rw [HV.out.1, ← HV.out.2]
  clear HV
  go_wp2_with fail
  go_loopw [5] (fun vi wr => ∃ i : Nat, i ≤ n ∧ vi = .int .i64 i ∧ Hid (JI w1 wr sb rb i)) (fun vi _ => n - (intOf vi).toNat)
  case atStart => exact ⟨0, Nat.zero_le _, rfl, HJ0⟩
  case round =>
    obtain ⟨i, hi, rfl, HI⟩ := hrel
    have HBR : Hid (Below w1.heap.size w1 wr) := Lib.hid (by obtain ⟨_, _, _, _, _, _, _, _, _, _, hM, _⟩ := HI.out.ex; exact hM.p.b)
    by_cases hlt : i < n
    · have hltz : (i : Int) < (n : Int) := by omega
      obtain ⟨a, ha⟩ : ∃ x, l[i]? = some x := ⟨_, List.getElem?_eq_getElem (by have := HN.out; omega)⟩
      obtain ⟨b, off, rfl, hbl, hbc⟩ := HL.out (fun e => by rw [e] at ha; simp at ha)
      have HOK1 : Hid (AcOk w1 a) := Lib.hid ((hbc i a ha).1.below HB1.out)
      have HRG : Hid (wr.rangeAt b (off + i * 9) a.cells) := Lib.hid (fun j v hv => ((below_then HB1.out HBR.out).cell (p := ⟨b, off + i * 9 + j, none⟩) hbl).trans ((hbc i a ha).2 j v hv))
      obtain ⟨ab, hab⟩ : ∃ y, y = wr.heap.size := ⟨_, rfl⟩
      have HXB := Lib.hid hab
      clear ha hbl hbc hab
      go_upto_region 8 with (first | (refine wpList_load_mid (op := ⟨some 39, _, _, _, _, _⟩) rfl 67 (.tmp 38) rfl b (off + i * 9) rfl a.cells _ HRG.out Try.underlying67 rfl (sizeAct a) ?_) | (rw [← HXB.out]; refine wpList_store_new (op := ⟨none, _, _, _, _, _⟩) rfl 67 (.tmp 6) (.tmp 39) rfl _ a.cells.toArray ab HXB.out rfl rfl (sizeAct2 a) rfl (oneAct a) ?_))
      obtain ⟨A0, hA0⟩ : ∃ V, wr.alloc (.cells a.cells.toArray 67) = V := ⟨_, rfl⟩
      have bA : Below wr.heap.size wr A0 := by rw [← hA0]; exact below_box _ _
      have HAB0 : Hid (A0.heap[ab]? = some (.cells a.cells.toArray 67)) := Lib.hid (by rw [← hA0, HXB.out]; exact heap_new _ _)
      have HIA : Hid (JI w1 A0 sb rb i) := Lib.hid (by
        obtain ⟨bs, bw, bm, ns, nw, nm, gs, gw, gm, L, hM, r⟩ := HI.out.ex
        exact ⟨⟨bs, bw, bm, ns, nw, nm, gs, gw, gm, L, hM.below bA, r⟩⟩)
      rw [hA0]
      clear bA hA0 HI HRG
      go_upto_region 9 with (refine wpList_load_mid (op := ⟨some 40, _, _, _, _, _⟩) rfl 67 (.tmp 6) rfl ab 0 rfl a.cells _ (actRange HAB0.out) Try.underlying67 rfl (sizeAct a) ?_)
      refine (small13_any a _).mono ?_
      rintro e A1 ⟨rfl, bA⟩
      have HAB1 : Hid (A1.heap[ab]? = some (.cells a.cells.toArray 67)) := Lib.hid ((bA.block _ (Array.getElem?_eq_some_iff.1 HAB0.out).1).trans HAB0.out)
      have HIB : Hid (JI w1 A1 sb rb i) := Lib.hid (by
        obtain ⟨bs, bw, bm, ns, nw, nm, gs, gw, gm, L, hM, r⟩ := HIA.out.ex
        exact ⟨⟨bs, bw, bm, ns, nw, nm, gs, gw, gm, L, hM.below bA, r⟩⟩)
      obtain ⟨sm, hsm⟩ : ∃ q, a.small = q := ⟨_, rfl⟩
      rw [hsm]
      have HSM := Lib.hid hsm
      clear bA hsm HAB0 HIA
      have k0 := cell_of_blk HAB1.out 0
      simp [Ac13.cells] at k0
      cases sm
      case false =>
        go_wp2_with fail
        go_ret
        obtain ⟨_, _, _, _, _, _, _, _, _, _, hM, _⟩ := HIB.out.ex
        exact ⟨rfl, below_then HB1.out hM.p.b⟩
      case true =>
        have HSP := Lib.hid (small_parts HSM.out)
        have KC : Hid (∀ u : World, u.heap[ab]? = some (.cells a.cells.toArray 67) → (fun w' : World => w'.cell? ⟨ab, 1, none⟩ = some (.int .i64 a.k.kind) ∧ w'.cell? ⟨ab, 2, none⟩ = some (.int .i64 a.k.a) ∧ w'.cell? ⟨ab, 3, none⟩ = some (.int .i64 a.k.b) ∧ w'.cell? ⟨ab, 4, none⟩ = some (.string a.k.s) ∧ w'.cell? ⟨ab, 5, none⟩ = some (.int .u64 a.v.word) ∧ w'.cell? ⟨ab, 6, none⟩ = some (.string a.v.val) ∧ w'.cell? ⟨ab, 7, none⟩ = some (.bool a.v.has) ∧ w'.cell? ⟨ab, 8, none⟩ = some (.slice a.ka a.ks.length a.kcap)) u) := Lib.hid (fun u hu => ⟨cell_of_blk hu 1, cell_of_blk hu 2, cell_of_blk hu 3, cell_of_blk hu 4, cell_of_blk hu 5, cell_of_blk hu 6, cell_of_blk hu 7, cell_of_blk hu 8⟩)
        go_upto_block 2 with fail
        clear k0
        go_cut [7] from 45 to 100 (fun s7 wc => ∃ u, u = wc ∧ s7 = .bool true ∧ Hid (JI w1 u sb rb (i + 1)) ∧ Hid (u.heap[ab]? = some (.cells a.cells.toArray 67)))
        case first =>
          obtain ⟨bs, bw, bm, ns, nw, nm, gs, gw, gm, L, hM, hX, hO, q1, q2, q3, q4⟩ := HIB.out.ex
          have HM0 := Lib.hid hM
          have HX := Lib.hid hX
          have HO := Lib.hid hO
          have HCN : Hid (i ≤ 80 ∧ ns ≤ i ∧ nw ≤ 10 * i ∧ nm ≤ 10 * i ∧ L.length ≤ i) := Lib.hid ⟨by omega, q1, q2, q3, q4⟩
          clear hM hX hO q1 q2 q3 q4
          by_cases hk0 : a.kd = 0
          · have e0 : (a.kd == 0) = true := by rw [hk0]; rfl
            clear hk0
            obtain ⟨c, gs', L', hB⟩ := see_both w1.heap.size sb bs bw bm nw nm rb HX.out HO.out (by have := HCN.out; omega) HOK1.out.k a.v
            have HSB := Lib.hid hB
            clear hB
            go_upto_region 13 with fail
            refine wp_region_held_drew (S := (fun w' : World => w'.cell? ⟨ab, 1, none⟩ = some (.int .i64 a.k.kind) ∧ w'.cell? ⟨ab, 2, none⟩ = some (.int .i64 a.k.a) ∧ w'.cell? ⟨ab, 3, none⟩ = some (.int .i64 a.k.b) ∧ w'.cell? ⟨ab, 4, none⟩ = some (.string a.k.s) ∧ w'.cell? ⟨ab, 5, none⟩ = some (.int .u64 a.v.word) ∧ w'.cell? ⟨ab, 6, none⟩ = some (.string a.v.val) ∧ w'.cell? ⟨ab, 7, none⟩ = some (.bool a.v.has) ∧ w'.cell? ⟨ab, 8, none⟩ = some (.slice a.ka a.ks.length a.kcap))) (by kernel_rfl) (KC.out _ HAB1.out) (fun hHeld => ?_)
            obtain ⟨X, hGen⟩ : ∃ u, u = World.drew A1 := ⟨_, rfl⟩
            rw [← hGen] at hHeld ⊢
            have bX : Below A1.heap.size A1 X := by rw [hGen]; exact below_drewN (Below.refl _ _) 1
            have HAB : Hid (X.heap[ab]? = some (.cells a.cells.toArray 67)) := Lib.hid ((bX.block _ (Array.getElem?_eq_some_iff.1 HAB1.out).1).trans HAB1.out)
            have HM := Lib.hid (HM0.out.below bX)
            clear bX
            clear hGen
            refine wpAnyH_take (i := 0) (oi := ⟨some 47, _, _, _, _, _⟩) (v := ?vvqa1) rfl (by kernel_rfl) (by kernel_rfl) (by kernel_rfl) (fun _ _ _ h => h) (Or.inl ⟨by rfl, ?yyqa1⟩) hHeld ?rrqa1
            case yyqa1 => (intro wq hSw; (try dsimp only at hSw); go_simp; first | done | with_reducible rfl)
            simp only [Act.put, List.setIfInBounds_toArray, List.set_cons_zero, List.set_cons_succ]
            refine wpAnyH_take (i := 1) (oi := ⟨some 48, _, _, _, _, _⟩) (v := ?vvqa2) rfl (by kernel_rfl) (by kernel_rfl) (by kernel_rfl) (fun _ _ _ h => h) (Or.inl ⟨by rfl, ?yyqa2⟩) hHeld ?rrqa2
            case yyqa2 => (intro wq hSw; (try dsimp only at hSw); go_simp; first | done | with_reducible rfl)
            simp only [Act.put, List.setIfInBounds_toArray, List.set_cons_zero, List.set_cons_succ]
            refine wpAnyH_take (i := 2) (oi := ⟨some 49, _, _, _, _, _⟩) (v := ?vvqa3) rfl (by kernel_rfl) (by kernel_rfl) (by kernel_rfl) (fun _ _ _ h => h) (Or.inl ⟨by rfl, ?yyqa3⟩) hHeld ?rrqa3
            case yyqa3 => (intro wq hSw; (try dsimp only at hSw); go_simp; first | done | with_reducible rfl)
            simp only [Act.put, List.setIfInBounds_toArray, List.set_cons_zero, List.set_cons_succ]
            refine wpAnyH_take (i := 3) (oi := ⟨some 50, _, _, _, _, _⟩) (v := ?vvqa4) rfl (by kernel_rfl) (by kernel_rfl) (by kernel_rfl) (fun _ _ _ h => h) (Or.inl ⟨by rfl, ?yyqa4⟩) hHeld ?rrqa4
            case yyqa4 => (intro wq hSw; (try dsimp only at hSw); go_simp; first | done | with_reducible rfl)
            simp only [Act.put, List.setIfInBounds_toArray, List.set_cons_zero, List.set_cons_succ]
            refine wpAnyH_take (i := 4) (oi := ⟨some 51, _, _, _, _, _⟩) (v := ?vvqa5) rfl (by kernel_rfl) (by kernel_rfl) (by kernel_rfl) (fun _ _ _ h => h) (Or.inl ⟨by rfl, ?yyqa5⟩) hHeld ?rrqa5
            case yyqa5 => (intro wq hSw; (try dsimp only at hSw); go_simp; first | done | with_reducible rfl)
            simp only [Act.put, List.setIfInBounds_toArray, List.set_cons_zero, List.set_cons_succ]
            refine wpAnyH_take (i := 6) (oi := ⟨some 53, _, _, _, _, _⟩) (v := ?vvqa6) rfl (by kernel_rfl) (by kernel_rfl) (by kernel_rfl) (fun _ _ _ h => h) (Or.inl ⟨by rfl, ?yyqa6⟩) hHeld ?rrqa6
            case yyqa6 => (intro wq hSw; (try dsimp only at hSw); go_simp; first | done | with_reducible rfl)
            simp only [Act.put, List.setIfInBounds_toArray, List.set_cons_zero, List.set_cons_succ]
            refine wpAnyH_take (i := 7) (oi := ⟨some 54, _, _, _, _, _⟩) (v := ?vvqa7) rfl (by kernel_rfl) (by kernel_rfl) (by kernel_rfl) (fun _ _ _ h => h) (Or.inl ⟨by rfl, ?yyqa7⟩) hHeld ?rrqa7
            case yyqa7 => (intro wq hSw; (try dsimp only at hSw); go_simp; first | done | with_reducible rfl)
            simp only [Act.put, List.setIfInBounds_toArray, List.set_cons_zero, List.set_cons_succ]
            refine wpAnyH_take (i := 8) (oi := ⟨some 55, _, _, _, _, _⟩) (v := ?vvqa8) rfl (by kernel_rfl) (by kernel_rfl) (by kernel_rfl) (fun _ _ _ h => h) (Or.inl ⟨by rfl, ?yyqa8⟩) hHeld ?rrqa8
            case yyqa8 => (intro wq hSw; (try dsimp only at hSw); go_simp; first | done | with_reducible rfl)
            simp only [Act.put, List.setIfInBounds_toArray, List.set_cons_zero, List.set_cons_succ]
            refine wpAnyH_take (i := 9) (oi := ⟨some 56, _, _, _, _, _⟩) (v := ?vvqa9) rfl (by kernel_rfl) (by kernel_rfl) (by kernel_rfl) (fun _ _ _ h => h) (Or.inl ⟨by rfl, ?yyqa9⟩) hHeld ?rrqa9
            case yyqa9 => (intro wq hSw; (try dsimp only at hSw); go_simp; first | done | with_reducible rfl)
            simp only [Act.put, List.setIfInBounds_toArray, List.set_cons_zero, List.set_cons_succ]
            refine wpAnyH_take (i := 10) (oi := ⟨some 57, _, _, _, _, _⟩) (v := ?vvqa10) rfl (by kernel_rfl) (by kernel_rfl) (by kernel_rfl) (fun _ _ _ h => h) (Or.inl ⟨by rfl, ?yyqa10⟩) hHeld ?rrqa10
            case yyqa10 => (intro wq hSw; (try dsimp only at hSw); go_simp; first | done | with_reducible rfl)
            simp only [Act.put, List.setIfInBounds_toArray, List.set_cons_zero, List.set_cons_succ]
            refine wpAnyH_ready (rs := [5]) (by kernel_rfl) (by simp) ?_
            refine AllReadyH.cons (o := ⟨some 52, _, _, _, _, _⟩) rfl (fun K hK => ?_) AllReadyH.nil
            go_simp
            refine (HSB.out.p _ _ HM.out.p.p (by have := HCN.out; omega)).mono ?_
            rintro e n52 ⟨rfl, k52, hk52, s', c'⟩
            have hq := HM.out.prog s' c' (fun j hj => .inr (.inl hj)) HM.out.p.g2 HM.out.p.g3
            replace HAB := Lib.hid (hq.2 _ _ _ _ HAB.out (by decide))
            replace HM := Lib.hid hq.1
            have HK := Lib.hid hk52
            clear hq s' c' hk52
            go_wp2_with fail
            refine hK.out _ _ ?ssqa11 (fun hHeld => ?_)
            case ssqa11 => (exact KC.out _ HAB.out)
            clear hK K
            try simp only [Act.put, List.setIfInBounds_toArray, List.set_cons_zero, List.set_cons_succ]
            refine wpAnyH_ready (rs := [11]) (by kernel_rfl) (by simp) ?_
            refine AllReadyH.cons (o := ⟨some 58, _, _, _, _, _⟩) rfl (fun K hK => ?_) AllReadyH.nil
            go_simp
            refine (HSB.out.r _ HM.out.r HM.out.p.b.size).mono ?_
            rintro e n58 ⟨rfl, s', c'⟩
            have hq := HM.out.ref s' c' (fun j hj => .inl hj)
            replace HAB := Lib.hid (hq.2 _ _ _ _ HAB.out (by decide) (by decide))
            replace HM := Lib.hid hq.1
            clear hq s' c'
            go_wp2_with fail
            refine hK.out _ _ ?ssqa12 (fun hHeld => ?_)
            case ssqa12 => (exact KC.out _ HAB.out)
            clear hK K
            try simp only [Act.put, List.setIfInBounds_toArray, List.set_cons_zero, List.set_cons_succ]
            refine wpAnyH_take (i := 12) (oi := ⟨some 59, _, _, _, _, _⟩) (v := ?vvqa13) rfl (by kernel_rfl) (by kernel_rfl) (by kernel_rfl) (fun _ _ _ h => h) (Or.inl ⟨by rfl, ?yyqa13⟩) hHeld ?rrqa13
            case yyqa13 => (intro wq hSw; (try dsimp only at hSw); go_simp; first | done | with_reducible rfl)
            simp only [Act.put, List.setIfInBounds_toArray, List.set_cons_zero, List.set_cons_succ]
            refine wpAnyH_take (i := 13) (oi := ⟨some 7, _, _, _, _, _⟩) (v := ?vvqa14) rfl (by kernel_rfl) (by kernel_rfl) (by kernel_rfl) (fun _ _ _ h => h) (Or.inl ⟨by rfl, ?yyqa14⟩) hHeld ?rrqa14
            case yyqa14 => (intro wq hSw; (try dsimp only at hSw); go_simp; first | done | with_reducible rfl)
            simp only [Act.put, List.setIfInBounds_toArray, List.set_cons_zero, List.set_cons_succ]
            refine wpAnyH_done (by kernel_rfl) ?_ _
            clear hHeld
            go_wp2_with fail
            go_meet
            exact ⟨_, rfl, rfl, Lib.hid ⟨⟨bs, bw, bm, k52, nw, nm, gs', gw, gm, L', HM.out, HSB.out.x, HSB.out.o, by have := HCN.out; have := HK.out; omega, by have := HCN.out; omega, by have := HCN.out; omega, by have := HCN.out; have := HSB.out.n; omega⟩⟩, HAB⟩
          have e0 : (a.kd == 0) = false := Bool.eq_false_iff.2 (fun h => hk0 (eq_of_beq h))
          by_cases hk1 : a.kd = 1
          · have e1 : (a.kd == 1) = true := by rw [hk1]; rfl
            clear hk0 hk1
            obtain ⟨c, gw', L', hB, hP⟩ := put_both w1.heap.size sb bs bw bm ns nm rb HX.out HO.out HOK1.out.k (val := a.v.val) (by have := HSP.out.2; omega)
            have HSB := Lib.hid hB
            have HPP := Lib.hid hP
            clear hB hP
            go_upto_region 15 with fail
            refine wp_region_held_drew (S := (fun w' : World => w'.cell? ⟨ab, 1, none⟩ = some (.int .i64 a.k.kind) ∧ w'.cell? ⟨ab, 2, none⟩ = some (.int .i64 a.k.a) ∧ w'.cell? ⟨ab, 3, none⟩ = some (.int .i64 a.k.b) ∧ w'.cell? ⟨ab, 4, none⟩ = some (.string a.k.s) ∧ w'.cell? ⟨ab, 5, none⟩ = some (.int .u64 a.v.word) ∧ w'.cell? ⟨ab, 6, none⟩ = some (.string a.v.val) ∧ w'.cell? ⟨ab, 7, none⟩ = some (.bool a.v.has) ∧ w'.cell? ⟨ab, 8, none⟩ = some (.slice a.ka a.ks.length a.kcap))) (by kernel_rfl) (KC.out _ HAB1.out) (fun hHeld => ?_)
            obtain ⟨X, hGen⟩ : ∃ u, u = World.drew A1 := ⟨_, rfl⟩
            rw [← hGen] at hHeld ⊢
            have bX : Below A1.heap.size A1 X := by rw [hGen]; exact below_drewN (Below.refl _ _) 1
            have HAB : Hid (X.heap[ab]? = some (.cells a.cells.toArray 67)) := Lib.hid ((bX.block _ (Array.getElem?_eq_some_iff.1 HAB1.out).1).trans HAB1.out)
            have HM := Lib.hid (HM0.out.below bX)
            clear bX
            clear hGen
            refine wpAnyH_take (i := 0) (oi := ⟨some 62, _, _, _, _, _⟩) (v := ?vvqb1) rfl (by kernel_rfl) (by kernel_rfl) (by kernel_rfl) (fun _ _ _ h => h) (Or.inl ⟨by rfl, ?yyqb1⟩) hHeld ?rrqb1
            case yyqb1 => (intro wq hSw; (try dsimp only at hSw); go_simp; first | done | with_reducible rfl)
            simp only [Act.put, List.setIfInBounds_toArray, List.set_cons_zero, List.set_cons_succ]
            refine wpAnyH_take (i := 1) (oi := ⟨some 63, _, _, _, _, _⟩) (v := ?vvqb2) rfl (by kernel_rfl) (by kernel_rfl) (by kernel_rfl) (fun _ _ _ h => h) (Or.inl ⟨by rfl, ?yyqb2⟩) hHeld ?rrqb2
            case yyqb2 => (intro wq hSw; (try dsimp only at hSw); go_simp; first | done | with_reducible rfl)
            simp only [Act.put, List.setIfInBounds_toArray, List.set_cons_zero, List.set_cons_succ]
            refine wpAnyH_take (i := 2) (oi := ⟨some 64, _, _, _, _, _⟩) (v := ?vvqb3) rfl (by kernel_rfl) (by kernel_rfl) (by kernel_rfl) (fun _ _ _ h => h) (Or.inl ⟨by rfl, ?yyqb3⟩) hHeld ?rrqb3
            case yyqb3 => (intro wq hSw; (try dsimp only at hSw); go_simp; first | done | with_reducible rfl)
            simp only [Act.put, List.setIfInBounds_toArray, List.set_cons_zero, List.set_cons_succ]
            refine wpAnyH_take (i := 3) (oi := ⟨some 65, _, _, _, _, _⟩) (v := ?vvqb4) rfl (by kernel_rfl) (by kernel_rfl) (by kernel_rfl) (fun _ _ _ h => h) (Or.inl ⟨by rfl, ?yyqb4⟩) hHeld ?rrqb4
            case yyqb4 => (intro wq hSw; (try dsimp only at hSw); go_simp; first | done | with_reducible rfl)
            simp only [Act.put, List.setIfInBounds_toArray, List.set_cons_zero, List.set_cons_succ]
            refine wpAnyH_take (i := 4) (oi := ⟨some 66, _, _, _, _, _⟩) (v := ?vvqb5) rfl (by kernel_rfl) (by kernel_rfl) (by kernel_rfl) (fun _ _ _ h => h) (Or.inl ⟨by rfl, ?yyqb5⟩) hHeld ?rrqb5
            case yyqb5 => (intro wq hSw; (try dsimp only at hSw); go_simp; first | done | with_reducible rfl)
            simp only [Act.put, List.setIfInBounds_toArray, List.set_cons_zero, List.set_cons_succ]
            refine wpAnyH_take (i := 5) (oi := ⟨some 67, _, _, _, _, _⟩) (v := ?vvqb6) rfl (by kernel_rfl) (by kernel_rfl) (by kernel_rfl) (fun _ _ _ h => h) (Or.inl ⟨by rfl, ?yyqb6⟩) hHeld ?rrqb6
            case yyqb6 => (intro wq hSw; (try dsimp only at hSw); go_simp; first | done | with_reducible rfl)
            simp only [Act.put, List.setIfInBounds_toArray, List.set_cons_zero, List.set_cons_succ]
            refine wpAnyH_take (i := 7) (oi := ⟨some 69, _, _, _, _, _⟩) (v := ?vvqb7) rfl (by kernel_rfl) (by kernel_rfl) (by kernel_rfl) (fun _ _ _ h => h) (Or.inl ⟨by rfl, ?yyqb7⟩) hHeld ?rrqb7
            case yyqb7 => (intro wq hSw; (try dsimp only at hSw); go_simp; first | done | with_reducible rfl)
            simp only [Act.put, List.setIfInBounds_toArray, List.set_cons_zero, List.set_cons_succ]
            refine wpAnyH_take (i := 8) (oi := ⟨some 70, _, _, _, _, _⟩) (v := ?vvqb8) rfl (by kernel_rfl) (by kernel_rfl) (by kernel_rfl) (fun _ _ _ h => h) (Or.inl ⟨by rfl, ?yyqb8⟩) hHeld ?rrqb8
            case yyqb8 => (intro wq hSw; (try dsimp only at hSw); go_simp; first | done | with_reducible rfl)
            simp only [Act.put, List.setIfInBounds_toArray, List.set_cons_zero, List.set_cons_succ]
            refine wpAnyH_take (i := 9) (oi := ⟨some 71, _, _, _, _, _⟩) (v := ?vvqb9) rfl (by kernel_rfl) (by kernel_rfl) (by kernel_rfl) (fun _ _ _ h => h) (Or.inl ⟨by rfl, ?yyqb9⟩) hHeld ?rrqb9
            case yyqb9 => (intro wq hSw; (try dsimp only at hSw); go_simp; first | done | with_reducible rfl)
            simp only [Act.put, List.setIfInBounds_toArray, List.set_cons_zero, List.set_cons_succ]
            refine wpAnyH_take (i := 11) (oi := ⟨some 73, _, _, _, _, _⟩) (v := ?vvqb10) rfl (by kernel_rfl) (by kernel_rfl) (by kernel_rfl) (fun _ _ _ h => h) (Or.inl ⟨by rfl, ?yyqb10⟩) hHeld ?rrqb10
            case yyqb10 => (intro wq hSw; (try dsimp only at hSw); go_simp; first | done | with_reducible rfl)
            simp only [Act.put, List.setIfInBounds_toArray, List.set_cons_zero, List.set_cons_succ]
            refine wpAnyH_take (i := 12) (oi := ⟨some 74, _, _, _, _, _⟩) (v := ?vvqb11) rfl (by kernel_rfl) (by kernel_rfl) (by kernel_rfl) (fun _ _ _ h => h) (Or.inl ⟨by rfl, ?yyqb11⟩) hHeld ?rrqb11
            case yyqb11 => (intro wq hSw; (try dsimp only at hSw); go_simp; first | done | with_reducible rfl)
            simp only [Act.put, List.setIfInBounds_toArray, List.set_cons_zero, List.set_cons_succ]
            refine wpAnyH_take (i := 13) (oi := ⟨some 75, _, _, _, _, _⟩) (v := ?vvqb12) rfl (by kernel_rfl) (by kernel_rfl) (by kernel_rfl) (fun _ _ _ h => h) (Or.inl ⟨by rfl, ?yyqb12⟩) hHeld ?rrqb12
            case yyqb12 => (intro wq hSw; (try dsimp only at hSw); go_simp; first | done | with_reducible rfl)
            simp only [Act.put, List.setIfInBounds_toArray, List.set_cons_zero, List.set_cons_succ]
            refine wpAnyH_ready (rs := [6, 10]) (by kernel_rfl) (by simp) ?_
            refine AllReadyH.cons (o := ⟨some 68, _, _, _, _, _⟩) rfl (fun K hK => ?_) (AllReadyH.cons (o := ⟨some 72, _, _, _, _, _⟩) rfl (fun K hK => ?_) AllReadyH.nil)
            · go_simp
              refine (HPP.out _ _ HM.out.p.p (by have := HCN.out; omega)).mono ?_
              rintro e n68 ⟨rfl, k68, hk68, s', c'⟩
              have hq := HM.out.prog s' c' (fun j hj => .inr (.inr (.inl hj))) HM.out.p.g2 HM.out.p.g3
              replace HAB := Lib.hid (hq.2 _ _ _ _ HAB.out (by decide))
              replace HM := Lib.hid hq.1
              have HK := Lib.hid hk68
              clear hq s' c' hk68
              go_wp2_with fail
              refine hK.out _ _ ?ssqb13 (fun hHeld => ?_)
              case ssqb13 => (exact KC.out _ HAB.out)
              clear hK K
              try simp only [Act.put, List.setIfInBounds_toArray, List.set_cons_zero, List.set_cons_succ]
              refine wpAnyH_ready (rs := [10]) (by kernel_rfl) (by simp) ?_
              refine AllReadyH.cons (o := ⟨some 72, _, _, _, _, _⟩) rfl (fun K hK => ?_) AllReadyH.nil
              go_simp
              obtain ⟨n72, hn⟩ : ∃ u, u = n68.alloc (.cells #[.int .i64 a.k.kind, .int .i64 a.k.a, .int .i64 a.k.b, .string a.k.s] 62) := ⟨_, rfl⟩
              obtain ⟨zb, hg⟩ : ∃ g, g = n68.heap.size := ⟨_, rfl⟩
              rw [← hn, ← hg]
              have bn : Below n68.heap.size n68 n72 := by rw [hn]; exact below_box _ _
              have HZ : Hid (n72.heap[zb]? = some (.cells #[.int .i64 a.k.kind, .int .i64 a.k.a, .int .i64 a.k.b, .string a.k.s] 62)) := Lib.hid (by rw [hn, hg]; exact heap_new _ _)
              replace HAB := Lib.hid ((bn.block _ (Array.getElem?_eq_some_iff.1 HAB.out).1).trans HAB.out)
              replace HM := Lib.hid (HM.out.below bn)
              clear hn hg bn
              refine hK.out _ _ ?ssqb14 (fun hHeld => ?_)
              case ssqb14 => (exact KC.out _ HAB.out)
              clear hK K
              try simp only [Act.put, List.setIfInBounds_toArray, List.set_cons_zero, List.set_cons_succ]
              refine wpAnyH_ready (rs := [14]) (by kernel_rfl) (by simp) ?_
              refine AllReadyH.cons (o := ⟨some 76, _, _, _, _, _⟩) rfl (fun K hK => ?_) AllReadyH.nil
              go_simp
              refine (HSB.out.r _ (some ⟨zb, 0, none⟩) 1 HM.out.r (fun _ => ⟨_, 0, rfl, RowK.new_at (k := kK) HZ.out rfl⟩) (fun _ b' off' e => .inr (fun hr => by injection e with e; injection e with e1; subst e1; obtain ⟨c9, z9, h9⟩ := hr; rw [HZ.out] at h9; injection h9 with h9; injection h9 with _ h9 _; exact absurd h9 (by decide)))).mono ?_
              rintro e n76 ⟨rfl, s', c'⟩
              have hq := HM.out.ref s' c' (fun j hj => .inr hj)
              replace HAB := Lib.hid (hq.2 _ _ _ _ HAB.out (by decide) (by decide))
              replace HZ := Lib.hid (hq.2 _ _ _ _ HZ.out (by decide) (by decide))
              replace HM := Lib.hid hq.1
              clear hq s' c'
              go_wp2_with fail
              refine hK.out _ _ ?ssqb15 (fun hHeld => ?_)
              case ssqb15 => (exact KC.out _ HAB.out)
              clear hK K
              try simp only [Act.put, List.setIfInBounds_toArray, List.set_cons_zero, List.set_cons_succ]
              refine wpAnyH_take (i := 15) (oi := ⟨some 77, _, _, _, _, _⟩) (v := ?vvqb16) rfl (by kernel_rfl) (by kernel_rfl) (by kernel_rfl) (fun _ _ _ h => h) (Or.inl ⟨by rfl, ?yyqb16⟩) hHeld ?rrqb16
              case yyqb16 => (intro wq hSw; (try dsimp only at hSw); go_simp; first | done | with_reducible rfl)
              simp only [Act.put, List.setIfInBounds_toArray, List.set_cons_zero, List.set_cons_succ]
              refine wpAnyH_take (i := 16) (oi := ⟨some 7, _, _, _, _, _⟩) (v := ?vvqb17) rfl (by kernel_rfl) (by kernel_rfl) (by kernel_rfl) (fun _ _ _ h => h) (Or.inl ⟨by rfl, ?yyqb17⟩) hHeld ?rrqb17
              case yyqb17 => (intro wq hSw; (try dsimp only at hSw); go_simp; first | done | with_reducible rfl)
              simp only [Act.put, List.setIfInBounds_toArray, List.set_cons_zero, List.set_cons_succ]
              refine wpAnyH_done (by kernel_rfl) ?_ _
              clear hHeld
              go_wp2_with fail
              go_meet
              exact ⟨_, rfl, rfl, Lib.hid ⟨⟨bs, bw, bm, ns, k68, nm, gs, gw', gm, L', HM.out, HSB.out.x, HSB.out.o, by have := HCN.out; omega, by have := HCN.out; have := HK.out; omega, by have := HCN.out; omega, by have := HCN.out; have := HSB.out.n; omega⟩⟩, HAB⟩
            · go_simp
              obtain ⟨n72, hn⟩ : ∃ u, u = X.alloc (.cells #[.int .i64 a.k.kind, .int .i64 a.k.a, .int .i64 a.k.b, .string a.k.s] 62) := ⟨_, rfl⟩
              obtain ⟨zb, hg⟩ : ∃ g, g = X.heap.size := ⟨_, rfl⟩
              rw [← hn, ← hg]
              have bn : Below X.heap.size X n72 := by rw [hn]; exact below_box _ _
              have HZ : Hid (n72.heap[zb]? = some (.cells #[.int .i64 a.k.kind, .int .i64 a.k.a, .int .i64 a.k.b, .string a.k.s] 62)) := Lib.hid (by rw [hn, hg]; exact heap_new _ _)
              replace HAB := Lib.hid ((bn.block _ (Array.getElem?_eq_some_iff.1 HAB.out).1).trans HAB.out)
              replace HM := Lib.hid (HM.out.below bn)
              clear hn hg bn
              refine hK.out _ _ ?ssqb18 (fun hHeld => ?_)
              case ssqb18 => (exact KC.out _ HAB.out)
              clear hK K
              try simp only [Act.put, List.setIfInBounds_toArray, List.set_cons_zero, List.set_cons_succ]
              refine wpAnyH_ready (rs := [6]) (by kernel_rfl) (by simp) ?_
              refine AllReadyH.cons (o := ⟨some 68, _, _, _, _, _⟩) rfl (fun K hK => ?_) AllReadyH.nil
              go_simp
              refine (HPP.out _ _ HM.out.p.p (by have := HCN.out; omega)).mono ?_
              rintro e n68 ⟨rfl, k68, hk68, s', c'⟩
              have hq := HM.out.prog s' c' (fun j hj => .inr (.inr (.inl hj))) HM.out.p.g2 HM.out.p.g3
              replace HAB := Lib.hid (hq.2 _ _ _ _ HAB.out (by decide))
              replace HZ := Lib.hid (hq.2 _ _ _ _ HZ.out (by decide))
              replace HM := Lib.hid hq.1
              have HK := Lib.hid hk68
              clear hq s' c' hk68
              go_wp2_with fail
              refine hK.out _ _ ?ssqb19 (fun hHeld => ?_)
              case ssqb19 => (exact KC.out _ HAB.out)
              clear hK K
              try simp only [Act.put, List.setIfInBounds_toArray, List.set_cons_zero, List.set_cons_succ]
              refine wpAnyH_ready (rs := [14]) (by kernel_rfl) (by simp) ?_
              refine AllReadyH.cons (o := ⟨some 76, _, _, _, _, _⟩) rfl (fun K hK => ?_) AllReadyH.nil
              go_simp
              refine (HSB.out.r _ (some ⟨zb, 0, none⟩) 1 HM.out.r (fun _ => ⟨_, 0, rfl, RowK.new_at (k := kK) HZ.out rfl⟩) (fun _ b' off' e => .inr (fun hr => by injection e with e; injection e with e1; subst e1; obtain ⟨c9, z9, h9⟩ := hr; rw [HZ.out] at h9; injection h9 with h9; injection h9 with _ h9 _; exact absurd h9 (by decide)))).mono ?_
              rintro e n76 ⟨rfl, s', c'⟩
              have hq := HM.out.ref s' c' (fun j hj => .inr hj)
              replace HAB := Lib.hid (hq.2 _ _ _ _ HAB.out (by decide) (by decide))
              replace HZ := Lib.hid (hq.2 _ _ _ _ HZ.out (by decide) (by decide))
              replace HM := Lib.hid hq.1
              clear hq s' c'
              go_wp2_with fail
              refine hK.out _ _ ?ssqb20 (fun hHeld => ?_)
              case ssqb20 => (exact KC.out _ HAB.out)
              clear hK K
              try simp only [Act.put, List.setIfInBounds_toArray, List.set_cons_zero, List.set_cons_succ]
              refine wpAnyH_take (i := 15) (oi := ⟨some 77, _, _, _, _, _⟩) (v := ?vvqb21) rfl (by kernel_rfl) (by kernel_rfl) (by kernel_rfl) (fun _ _ _ h => h) (Or.inl ⟨by rfl, ?yyqb21⟩) hHeld ?rrqb21
              case yyqb21 => (intro wq hSw; (try dsimp only at hSw); go_simp; first | done | with_reducible rfl)
              simp only [Act.put, List.setIfInBounds_toArray, List.set_cons_zero, List.set_cons_succ]
              refine wpAnyH_take (i := 16) (oi := ⟨some 7, _, _, _, _, _⟩) (v := ?vvqb22) rfl (by kernel_rfl) (by kernel_rfl) (by kernel_rfl) (fun _ _ _ h => h) (Or.inl ⟨by rfl, ?yyqb22⟩) hHeld ?rrqb22
              case yyqb22 => (intro wq hSw; (try dsimp only at hSw); go_simp; first | done | with_reducible rfl)
              simp only [Act.put, List.setIfInBounds_toArray, List.set_cons_zero, List.set_cons_succ]
              refine wpAnyH_done (by kernel_rfl) ?_ _
              clear hHeld
              go_wp2_with fail
              go_meet
              exact ⟨_, rfl, rfl, Lib.hid ⟨⟨bs, bw, bm, ns, k68, nm, gs, gw', gm, L', HM.out, HSB.out.x, HSB.out.o, by have := HCN.out; omega, by have := HCN.out; have := HK.out; omega, by have := HCN.out; omega, by have := HCN.out; have := HSB.out.n; omega⟩⟩, HAB⟩
          have e1 : (a.kd == 1) = false := Bool.eq_false_iff.2 (fun h => hk1 (eq_of_beq h))
          by_cases hk2 : a.kd = 2
          · have e2 : (a.kd == 2) = true := by rw [hk2]; rfl
            clear hk0 hk1 hk2
            obtain ⟨c, gw', L', hB, hP⟩ := drop_both w1.heap.size sb bs bw bm ns nm rb HX.out HO.out HOK1.out.o (by have := HSP.out.1; omega)
            have HSB := Lib.hid hB
            have HPP := Lib.hid hP
            clear hB hP
            go_upto_region 17 with fail
            refine wp_region_held_drew (S := (fun w' : World => w'.cell? ⟨ab, 1, none⟩ = some (.int .i64 a.k.kind) ∧ w'.cell? ⟨ab, 2, none⟩ = some (.int .i64 a.k.a) ∧ w'.cell? ⟨ab, 3, none⟩ = some (.int .i64 a.k.b) ∧ w'.cell? ⟨ab, 4, none⟩ = some (.string a.k.s) ∧ w'.cell? ⟨ab, 5, none⟩ = some (.int .u64 a.v.word) ∧ w'.cell? ⟨ab, 6, none⟩ = some (.string a.v.val) ∧ w'.cell? ⟨ab, 7, none⟩ = some (.bool a.v.has) ∧ w'.cell? ⟨ab, 8, none⟩ = some (.slice a.ka a.ks.length a.kcap))) (by kernel_rfl) (KC.out _ HAB1.out) (fun hHeld => ?_)
            obtain ⟨X, hGen⟩ : ∃ u, u = World.drew A1 := ⟨_, rfl⟩
            rw [← hGen] at hHeld ⊢
            have bX : Below A1.heap.size A1 X := by rw [hGen]; exact below_drewN (Below.refl _ _) 1
            have HAB : Hid (X.heap[ab]? = some (.cells a.cells.toArray 67)) := Lib.hid ((bX.block _ (Array.getElem?_eq_some_iff.1 HAB1.out).1).trans HAB1.out)
            have HM := Lib.hid (HM0.out.below bX)
            clear bX
            clear hGen
            refine wpAnyH_take (i := 0) (oi := ⟨some 80, _, _, _, _, _⟩) (v := ?vvqc1) rfl (by kernel_rfl) (by kernel_rfl) (by kernel_rfl) (fun _ _ _ h => h) (Or.inl ⟨by rfl, ?yyqc1⟩) hHeld ?rrqc1
            case yyqc1 => (intro wq hSw; (try dsimp only at hSw); go_simp; first | done | with_reducible rfl)
            simp only [Act.put, List.setIfInBounds_toArray, List.set_cons_zero, List.set_cons_succ]
            refine wpAnyH_take (i := 1) (oi := ⟨some 81, _, _, _, _, _⟩) (v := ?vvqc2) rfl (by kernel_rfl) (by kernel_rfl) (by kernel_rfl) (fun _ _ _ h => h) (Or.inl ⟨by rfl, ?yyqc2⟩) hHeld ?rrqc2
            case yyqc2 => (intro wq hSw; (try dsimp only at hSw); go_simp; first | done | with_reducible rfl)
            simp only [Act.put, List.setIfInBounds_toArray, List.set_cons_zero, List.set_cons_succ]
            refine wpAnyH_take (i := 2) (oi := ⟨some 82, _, _, _, _, _⟩) (v := ?vvqc3) rfl (by kernel_rfl) (by kernel_rfl) (by kernel_rfl) (fun _ _ _ h => h) (Or.inl ⟨by rfl, ?yyqc3⟩) hHeld ?rrqc3
            case yyqc3 => (intro wq hSw; (try dsimp only at hSw); go_simp; first | done | with_reducible rfl)
            simp only [Act.put, List.setIfInBounds_toArray, List.set_cons_zero, List.set_cons_succ]
            refine wpAnyH_take (i := 4) (oi := ⟨some 84, _, _, _, _, _⟩) (v := ?vvqc4) rfl (by kernel_rfl) (by kernel_rfl) (by kernel_rfl) (fun _ _ _ h => h) (Or.inl ⟨by rfl, ?yyqc4⟩) hHeld ?rrqc4
            case yyqc4 => (intro wq hSw; (try dsimp only at hSw); go_simp; first | done | with_reducible rfl)
            simp only [Act.put, List.setIfInBounds_toArray, List.set_cons_zero, List.set_cons_succ]
            refine wpAnyH_take (i := 5) (oi := ⟨some 85, _, _, _, _, _⟩) (v := ?vvqc5) rfl (by kernel_rfl) (by kernel_rfl) (by kernel_rfl) (fun _ _ _ h => h) (Or.inl ⟨by rfl, ?yyqc5⟩) hHeld ?rrqc5
            case yyqc5 => (intro wq hSw; (try dsimp only at hSw); go_simp; first | done | with_reducible rfl)
            simp only [Act.put, List.setIfInBounds_toArray, List.set_cons_zero, List.set_cons_succ]
            refine wpAnyH_take (i := 6) (oi := ⟨some 86, _, _, _, _, _⟩) (v := ?vvqc6) rfl (by kernel_rfl) (by kernel_rfl) (by kernel_rfl) (fun _ _ _ h => h) (Or.inl ⟨by rfl, ?yyqc6⟩) hHeld ?rrqc6
            case yyqc6 => (intro wq hSw; (try dsimp only at hSw); go_simp; first | done | with_reducible rfl)
            simp only [Act.put, List.setIfInBounds_toArray, List.set_cons_zero, List.set_cons_succ]
            refine wpAnyH_ready (rs := [3]) (by kernel_rfl) (by simp) ?_
            refine AllReadyH.cons (o := ⟨some 83, _, _, _, _, _⟩) rfl (fun K hK => ?_) AllReadyH.nil
            go_simp
            refine (HPP.out _ _ _ _ HM.out.p.p (HOK1.out.v.below HM.out.p.b) (by have := HCN.out; omega)).mono ?_
            rintro e n83 ⟨rfl, k83, hk83, s', c'⟩
            have hq := HM.out.prog s' c' (fun j hj => .inr (.inr (.inl hj))) HM.out.p.g2 HM.out.p.g3
            replace HAB := Lib.hid (hq.2 _ _ _ _ HAB.out (by decide))
            replace HM := Lib.hid hq.1
            have HK := Lib.hid hk83
            clear hq s' c' hk83
            go_wp2_with fail
            refine hK.out _ _ ?ssqc7 (fun hHeld => ?_)
            case ssqc7 => (exact KC.out _ HAB.out)
            clear hK K
            try simp only [Act.put, List.setIfInBounds_toArray, List.set_cons_zero, List.set_cons_succ]
            refine wpAnyH_ready (rs := [7]) (by kernel_rfl) (by simp) ?_
            refine AllReadyH.cons (o := ⟨some 87, _, _, _, _, _⟩) rfl (fun K hK => ?_) AllReadyH.nil
            go_simp
            refine (HSB.out.r _ _ _ HM.out.r (HOK1.out.v.below HM.out.p.b) (fun hn b' off' e => .inl (HOK1.out.lt b' off' e hn))).mono ?_
            rintro e n87 ⟨rfl, s', c'⟩
            have hq := HM.out.ref s' c' (fun j hj => .inr hj)
            replace HAB := Lib.hid (hq.2 _ _ _ _ HAB.out (by decide) (by decide))
            replace HM := Lib.hid hq.1
            clear hq s' c'
            go_wp2_with fail
            refine hK.out _ _ ?ssqc8 (fun hHeld => ?_)
            case ssqc8 => (exact KC.out _ HAB.out)
            clear hK K
            try simp only [Act.put, List.setIfInBounds_toArray, List.set_cons_zero, List.set_cons_succ]
            refine wpAnyH_take (i := 8) (oi := ⟨some 88, _, _, _, _, _⟩) (v := ?vvqc9) rfl (by kernel_rfl) (by kernel_rfl) (by kernel_rfl) (fun _ _ _ h => h) (Or.inl ⟨by rfl, ?yyqc9⟩) hHeld ?rrqc9
            case yyqc9 => (intro wq hSw; (try dsimp only at hSw); go_simp; first | done | with_reducible rfl)
            simp only [Act.put, List.setIfInBounds_toArray, List.set_cons_zero, List.set_cons_succ]
            refine wpAnyH_take (i := 9) (oi := ⟨some 7, _, _, _, _, _⟩) (v := ?vvqc10) rfl (by kernel_rfl) (by kernel_rfl) (by kernel_rfl) (fun _ _ _ h => h) (Or.inl ⟨by rfl, ?yyqc10⟩) hHeld ?rrqc10
            case yyqc10 => (intro wq hSw; (try dsimp only at hSw); go_simp; first | done | with_reducible rfl)
            simp only [Act.put, List.setIfInBounds_toArray, List.set_cons_zero, List.set_cons_succ]
            refine wpAnyH_done (by kernel_rfl) ?_ _
            clear hHeld
            go_wp2_with fail
            go_meet
            exact ⟨_, rfl, rfl, Lib.hid ⟨⟨bs, bw, bm, ns, k83, nm, gs, gw', gm, L', HM.out, HSB.out.x, HSB.out.o, by have := HCN.out; omega, by have := HCN.out; have := HK.out; have := HSP.out.1; omega, by have := HCN.out; omega, by have := HCN.out; have := HSB.out.n; omega⟩⟩, HAB⟩
          have e2 : (a.kd == 2) = false := Bool.eq_false_iff.2 (fun h => hk2 (eq_of_beq h))
          by_cases hk3 : a.kd = 3
          · have e3 : (a.kd == 3) = true := by rw [hk3]; rfl
            clear hk0 hk1 hk2 hk3
            go_wp2_with fail
            refine (sxMark_any HM0.out.p.p).mono ?_
            rintro e n1 ⟨rfl, s', c'⟩
            have hq := HM0.out.prog s' c' (fun j hj => .inl hj) HM0.out.p.g2 (HM0.out.p.b.size)
            obtain ⟨B9, hB9⟩ : ∃ x, x = A1.heap.size := ⟨_, rfl⟩
            rw [← hB9] at hq
            have HAB := Lib.hid (hq.2 _ _ _ _ HAB1.out (by decide))
            have HM1 := Lib.hid hq.1
            clear hq s' c' hB9
            go_wp2_with fail
            refine (r13Mark_any HM1.out.r false).mono ?_
            rintro e n2 ⟨rfl, s', c'⟩
            have hq := HM1.out.ref s' c' (fun j hj => .inr hj)
            replace HAB := Lib.hid (hq.2 _ _ _ _ HAB.out (by decide) (by decide))
            have HM2 := Lib.hid hq.1
            clear hq s' c'
            go_wp2_with fail
            go_meet
            exact ⟨_, rfl, rfl, Lib.hid ⟨⟨bs, bw, B9, ns, nw, nw, gs, gw, gw, L.map (mbX false), HM2.out, HX.out.mark, HO.out.mb false, by have := HCN.out; omega, by have := HCN.out; omega, by have := HCN.out; omega, by have := HCN.out; rw [List.length_map]; omega⟩⟩, HAB⟩
          have e3 : (a.kd == 3) = false := Bool.eq_false_iff.2 (fun h => hk3 (eq_of_beq h))
          by_cases hk4 : a.kd = 4
          · have e4 : (a.kd == 4) = true := by rw [hk4]; rfl
            clear hk0 hk1 hk2 hk3 hk4
            go_wp2_with fail
            refine (sxBack_any HM0.out.p.p).mono ?_
            rintro e n1 ⟨rfl, s', c'⟩
            have hq := HM0.out.prog s' c' (fun j hj => .inl hj) (HM0.out.p.b.size) HM0.out.p.g3
            obtain ⟨B9, hB9⟩ : ∃ x, x = A1.heap.size := ⟨_, rfl⟩
            rw [← hB9] at hq
            have HAB := Lib.hid (hq.2 _ _ _ _ HAB1.out (by decide))
            have HM1 := Lib.hid hq.1
            clear hq s' c' hB9
            go_wp2_with fail
            refine (r13Mark_any HM1.out.r true).mono ?_
            rintro e n2 ⟨rfl, s', c'⟩
            have hq := HM1.out.ref s' c' (fun j hj => .inr hj)
            replace HAB := Lib.hid (hq.2 _ _ _ _ HAB.out (by decide) (by decide))
            have HM2 := Lib.hid hq.1
            clear hq s' c'
            go_wp2_with fail
            go_meet
            exact ⟨_, rfl, rfl, Lib.hid ⟨⟨bs, B9, bm, ns, nm, nm, gs, gm, gm, L.map (mbX true), HM2.out, HX.out.back, HO.out.mb true, by have := HCN.out; omega, by have := HCN.out; omega, by have := HCN.out; omega, by have := HCN.out; rw [List.length_map]; omega⟩⟩, HAB⟩
          have e4 : (a.kd == 4) = false := Bool.eq_false_iff.2 (fun h => hk4 (eq_of_beq h))
          clear hk0 hk1 hk2 hk3 hk4
          go_wp2_with fail
          go_meet
          exact ⟨_, rfl, rfl, Lib.hid ⟨⟨bs, bw, bm, ns, nw, nm, gs, gw, gm, L, HM0.out, HX.out, HO.out, by have := HCN.out; omega, by have := HCN.out; omega, by have := HCN.out; omega, by have := HCN.out; omega⟩⟩, HAB1⟩
        case rest =>
          obtain ⟨A2, rfl, rfl, HI2, HAB2⟩ := hcut
          obtain ⟨bs, bw, bm, ns, nw, nm, gs, gw, gm, L, hM, hX, hO, q1, q2, q3, q4⟩ := HI2.out.ex
          have HM2 := Lib.hid hM
          have HX := Lib.hid hX
          have HO := Lib.hid hO
          have HCN : Hid (i < 80 ∧ ns ≤ i + 1 ∧ nw ≤ 10 * (i + 1) ∧ nm ≤ 10 * (i + 1) ∧ L.length ≤ i + 1) := Lib.hid ⟨by omega, q1, q2, q3, q4⟩
          obtain ⟨tv, th, q, y, hT⟩ := tell_both hX a.k
          have HT := Lib.hid hT
          clear hM hX hO q1 q2 q3 q4 hT HI2 HIB HAB1
          obtain ⟨k1, k2, k3, k4, _, _, _, _⟩ := KC.out _ HAB2.out
          go_wp2_with fail
          refine (sxGet_any HM2.out.p.p HOK1.out.k).mono ?_
          rintro e A3 ⟨rfl, b3⟩
          rw [HT.out.g]
          have HM3 := Lib.hid (HM2.out.below b3)
          have HAB3 : Hid (A3.heap[ab]? = some (.cells a.cells.toArray 67)) := Lib.hid ((b3.block _ (Array.getElem?_eq_some_iff.1 HAB2.out).1).trans HAB2.out)
          clear b3 k1 k2 k3 k4
          obtain ⟨k1, k2, k3, k4, _, _, _, _⟩ := KC.out _ HAB3.out
          go_wp2_with fail
          refine (HT.out.r _ _ _ HM3.out.r).mono ?_
          rintro e A4 ⟨rfl, b4⟩
          have HM4 := Lib.hid (HM3.out.below b4)
          have HAB4 : Hid (A4.heap[ab]? = some (.cells a.cells.toArray 67)) := Lib.hid ((b4.block _ (Array.getElem?_eq_some_iff.1 HAB3.out).1).trans HAB3.out)
          clear b4 k1 k2 k3 k4
          obtain ⟨k1, k2, k3, k4, _, _, _, _⟩ := KC.out _ HAB4.out
          go_wp2_with fail
          refine (sxSeen_any HM4.out.p.p HOK1.out.k).mono ?_
          rintro e A5 ⟨rfl, b5⟩
          rw [HT.out.s, HT.out.qs]
          obtain ⟨Y, hY⟩ : ∃ Y, A5.alloc (.cells #[.int .u64 y.word, .string y.val, .bool y.has] 64) = Y := ⟨_, rfl⟩
          obtain ⟨yb, hyb⟩ : ∃ z, z = A5.heap.size := ⟨_, rfl⟩
          have bY : Below A5.heap.size A5 Y := by rw [← hY]; exact below_box _ _
          have HEY : Hid (Y.heap[yb]? = some (.cells #[.int .u64 y.word, .string y.val, .bool y.has] 64)) := Lib.hid (by rw [← hY, hyb]; exact heap_new _ _)
          have HM6 := Lib.hid (HM4.out.below (below_then b5 bY))
          have HAB6 : Hid (Y.heap[ab]? = some (.cells a.cells.toArray 67)) := Lib.hid (((below_then b5 bY).block _ (Array.getElem?_eq_some_iff.1 HAB4.out).1).trans HAB4.out)
          have HY := Lib.hid (And.intro hY hyb)
          clear b5 bY hY hyb k1 k2 k3 k4
          go_upto_region 27 with fail
          rw [HY.out.1, ← HY.out.2]
          obtain ⟨k1, k2, k3, k4, _, _, _, _⟩ := KC.out _ HAB6.out
          go_wp2_with fail
          refine (HT.out.f _ _ _ HM6.out.r).mono ?_
          rintro e A7 ⟨v, rfl, hv, b7⟩
          have HM7 := Lib.hid (HM6.out.below b7)
          have HEY7 : Hid (A7.heap[yb]? = some (.cells #[.int .u64 y.word, .string y.val, .bool y.has] 64)) := Lib.hid ((b7.block _ (Array.getElem?_eq_some_iff.1 HEY.out).1).trans HEY.out)
          have HVV := Lib.hid hv
          clear b7 k1 k2 k3 k4 hv HEY
          go_upto_region 28 with fail
          go_cut [174] from 128 to 174 (fun s174 wc => ∃ u, u = wc ∧ s174 = .bool false ∧ Hid (Below A7.heap.size A7 u))
          case first =>
            have y0 := cell_of_blk HEY7.out 0
            have y1 := cell_of_blk HEY7.out 1
            have y2 := cell_of_blk HEY7.out 2
            simp at y0 y1 y2
            have hE := neSn y
            rcases HVV.out with ⟨q1, q2⟩ | ⟨q1, j, x, q2, hx, hxs⟩
            · have hz := HT.out.z q1
              subst q1 q2 hz
              go_quiet (fail)
              go_wp2_with fail
              go_meet
              exact ⟨_, rfl, rfl, Lib.hid (below_drewN (Below.refl _ _) _)⟩
            · subst q1 q2
              obtain ⟨sa, sc, e1, e2, e3⟩ := HM7.out.r.ex
              obtain ⟨g, cp, hve, _, _, hat⟩ := e2.at' (fun e => by rw [e] at hx; simp at hx)
              injection hve with hv1 hv2 hv3
              subst hv1
              obtain ⟨m, hm⟩ : ∃ m, m = L.length := ⟨_, rfl⟩
              rw [← hm] at e1
              have hjm : (j : Int) < (m : Int) := by have := (List.getElem?_eq_some_iff.1 hx).1; omega
              have t5 : decide ((0 : Int) ≤ (j : Int)) = true := decide_eq_true (by omega)
              have t6 : decide ((j : Int) < 0) = false := decide_eq_false (by omega)
              have d4 := hat.cells j x hx 4 _ rfl
              have d5 := hat.cells j x hx 5 _ rfl
              have d6 := hat.cells j x hx 6 _ rfl
              have q0 := cell_of_blk e1 0
              simp [kX, hxs] at d4 d5 d6
              simp at q0
              clear hx hxs e1 e2 e3 hv2 hv3 hat hm
              go_quiet (fail)
              go_wp2_with fail
              go_meet
              exact ⟨_, rfl, rfl, Lib.hid (below_drewN (Below.refl _ _) _)⟩
          case rest =>
            obtain ⟨A8, rfl, rfl, HB8⟩ := hcut
            have HM8 := Lib.hid (HM7.out.below HB8.out)
            clear HM7 HEY7 HVV HB8 HM6 HM4 HM3 HM2 HAB6 HAB4 HAB3 HAB2
            obtain ⟨sa, sc, e1, e2, e3⟩ := HM8.out.r.ex
            obtain ⟨m, hm⟩ : ∃ m, m = L.length := ⟨_, rfl⟩
            rw [← hm] at e1 e2
            have HE1 := Lib.hid e1
            have HE2 := Lib.hid e2
            have HMM := Lib.hid hm
            have hm6 : m ≤ 1000 := by have := HCN.out; omega
            clear e1 e2 e3 hm
            have HK0 : Hid (kK.Own A8 A8.heap.size (.slice none 0 0) ((L.take 0).map Rx.k) ∧ Below A8.heap.size A8 A8) := Lib.hid ⟨RowK.Own.nil kK _ _, Below.refl _ _⟩
            go_wp2_with fail
            go_loopw [17, 18] (fun s17 vj wq => ∃ j : Nat, j ≤ m ∧ vj = .int .i64 j ∧ ∃ v17, v17 = s17 ∧ Hid (kK.Own wq A8.heap.size v17 ((L.take j).map Rx.k) ∧ Below A8.heap.size A8 wq)) (fun _ vj _ => m - (intOf vj).toNat)
            case atStart => exact ⟨0, Nat.zero_le _, rfl, _, rfl, HK0⟩
            case round =>
              obtain ⟨j, hj, rfl, v17, rfl, HKJ⟩ := hrel
              have q0 := cell_of_blk ((HKJ.out.2.block _ (Array.getElem?_eq_some_iff.1 HE1.out).1).trans HE1.out) 0
              simp at q0
              by_cases hjl : j < m
              · have hjz : (j : Int) < (m : Int) := by omega
                have t6 : decide ((j : Int) < 0) = false := decide_eq_false (by omega)
                obtain ⟨x, hx⟩ : ∃ x, L[j]? = some x := ⟨_, List.getElem?_eq_getElem (by have := HMM.out; omega)⟩
                obtain ⟨g, cp, hve, _, _, hat⟩ := HE2.out.at' (fun e => by rw [e] at hx; simp at hx)
                injection hve with hv1 hv2 hv3
                subst hv1
                have hat2 := hat.below HKJ.out.2
                have d0 := hat2.cells j x hx 0 _ rfl
                have d1 := hat2.cells j x hx 1 _ rfl
                have d2 := hat2.cells j x hx 2 _ rfl
                have d3 := hat2.cells j x hx 3 _ rfl
                simp [kX] at d0 d1 d2 d3
                have HTK : Hid ((L.take (j + 1)).map Rx.k = (L.take j).map Rx.k ++ [x.k]) := Lib.hid (by
                  obtain ⟨hk', e⟩ := List.getElem?_eq_some_iff.1 hx
                  rw [List.take_succ_eq_append_getElem hk', e, List.map_append]; rfl)
                have HTL : Hid (((L.take j).map Rx.k).length = j) := Lib.hid (by rw [List.length_map, List.length_take]; have := HMM.out; omega)
                obtain ⟨oa, oc, hos⟩ := HKJ.out.1.shape
                rw [HTL.out] at hos
                subst hos
                obtain ⟨Z, hZ⟩ : ∃ Z, wr.alloc (.cells #[.int .i64 x.k.kind, .int .i64 x.k.a, .int .i64 x.k.b, .string x.k.s] 62) = Z := ⟨_, rfl⟩
                obtain ⟨zb, hzb⟩ : ∃ z, z = wr.heap.size := ⟨_, rfl⟩
                have bZ : Below wr.heap.size wr Z := by rw [← hZ]; exact below_box _ _
                have eZ : Z.heap[zb]? = some (.cells #[.int .i64 x.k.kind, .int .i64 x.k.a, .int .i64 x.k.b, .string x.k.s] 62) := by rw [← hZ, hzb]; exact heap_new _ _
                have HOZ := Lib.hid (HKJ.out.1.below bZ)
                have HBZ := Lib.hid (below_then HKJ.out.2 bZ)
                have HVZ : Hid (kK.V Z (some ⟨zb, 0, none⟩) [x.k]) := Lib.hid (fun _ => ⟨_, 0, rfl, RowK.new_at (k := kK) eZ rfl⟩)
                have HZ := Lib.hid (And.intro hZ hzb)
                clear hx hat hat2 hv2 hv3 bZ eZ hZ hzb
                go_wp2_with (at_builtin; rw [HZ.out.1, ← HZ.out.2]; refine RowK.wpList_app (k := kK) (B := A8.heap.size) (v := .slice oa j oc) (l := (L.take j).map Rx.k) rfl (.tmp 184) (.tmp 193) rfl rfl HOZ.out (some ⟨zb, 0, none⟩) 1 [x.k] 1 rfl rfl HVZ.out (fun e => by cases e) (by rw [HTL.out]; simp; omega) HBZ.out.size ?_; rintro v9 w9 h9; have H9 := Lib.hid h9; clear h9)
                refine ⟨⟨j + 1, by omega, by go_num, _, rfl, Lib.hid ⟨?_, HBZ.out.trans (below_grownK HOZ.out H9.out.2.1 HBZ.out.size)⟩⟩, by simp [intOf]; omega⟩
                rw [HTK.out]
                exact H9.out.1
              · obtain rfl : j = m := by omega
                have HM9 := Lib.hid (HM8.out.below HKJ.out.2)
                have HKEYS : Hid (kK.Own wr A8.heap.size v17 (L.map Rx.k)) := Lib.hid (by have := HKJ.out.1; rw [HMM.out, List.take_length] at this; exact this)
                obtain ⟨oa, oc, hos⟩ := HKEYS.out.shape
                rw [List.length_map, ← HMM.out] at hos
                subst hos
                go_wp2_with fail
                refine (sxReads_any HM9.out.p.p (by have := HCN.out; omega)).mono ?_
                rintro e A10 ⟨v10, ks, rfl, hks, o10, b10⟩
                have hke := KsG.reads HX.out hks
                subst hke
                obtain ⟨ra, rc, hrs⟩ := o10.shape
                rw [List.length_map, ← HMM.out] at hrs
                subst hrs
                have HM10 := Lib.hid (HM9.out.below b10)
                have HSAME : Hid (Calls Try.prog 45 #[.slice ra j rc, .slice oa j oc] A10 (BoolPost A10 true)) := Lib.hid (by
                  have := same9_eq ra oa rc oc (L.map Rx.k) A10 o10.toV (HKEYS.out.toV.below b10) (by rw [List.length_map, ← HMM.out]; omega)
                  rw [List.length_map, ← HMM.out] at this
                  exact this)
                clear hks o10 b10 q0
                go_wp2_with fail
                refine HSAME.out.mono ?_
                rintro e A11 ⟨rfl, b11⟩
                have HM11 := Lib.hid (HM10.out.below b11)
                clear b11
                go_wp2_with fail
                refine (sxWrites_any HM11.out.p.p (by have := HCN.out; omega)).mono ?_
                rintro e A12 ⟨v12, ks12, rfl, hk12, o12, b12⟩
                rw [HX.out.writes hk12] at o12
                obtain ⟨pa, pc, hps⟩ := o12.shape
                obtain ⟨wn, hwn⟩ : ∃ wn, wn = (outX L).length := ⟨_, rfl⟩
                rw [← hwn] at hps
                subst hps
                have HM12 := Lib.hid (HM11.out.below b12)
                have HO12 := Lib.hid o12
                have HWN := Lib.hid hwn
                clear hk12 o12 b12 hwn
                go_wp2_with fail
                refine (r13Writes_any HM12.out.r).mono ?_
                rintro e A13 ⟨v13, rfl, o13, b13⟩
                obtain ⟨pb, pd, hps⟩ := o13.shape
                rw [← HWN.out] at hps
                subst hps
                have HM13 := Lib.hid (HM12.out.below b13)
                have HSAME2 : Hid (Calls Try.prog 47 #[.slice pa wn pc, .slice pb wn pd] A13 (BoolPost A13 true)) := Lib.hid (by
                  have h1 := ws_out HX.out HO.out (HO12.out.below b13)
                  have h2 := ws_out HX.out HO.out o13
                  have := same13_eq pa pb pc pd (outX L) A13 h1 h2 (by have := outX_len L; have := HMM.out; omega)
                  rw [← HWN.out] at this
                  exact this)
                clear o13 b13
                go_wp2_with fail
                refine HSAME2.out.mono ?_
                rintro e A14 ⟨rfl, b14⟩
                have HJ14 : Hid (JI w1 A14 sb rb (i + 1)) := Lib.hid ⟨⟨bs, bw, bm, ns, nw, nm, gs, gw, gm, L, HM13.out.below b14, HX.out, HO.out, HCN.out.2⟩⟩
                clear b14
                go_wp2_with fail
                exact ⟨⟨i + 1, by omega, by go_num, HJ14⟩, by simp [intOf]; omega⟩
    · obtain rfl : i = n := by omega
      go_wp2_with fail
      go_ret
      exact ⟨rfl, below_then HB1.out HBR.out⟩
end Go.Proofs.Ytcghgnncmnoalaa
