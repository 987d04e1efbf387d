/- Reference 13: See. Conditions: each contract's own premises. Reference 13: Write. Conditions: each contract's own premises. Reference 13: Mark. Conditions: each contract's own premises. Reference 13: Writes. Conditions: each contract's own premises. -/
import Derived.Test.YtkhkdedjffkhdaaGreatSxB
import Derived.Test.YtkhkdedjffkhdaaGreatRwX
import Derived.Test.YtkhkdedjffkhdaaGreatRdX
namespace Go.Proofs.YtkhkdedjffkhdaaGreat
open Go.RowKit Go.Maps

theorem below_grownX {w w' : World} {B : Nat} {v : Value} {l : List Rx} (h : kX.Own w B v l) (hg : w.grownBy w' v.ownBlock) (hB : B ≤ w.heap.size) : Below B w w' :=
  ⟨hg.os, hg.tape, hg.output, hg.size, fun k hk => hg.block k (by omega) (fun e => by have := (h.lt k e.symm).1; omega)⟩
theorem below_nilX {w w' : World} (hg : w.grownBy w' (Value.slice none 0 0).ownBlock) : Below w.heap.size w w' := ⟨hg.os, hg.tape, hg.output, hg.size, fun j hj => hg.block j hj (fun e => by cases e)⟩
def See13 (w : World) (rb B : Nat) (L : List Rx) (k : Ky) (v : Sn) (e : Ending) (w' : World) : Prop :=
  if v.val.size ≠ 0 ∧ v.has = false then e = .returned (.int .i64 2) ∧ Below w.heap.size w w'
  else ((∃ x ∈ L, x.k = k) ∧ e = .returned (.int .i64 31) ∧ Below w.heap.size w w') ∨
    ((∀ x ∈ L, x.k ≠ k) ∧ e = .returned (.int .i64 0) ∧ ∃ n, AtX L k n ∧ SrX w' rb B (insX L n (Rx.of k v)) ∧ Chg w w' (fun j => j = rb))
structure SeI (w1 wr : World) (L : List Rx) (k : Ky) (n : Nat) : Prop where
  b : Below w1.heap.size w1 wr
  lt : ∀ j x, j < n → L[j]? = some x → x.k.cmp k < 0
set_option maxRecDepth 100000 in
set_option maxHeartbeats 4000000 in
theorem r13See_any {w : World} {rb B0 B : Nat} {L : List Rx} (h : SrX w rb B0 L) (hB : B ≤ w.heap.size) (hL : L.length < 1000000) (hok : ∀ x ∈ L, x.k.Ok) (k : Ky) (v : Sn) :
    Calls Tryz.prog 56 #[.pointer (some ⟨rb, 0, none⟩), .agg #[.int .i64 k.kind, .int .i64 k.a, .int .i64 k.b, .string k.s], .agg #[.int .u64 v.word, .string v.val, .bool v.has]] w (See13 w rb B L k v) := by
  obtain ⟨W, hW⟩ : ∃ W, (w.alloc (.cells #[.int .i64 k.kind, .int .i64 k.a, .int .i64 k.b, .string k.s] 47)).alloc (.cells #[.int .u64 v.word, .string v.val, .bool v.has] 96) = W := ⟨_, rfl⟩
  obtain ⟨kb, hkb⟩ : ∃ x, x = w.heap.size := ⟨_, rfl⟩
  obtain ⟨vb, hvb⟩ : ∃ x, x = w.heap.size + 1 := ⟨_, rfl⟩
  have bW : Below w.heap.size w W := by rw [← hW]; exact below_then (below_box _ _) (below_box _ _)
  have eW : W.heap[kb]? = some (.cells #[.int .i64 k.kind, .int .i64 k.a, .int .i64 k.b, .string k.s] 47) := by rw [← hW, hkb, Below.heap_alloc _ _ _ (by rw [size_alloc]; omega)]; exact heap_new _ _
  have eR : W.heap[vb]? = some (.cells #[.int .u64 v.word, .string v.val, .bool v.has] 96) := by rw [← hW, hvb]; have := heap_new (w.alloc (.cells #[.int .i64 k.kind, .int .i64 k.a, .int .i64 k.b, .string k.s] 47)) (.cells #[.int .u64 v.word, .string v.val, .bool v.has] 96); rwa [size_alloc] at this
  obtain ⟨a, cap, h1, h2, h3⟩ := h.ex
  have e1 := (bW.block _ (Array.getElem?_eq_some_iff.1 h1).1).trans h1
  have HS : Hid (SrX W rb B0 L) := Lib.hid ⟨⟨a, cap, e1, h2.below bW, h3⟩, h.n⟩
  obtain ⟨n, hn⟩ : ∃ n, n = L.length := ⟨_, rfl⟩
  rw [← hn] at e1 h2 h3
  have hn6 : n < 1000000 := by rw [hn]; exact hL
  have z0 := cell_of_blk eR 1
  have z1 := cell_of_blk eR 2
  simp at z0 z1
  have HC : Hid (∀ u : World, Below W.heap.size W u → u.heap[rb]? = some (.cells #[.slice a n cap] 41) ∧ u.heap[kb]? = some (.cells #[.int .i64 k.kind, .int .i64 k.a, .int .i64 k.b, .string k.s] 47) ∧ u.heap[vb]? = some (.cells #[.int .u64 v.word, .string v.val, .bool v.has] 96) ∧ kX.Own u B0 (.slice a n cap) L) := Lib.hid (fun u hu =>
    ⟨(hu.block _ (Array.getElem?_eq_some_iff.1 e1).1).trans e1, (hu.block _ (Array.getElem?_eq_some_iff.1 eW).1).trans eW, (hu.block _ (Array.getElem?_eq_some_iff.1 eR).1).trans eR, (h2.below bW).below hu⟩)
  have HRB : Hid (rb < w.heap.size) := Lib.hid (Array.getElem?_eq_some_iff.1 h1).1
  have HN := Lib.hid hn
  have HB := Lib.hid bW
  have HBW := Lib.hid hB
  have HOK := Lib.hid hok
  have HW := Lib.hid hW
  have HKB := Lib.hid (And.intro hkb hvb)
  have hz : ∃ e, (v.val.toList == ([] : List UInt8)) = e ∧ decide (v.val.size = 0) = e := ⟨_, sizeZ, rfl⟩
  obtain ⟨ee, he1, he2⟩ := hz
  have HE := Lib.hid he2
  clear h h1 h2 h3 bW eW e1 hW hkb hvb eR hB hok he2 hn hL
  by_cases hbad : v.val.size ≠ 0 ∧ v.has = false
  · have t1 : ee = false := by rw [← HE.out]; exact decide_eq_false hbad.1
    rw [t1] at he1
    have HBD := Lib.hid hbad
    clear hbad
    go_enter Tryz.func56, Tryz.ntmps56
    go_upto_region 1 with fail
    rw [HW.out, ← HKB.out.2]
    have t2 := HBD.out.2
    go_wp2_with fail
    go_ret
    unfold See13
    rw [if_pos HBD.out]
    exact ⟨rfl, HB.out⟩
  have tt : ee = true ∨ (ee = false ∧ v.has = true) := by
    cases hh : v.has
    · left
      rw [← HE.out]
      exact decide_eq_true (Classical.byContradiction fun hn => hbad ⟨hn, hh⟩)
    · cases ee
      · exact .inr ⟨rfl, rfl⟩
      · exact .inl rfl
  have HBD := Lib.hid hbad
  clear hbad
  go_enter Tryz.func56, Tryz.ntmps56
  go_upto_region 1 with fail
  rw [HW.out, ← HKB.out.2, ← HKB.out.1]
  have HT : Hid (ee = true ∨ (ee = false ∧ v.has = true)) := Lib.hid tt
  clear tt
  go_cut [16] from 9 to 16 (fun s16 wc => s16 = .bool false ∧ W = wc)
  case first =>
    rcases HT.out with tt | ⟨tt, th⟩
    · subst tt
      go_wp2_with fail
      go_meet
      exact ⟨rfl, rfl⟩
    · subst tt
      rw [th] at z1
      clear th
      go_wp2_with fail
      go_meet
      exact ⟨rfl, rfl⟩
  case rest =>
    obtain ⟨rfl, rfl⟩ := hcut
    clear he1 z0 z1
    obtain ⟨_, q1, _⟩ := HC.out _ (Below.refl _ _)
    have v0 := cell_of_blk q1 0
    have v1 := cell_of_blk q1 1
    have v2 := cell_of_blk q1 2
    have v3 := cell_of_blk q1 3
    simp at v0 v1 v2 v3
    clear q1
    go_wp2_with fail
    refine (r13Find_any HS.out k).mono ?_
    rintro e w1 ⟨fv, rfl, hf, b1⟩
    have HB1w := Lib.hid b1
    clear b1 v0 v1 v2 v3
    rcases hf with ⟨rfl, hno⟩ | ⟨fj, fx, rfl, hfx, hfk⟩
    · have HNO := Lib.hid hno
      clear hno
      go_wp2_with fail
      have HI0 : Hid (SeI W w1 L k 0) := Lib.hid ⟨HB1w.out, fun j x hj => absurd hj (Nat.not_lt_zero _)⟩
      go_loopw [7] (fun i wr => ∃ j : Nat, j ≤ n ∧ i = .int .i64 j ∧ Hid (SeI W wr L k j)) (fun i _ => n - (intOf i).toNat)
      case atStart => exact ⟨0, Nat.zero_le _, rfl, HI0⟩
      case round =>
        obtain ⟨j, hj, rfl, HI⟩ := hrel
        by_cases hlt : j < n
        · have hin' : (j : Int) < (n : Int) := by omega
          obtain ⟨x, hx⟩ : ∃ m, L[j]? = some m := ⟨_, List.getElem?_eq_getElem (by have := HN.out; omega)⟩
          obtain ⟨b, cp, hbe, _, _, _⟩ := (HC.out _ (Below.refl _ _)).2.2.2.at' (fun e => by rw [e] at hx; simp at hx)
          have HXS : Hid (x.k.s.size ≤ maxLen) := Lib.hid (HOK.out x (List.mem_of_getElem? hx)).s
          injection hbe with e1 e2 e3
          subst e1
          have KS : Hid (∀ u, Below W.heap.size W u → (fun w' : World => Below W.heap.size W w' ∧ w'.cell? ⟨rb, 0, none⟩ = some (.slice (some ⟨b, 0, none⟩) n cap) ∧ w'.cell? ⟨b, j * 21, none⟩ = some (.int .i64 x.k.kind) ∧ w'.cell? ⟨b, j * 21 + 1, none⟩ = some (.int .i64 x.k.a) ∧ w'.cell? ⟨b, j * 21 + 2, none⟩ = some (.int .i64 x.k.b) ∧ w'.cell? ⟨b, j * 21 + 3, none⟩ = some (.string x.k.s) ∧ w'.cell? ⟨kb, 0, none⟩ = some (.int .i64 k.kind) ∧ w'.cell? ⟨kb, 1, none⟩ = some (.int .i64 k.a) ∧ w'.cell? ⟨kb, 2, none⟩ = some (.int .i64 k.b) ∧ w'.cell? ⟨kb, 3, none⟩ = some (.string k.s)) u) := Lib.hid (fun u hu => by
            obtain ⟨p0, p1, p2, p3⟩ := HC.out u hu
            obtain ⟨b', cp', hbe', _, _, hat'⟩ := p3.at' (fun e => by rw [e] at hx; simp at hx)
            injection hbe' with e1' e2' e3'
            injection e1' with e1'
            injection e1' with e1'
            subst e1'
            have d0 := hat'.cells j x hx 0 _ rfl
            have d1 := hat'.cells j x hx 1 _ rfl
            have d2 := hat'.cells j x hx 2 _ rfl
            have d3 := hat'.cells j x hx 3 _ rfl
            simp [kX] at d0 d1 d2 d3
            exact ⟨hu, by simpa using cell_of_blk p0 0, d0, d1, d2, d3, by simpa using cell_of_blk p1 0, by simpa using cell_of_blk p1 1, by simpa using cell_of_blk p1 2, by simpa using cell_of_blk p1 3⟩)
          obtain ⟨_, c0, c1, c2, c3, c4, c5, c6, c7, c8⟩ := KS.out _ HI.out.b
          have HX := Lib.hid hx
          obtain ⟨cc, hcc⟩ : ∃ c, x.k.cmp k = c := ⟨_, rfl⟩
          have HCC := Lib.hid hcc
          clear hx e2 e3 hcc
          go_upto_region 6 with fail
          refine wp_region_held_drew (S := (fun w' : World => Below W.heap.size W w' ∧ w'.cell? ⟨rb, 0, none⟩ = some (.slice (some ⟨b, 0, none⟩) n cap) ∧ w'.cell? ⟨b, j * 21, none⟩ = some (.int .i64 x.k.kind) ∧ w'.cell? ⟨b, j * 21 + 1, none⟩ = some (.int .i64 x.k.a) ∧ w'.cell? ⟨b, j * 21 + 2, none⟩ = some (.int .i64 x.k.b) ∧ w'.cell? ⟨b, j * 21 + 3, none⟩ = some (.string x.k.s) ∧ w'.cell? ⟨kb, 0, none⟩ = some (.int .i64 k.kind) ∧ w'.cell? ⟨kb, 1, none⟩ = some (.int .i64 k.a) ∧ w'.cell? ⟨kb, 2, none⟩ = some (.int .i64 k.b) ∧ w'.cell? ⟨kb, 3, none⟩ = some (.string k.s))) (by kernel_rfl) (KS.out _ (below_drewN HI.out.b 1)) (fun hHeld => ?_)
          obtain ⟨X, hGen⟩ : ∃ u, u = World.drew wr := ⟨_, rfl⟩
          rw [← hGen] at hHeld ⊢
          clear hGen
          refine wpAnyH_take (i := 0) (oi := ⟨some 21, _, _, _, _, _⟩) (v := ?vvph1) rfl (by kernel_rfl) (by kernel_rfl) (by kernel_rfl) (fun _ _ _ h => h) (Or.inl ⟨by rfl, ?yyph1⟩) hHeld ?rrph1
          case yyph1 => (intro wq hSw; (try dsimp only at hSw); go_simp; first | done | with_reducible rfl)
          simp only [Act.put, List.setIfInBounds_toArray, List.set_cons_zero, List.set_cons_succ]
          refine wpAnyH_take (i := 1) (oi := ⟨some 22, _, _, _, _, _⟩) (v := ?vvph2) rfl (by kernel_rfl) (by kernel_rfl) (by kernel_rfl) (fun _ _ _ h => h) (Or.inl ⟨by rfl, ?yyph2⟩) hHeld ?rrph2
          case yyph2 => (intro wq hSw; (try dsimp only at hSw); go_simp; first | done | with_reducible rfl)
          simp only [Act.put, List.setIfInBounds_toArray, List.set_cons_zero, List.set_cons_succ]
          refine wpAnyH_take (i := 2) (oi := ⟨some 23, _, _, _, _, _⟩) (v := ?vvph3) rfl (by kernel_rfl) (by kernel_rfl) (by kernel_rfl) (fun _ _ _ h => h) (Or.inl ⟨by rfl, ?yyph3⟩) hHeld ?rrph3
          case yyph3 => (intro wq hSw; (try dsimp only at hSw); go_simp; first | done | with_reducible rfl)
          simp only [Act.put, List.setIfInBounds_toArray, List.set_cons_zero, List.set_cons_succ]
          refine wpAnyH_take (i := 3) (oi := ⟨some 24, _, _, _, _, _⟩) (v := ?vvph4) rfl (by kernel_rfl) (by kernel_rfl) (by kernel_rfl) (fun _ _ _ h => h) (Or.inl ⟨by rfl, ?yyph4⟩) hHeld ?rrph4
          case yyph4 => (intro wq hSw; (try dsimp only at hSw); go_simp; first | done | with_reducible rfl)
          simp only [Act.put, List.setIfInBounds_toArray, List.set_cons_zero, List.set_cons_succ]
          refine wpAnyH_take (i := 4) (oi := ⟨some 25, _, _, _, _, _⟩) (v := ?vvph5) rfl (by kernel_rfl) (by kernel_rfl) (by kernel_rfl) (fun _ _ _ h => h) (Or.inl ⟨by rfl, ?yyph5⟩) hHeld ?rrph5
          case yyph5 => (intro wq hSw; (try dsimp only at hSw); go_simp; first | done | with_reducible rfl)
          simp only [Act.put, List.setIfInBounds_toArray, List.set_cons_zero, List.set_cons_succ]
          refine wpAnyH_take (i := 5) (oi := ⟨some 26, _, _, _, _, _⟩) (v := ?vvph6) rfl (by kernel_rfl) (by kernel_rfl) (by kernel_rfl) (fun _ _ _ h => h) (Or.inl ⟨by rfl, ?yyph6⟩) hHeld ?rrph6
          case yyph6 => (intro wq hSw; (try dsimp only at hSw); go_simp; first | done | with_reducible rfl)
          simp only [Act.put, List.setIfInBounds_toArray, List.set_cons_zero, List.set_cons_succ]
          refine wpAnyH_take (i := 6) (oi := ⟨some 27, _, _, _, _, _⟩) (v := ?vvph7) rfl (by kernel_rfl) (by kernel_rfl) (by kernel_rfl) (fun _ _ _ h => h) (Or.inl ⟨by rfl, ?yyph7⟩) hHeld ?rrph7
          case yyph7 => (intro wq hSw; (try dsimp only at hSw); go_simp; first | done | with_reducible rfl)
          simp only [Act.put, List.setIfInBounds_toArray, List.set_cons_zero, List.set_cons_succ]
          refine wpAnyH_take (i := 7) (oi := ⟨some 28, _, _, _, _, _⟩) (v := ?vvph8) rfl (by kernel_rfl) (by kernel_rfl) (by kernel_rfl) (fun _ _ _ h => h) (Or.inl ⟨by rfl, ?yyph8⟩) hHeld ?rrph8
          case yyph8 => (intro wq hSw; (try dsimp only at hSw); go_simp; first | done | with_reducible rfl)
          simp only [Act.put, List.setIfInBounds_toArray, List.set_cons_zero, List.set_cons_succ]
          refine wpAnyH_take (i := 8) (oi := ⟨some 29, _, _, _, _, _⟩) (v := ?vvph9) rfl (by kernel_rfl) (by kernel_rfl) (by kernel_rfl) (fun _ _ _ h => h) (Or.inl ⟨by rfl, ?yyph9⟩) hHeld ?rrph9
          case yyph9 => (intro wq hSw; (try dsimp only at hSw); go_simp; first | done | with_reducible rfl)
          simp only [Act.put, List.setIfInBounds_toArray, List.set_cons_zero, List.set_cons_succ]
          refine wpAnyH_take (i := 9) (oi := ⟨some 30, _, _, _, _, _⟩) (v := ?vvph10) rfl (by kernel_rfl) (by kernel_rfl) (by kernel_rfl) (fun _ _ _ h => h) (Or.inl ⟨by rfl, ?yyph10⟩) hHeld ?rrph10
          case yyph10 => (intro wq hSw; (try dsimp only at hSw); go_simp; first | done | with_reducible rfl)
          simp only [Act.put, List.setIfInBounds_toArray, List.set_cons_zero, List.set_cons_succ]
          refine wpAnyH_take (i := 10) (oi := ⟨some 31, _, _, _, _, _⟩) (v := ?vvph11) rfl (by kernel_rfl) (by kernel_rfl) (by kernel_rfl) (fun _ _ _ h => h) (Or.inl ⟨by rfl, ?yyph11⟩) hHeld ?rrph11
          case yyph11 => (intro wq hSw; (try dsimp only at hSw); go_simp; first | done | with_reducible rfl)
          simp only [Act.put, List.setIfInBounds_toArray, List.set_cons_zero, List.set_cons_succ]
          refine wpAnyH_take (i := 11) (oi := ⟨some 32, _, _, _, _, _⟩) (v := ?vvph12) rfl (by kernel_rfl) (by kernel_rfl) (by kernel_rfl) (fun _ _ _ h => h) (Or.inl ⟨by rfl, ?yyph12⟩) hHeld ?rrph12
          case yyph12 => (intro wq hSw; (try dsimp only at hSw); go_simp; first | done | with_reducible rfl)
          simp only [Act.put, List.setIfInBounds_toArray, List.set_cons_zero, List.set_cons_succ]
          refine wpAnyH_take (i := 12) (oi := ⟨some 33, _, _, _, _, _⟩) (v := ?vvph13) rfl (by kernel_rfl) (by kernel_rfl) (by kernel_rfl) (fun _ _ _ h => h) (Or.inl ⟨by rfl, ?yyph13⟩) hHeld ?rrph13
          case yyph13 => (intro wq hSw; (try dsimp only at hSw); go_simp; first | done | with_reducible rfl)
          simp only [Act.put, List.setIfInBounds_toArray, List.set_cons_zero, List.set_cons_succ]
          refine wpAnyH_take (i := 13) (oi := ⟨some 34, _, _, _, _, _⟩) (v := ?vvph14) rfl (by kernel_rfl) (by kernel_rfl) (by kernel_rfl) (fun _ _ _ h => h) (Or.inl ⟨by rfl, ?yyph14⟩) hHeld ?rrph14
          case yyph14 => (intro wq hSw; (try dsimp only at hSw); go_simp; first | done | with_reducible rfl)
          simp only [Act.put, List.setIfInBounds_toArray, List.set_cons_zero, List.set_cons_succ]
          refine wpAnyH_take (i := 14) (oi := ⟨some 35, _, _, _, _, _⟩) (v := ?vvph15) rfl (by kernel_rfl) (by kernel_rfl) (by kernel_rfl) (fun _ _ _ h => h) (Or.inl ⟨by rfl, ?yyph15⟩) hHeld ?rrph15
          case yyph15 => (intro wq hSw; (try dsimp only at hSw); go_simp; first | done | with_reducible rfl)
          simp only [Act.put, List.setIfInBounds_toArray, List.set_cons_zero, List.set_cons_succ]
          refine wpAnyH_take (i := 15) (oi := ⟨some 36, _, _, _, _, _⟩) (v := ?vvph16) rfl (by kernel_rfl) (by kernel_rfl) (by kernel_rfl) (fun _ _ _ h => h) (Or.inl ⟨by rfl, ?yyph16⟩) hHeld ?rrph16
          case yyph16 => (intro wq hSw; (try dsimp only at hSw); go_simp; first | done | with_reducible rfl)
          simp only [Act.put, List.setIfInBounds_toArray, List.set_cons_zero, List.set_cons_succ]
          refine wpAnyH_take (i := 16) (oi := ⟨some 37, _, _, _, _, _⟩) (v := ?vvph17) rfl (by kernel_rfl) (by kernel_rfl) (by kernel_rfl) (fun _ _ _ h => h) (Or.inl ⟨by rfl, ?yyph17⟩) hHeld ?rrph17
          case yyph17 => (intro wq hSw; (try dsimp only at hSw); go_simp; first | done | with_reducible rfl)
          simp only [Act.put, List.setIfInBounds_toArray, List.set_cons_zero, List.set_cons_succ]
          refine wpAnyH_ready (rs := [17]) (by kernel_rfl) (by simp) ?_
          refine AllReadyH.cons (o := ⟨some 38, _, _, _, _, _⟩) rfl (fun K hK => ?_) AllReadyH.nil
          go_simp
          have hB0 := hHeld.1
          try dsimp only at hB0
          refine (r9order_any x.k k _ HXS.out).mono ?_
          rintro e n38 ⟨rfl, hb38⟩
          rw [HCC.out]
          have hbn := below_then hB0 hb38
          clear hb38
          go_wp2_with fail
          refine hK.out _ _ ?ssph18 (fun hHeld => ?_)
          case ssph18 => (exact KS.out _ hbn)
          clear hK K
          try simp only [Act.put, List.setIfInBounds_toArray, List.set_cons_zero, List.set_cons_succ]
          refine wpAnyH_take (i := 18) (oi := ⟨some 39, _, _, _, _, _⟩) (v := ?vvph19) rfl (by kernel_rfl) (by kernel_rfl) (by kernel_rfl) (fun _ _ _ h => h) (Or.inl ⟨by rfl, ?yyph19⟩) hHeld ?rrph19
          case yyph19 => (intro wq hSw; (try dsimp only at hSw); go_simp; first | done | with_reducible rfl)
          simp only [Act.put, List.setIfInBounds_toArray, List.set_cons_zero, List.set_cons_succ]
          refine wpAnyH_take (i := 19) (oi := ⟨some 40, _, _, _, _, _⟩) (v := ?vvph20) rfl (by kernel_rfl) (by kernel_rfl) (by kernel_rfl) (fun _ _ _ h => h) (Or.inl ⟨by rfl, ?yyph20⟩) hHeld ?rrph20
          case yyph20 => (intro wq hSw; (try dsimp only at hSw); go_simp; first | done | with_reducible rfl)
          simp only [Act.put, List.setIfInBounds_toArray, List.set_cons_zero, List.set_cons_succ]
          refine wpAnyH_done (by kernel_rfl) ?_ _
          clear hHeld c0 c1 c2 c3 c4 c5 c6 c7 c8
          by_cases hc : cc < 0
          · have t3 : decide (cc < 0) = true := decide_eq_true hc
            rw [t3]
            have HCL := Lib.hid hc
            clear hc
            go_wp2_with fail
            refine ⟨⟨j + 1, by omega, by go_num, Lib.hid ⟨hbn, fun i z hi hz => ?_⟩⟩, by simp [intOf]; omega⟩
            rcases Nat.lt_succ_iff_lt_or_eq.1 hi with h | rfl
            · exact HI.out.lt i z h hz
            · rw [HX.out] at hz
              injection hz with hz
              subst hz
              rw [HCC.out]; exact HCL.out
          · have t3 : decide (cc < 0) = false := decide_eq_false hc
            rw [t3]
            have HGE : Hid (∀ z, L[j]? = some z → 0 ≤ z.k.cmp k) := Lib.hid (fun z hz => by rw [HX.out] at hz; injection hz with hz; subst hz; rw [HCC.out]; omega)
            clear hc
            go_upto_region 9 with fail
            clear t3
            have HBU := Lib.hid hbn
            clear hbn
            obtain ⟨a1, ha1⟩ : ∃ a1, kX.pfx (some ⟨b, 0, none⟩ : Option Addr) cap = a1 := ⟨_, rfl⟩
            obtain ⟨a3, ha3⟩ : ∃ a3, kX.sfx (some ⟨b, 0, none⟩ : Option Addr) cap j = a3 := ⟨_, rfl⟩
            obtain ⟨n3, hn3⟩ : ∃ n3, n - j = n3 := ⟨_, rfl⟩
            obtain ⟨c3, hc3⟩ : ∃ c3, cap - j = c3 := ⟨_, rfl⟩
            have HCP : Hid (n ≤ cap) := Lib.hid (by have := (HC.out _ (Below.refl _ _)).2.2.2.cap; rw [HN.out]; exact this)
            have HV1 : Hid (∀ u, Below W.heap.size W u → kX.V u a1 (L.take j)) := Lib.hid (fun u hu => by rw [← ha1]; exact ((HC.out u hu).2.2.2.toV).take j cap)
            have HV3 : Hid (∀ u, Below W.heap.size W u → kX.V u a3 (L.drop j)) := Lib.hid (fun u hu => by rw [← ha3]; exact ((HC.out u hu).2.2.2.toV).drop (by rw [← HN.out]; exact HCP.out))
            have HNN1 : Hid (a1 = none → cap = 0) := Lib.hid (fun e => RowK.pfx_none (k := kX) (a := (some ⟨b, 0, none⟩ : Option Addr)) (fun (ea : (some ⟨b, 0, none⟩ : Option Addr) = none) => by first | (cases ea; done) | (have := (HC.out _ (Below.refl _ _)).2.2.2; rw [ea] at this; exact this.noneCap)) (ha1.trans e))
            have HNN3 : Hid (a3 = none → c3 = 0) := Lib.hid (fun e => by rw [← hc3]; exact RowK.sfx_none (k := kX) (a := (some ⟨b, 0, none⟩ : Option Addr)) (fun (ea : (some ⟨b, 0, none⟩ : Option Addr) = none) => by first | (cases ea; done) | (have := (HC.out _ (Below.refl _ _)).2.2.2; rw [ea] at this; exact this.noneCap)) (ha3.trans e))
            have HL1 : Hid ((L.take j).length = j) := Lib.hid (by rw [List.length_take]; have := HN.out; omega)
            have HL3 : Hid ((L.drop j).length = n3) := Lib.hid (by rw [List.length_drop, ← HN.out]; exact hn3)
            have HA1 := Lib.hid ha1
            have HA3 := Lib.hid ha3
            have HN3 := Lib.hid hn3
            have HC3 := Lib.hid hc3
            have hjc : j ≤ cap := Nat.le_trans hj HCP.out
            clear ha1 ha3 hn3 hc3
            obtain ⟨q0, q1, q2, _⟩ := HC.out _ HBU.out
            have l0 := cell_of_blk q0 0
            simp at l0
            clear q0 q1 q2
            go_upto_region 10 with (first | (refine RowK.wpList_pfx (k := kX) (o := ⟨some 49, _, _, _, _, _⟩) rfl (.tmp 47) (.tmp 48) rfl _ n cap j rfl rfl hjc HA1.out ?_) | (at_builtin; refine RowK.wpList_app (k := kX) (B := W.heap.size) (v := .slice none 0 0) (l := []) rfl (.tmp 43) (.tmp 49) rfl rfl (RowK.Own.nil kX _ _) a1 j (L.take j) cap rfl HL1.out (HV1.out _ HBU.out) HNN1.out (by rw [HL1.out]; simp; omega) HBU.out.size ?_; rintro v1 u1 g1; have G1 := Lib.hid g1; clear g1))
            clear l0
            obtain ⟨av1, cv1, hv1⟩ := G1.out.1.shape
            rw [List.nil_append, HL1.out] at hv1
            subst hv1
            have HB1 := Lib.hid (below_then HBU.out (below_nilX G1.out.2.1))
            have HO1 : Hid (kX.Own u1 W.heap.size (.slice av1 j cv1) (L.take j)) := Lib.hid G1.out.1
            clear G1
            obtain ⟨q0, q1, q2, _⟩ := HC.out _ HB1.out
            have k0 := cell_of_blk q1 0
            have k1 := cell_of_blk q1 1
            have k2 := cell_of_blk q1 2
            have k3 := cell_of_blk q1 3
            have s0 := cell_of_blk q2 0
            have s1 := cell_of_blk q2 1
            have s2 := cell_of_blk q2 2
            simp at k0 k1 k2 k3 s0 s1 s2
            obtain ⟨V2, hV2⟩ : ∃ V2, V2 = u1.alloc (.cells (Rx.of k v).cells.toArray 133) := ⟨_, rfl⟩
            have eV2 : V2.heap[u1.heap.size]? = some (.cells (Rx.of k v).cells.toArray 133) := by rw [hV2]; exact heap_new u1 _
            have b2 : Below u1.heap.size u1 V2 := by rw [hV2]; exact below_box u1 _
            have HXV : Hid (kX.V V2 (some ⟨u1.heap.size, 0, none⟩) [Rx.of k v]) := Lib.hid (fun _ => ⟨_, 0, rfl, RowK.new_at (k := kX) eV2 (by simp [RowK.cells, kX])⟩)
            obtain ⟨by2, hby2⟩ : ∃ by2, by2 = u1.heap.size := ⟨_, rfl⟩
            rw [← hby2] at HXV
            have HV2 := Lib.hid hV2
            have HBY := Lib.hid hby2
            have HO2 := Lib.hid (HO1.out.below b2)
            have HB2 := Lib.hid (below_then HB1.out b2)
            have HVE : Hid (u1.alloc (.cells #[.int .i64 k.kind, .int .i64 k.a, .int .i64 k.b, .string k.s, .int .u64 v.word, .string v.val, .bool v.has, .bool false, .bool false, .int .i64 0, .int .i64 0, .int .i64 0, .string ⟨#[]⟩, .string ⟨#[]⟩, .bool false, .int .i64 0, .int .i64 0, .int .i64 0, .string ⟨#[]⟩, .string ⟨#[]⟩, .bool false] 133) = V2) := Lib.hid hV2.symm
            clear hV2 eV2 hby2 q0 q1 q2 b2
            go_upto_region 11 with ((at_builtin; rw [HVE.out, ← HBY.out]; refine RowK.wpList_app (k := kX) (B := W.heap.size) (v := .slice av1 j cv1) (l := L.take j) rfl (.tmp 51) (.tmp 55) rfl rfl HO2.out (some ⟨by2, 0, none⟩) 1 [Rx.of k v] 1 rfl rfl HXV.out (fun e => by cases e) (by rw [HL1.out]; simp; omega) HB2.out.size ?_; rintro v2 u2 g2; have G2 := Lib.hid g2; clear g2))
            clear k0 k1 k2 k3 s0 s1 s2
            have HB3 : Hid (Below W.heap.size W u2) := Lib.hid (HB2.out.trans (below_grownX HO2.out G2.out.2.1 HB2.out.size))
            obtain ⟨av2, cv2, hv2⟩ := G2.out.1.shape
            subst hv2
            obtain ⟨n2, hn2⟩ : ∃ n2, n2 = (L.take j ++ [Rx.of k v]).length := ⟨_, rfl⟩
            rw [← hn2]
            have HO3 : Hid (kX.Own u2 W.heap.size (.slice av2 n2 cv2) (L.take j ++ [Rx.of k v])) := Lib.hid (by rw [hn2]; exact G2.out.1)
            have HN2 := Lib.hid hn2
            clear hn2 G2
            obtain ⟨q0, _, _, _⟩ := HC.out _ HB3.out
            have l0 := cell_of_blk q0 0
            simp at l0
            clear q0
            go_upto_region 12 with (first | (refine RowK.wpList_sfx (k := kX) (o := ⟨some 64, _, _, _, _, _⟩) rfl (.tmp 62) (.tmp 63) rfl _ n cap j rfl rfl hj HA3.out HN3.out HC3.out ?_) | (at_builtin; refine RowK.wpList_app (k := kX) (B := W.heap.size) (v := .slice av2 n2 cv2) (l := L.take j ++ [Rx.of k v]) rfl (.tmp 58) (.tmp 64) rfl rfl HO3.out a3 n3 (L.drop j) c3 rfl HL3.out (HV3.out _ HB3.out) HNN3.out (by have := HL1.out; have := HL3.out; have := HN3.out; simp only [List.length_append, List.length_cons, List.length_nil]; omega) HB3.out.size ?_; rintro v3 u3 g3; obtain ⟨av3, cv3, hv3⟩ := g3.1.shape; obtain ⟨n9, hn9⟩ : ∃ n9, n9 = (L.take j ++ [Rx.of k v] ++ L.drop j).length := ⟨_, rfl⟩; rw [← hn9] at hv3; subst hv3; have HN9 := Lib.hid hn9; have G3 := Lib.hid g3; clear g3 hn9; have HB4 : Hid (Below W.heap.size W u3) := Lib.hid (HB3.out.trans (below_grownX HO3.out G3.out.2.1 HB3.out.size)); have y0 := cell_of_blk (HC.out _ HB4.out).1 0; have f0 := frozen_of_blk (HC.out _ HB4.out).1 0; simp at y0))
            clear l0 y0 f0
            go_wp2_with fail
            go_ret
            unfold See13
            rw [if_neg HBD.out]
            refine .inr ⟨HNO.out, rfl, j, ⟨by rw [← HN.out]; exact hj, HI.out.lt, HGE.out⟩, ⟨?_, ?_⟩, ?_⟩
            · have hO := G3.out.1
              have hl9 : (insX L j (Rx.of k v)).length = n9 := HN9.out.symm
              refine ⟨av3, cv3, ?_, ?_, ?_⟩
              · rw [blk_setCell (HC.out _ HB4.out).1, hl9]; rfl
              · rw [hl9]
                refine RowK.Own.mono ?_ (Nat.le_trans HBW.out HB.out.size)
                refine ownsRow_of_block hO (fun i hi => Below.heap_setCell _ _ _ _ (fun e => ?_))
                have h9 := (hO.lt i hi).1
                have h8 := HRB.out
                have h7 := HB.out.size
                subst e
                omega
              · rw [hl9]
                intro e
                have h9 := (hO.lt rb e).1
                have h8 := HRB.out
                have h7 := HB.out.size
                omega
            · rw [insX]
              have := HN.out
              simp only [List.length_append, List.length_take, List.length_drop, List.length_cons, List.length_nil]
              omega
            · exact ((Chg.of_below HB.out _).trans (Chg.of_below HB4.out (fun j => j = rb)) (fun _ _ h => h)).setCell (p := ⟨rb, 0, none⟩) (fun _ => rfl) _
        · obtain rfl : j = n := by omega
          have HGE : Hid (∀ z, L[j]? = some z → 0 ≤ z.k.cmp k) := Lib.hid (fun z hz => by have := (List.getElem?_eq_some_iff.1 hz).1; have := HN.out; omega)
          obtain ⟨p0, _, _, _⟩ := HC.out _ HI.out.b
          have c0 := cell_of_blk p0 0
          simp at c0
          clear p0
          go_wp2_with fail
          go_quiet (fail)
          go_upto_region 9 with fail
          clear c0
          have HBU : Hid (Below W.heap.size W (wr.drewN nq)) := Lib.hid (below_drewN HI.out.b _)
          obtain ⟨a1, ha1⟩ : ∃ a1, kX.pfx (a : Option Addr) cap = a1 := ⟨_, rfl⟩
          obtain ⟨a3, ha3⟩ : ∃ a3, kX.sfx (a : Option Addr) cap j = a3 := ⟨_, rfl⟩
          obtain ⟨n3, hn3⟩ : ∃ n3, j - j = n3 := ⟨_, rfl⟩
          obtain ⟨c3, hc3⟩ : ∃ c3, cap - j = c3 := ⟨_, rfl⟩
          have HCP : Hid (j ≤ cap) := Lib.hid (by have := (HC.out _ (Below.refl _ _)).2.2.2.cap; rw [HN.out]; exact this)
          have HV1 : Hid (∀ u, Below W.heap.size W u → kX.V u a1 (L.take j)) := Lib.hid (fun u hu => by rw [← ha1]; exact ((HC.out u hu).2.2.2.toV).take j cap)
          have HV3 : Hid (∀ u, Below W.heap.size W u → kX.V u a3 (L.drop j)) := Lib.hid (fun u hu => by rw [← ha3]; exact ((HC.out u hu).2.2.2.toV).drop (by rw [← HN.out]; exact HCP.out))
          have HNN1 : Hid (a1 = none → cap = 0) := Lib.hid (fun e => RowK.pfx_none (k := kX) (a := (a : Option Addr)) (fun (ea : (a : Option Addr) = none) => by first | (cases ea; done) | (have := (HC.out _ (Below.refl _ _)).2.2.2; rw [ea] at this; exact this.noneCap)) (ha1.trans e))
          have HNN3 : Hid (a3 = none → c3 = 0) := Lib.hid (fun e => by rw [← hc3]; exact RowK.sfx_none (k := kX) (a := (a : Option Addr)) (fun (ea : (a : Option Addr) = none) => by first | (cases ea; done) | (have := (HC.out _ (Below.refl _ _)).2.2.2; rw [ea] at this; exact this.noneCap)) (ha3.trans e))
          have HL1 : Hid ((L.take j).length = j) := Lib.hid (by rw [List.length_take]; have := HN.out; omega)
          have HL3 : Hid ((L.drop j).length = n3) := Lib.hid (by rw [List.length_drop, ← HN.out]; exact hn3)
          have HA1 := Lib.hid ha1
          have HA3 := Lib.hid ha3
          have HN3 := Lib.hid hn3
          have HC3 := Lib.hid hc3
          have hjc : j ≤ cap := Nat.le_trans hj HCP.out
          clear ha1 ha3 hn3 hc3
          obtain ⟨q0, q1, q2, _⟩ := HC.out _ HBU.out
          have l0 := cell_of_blk q0 0
          simp at l0
          clear q0 q1 q2
          go_upto_region 10 with (first | (refine RowK.wpList_pfx (k := kX) (o := ⟨some 49, _, _, _, _, _⟩) rfl (.tmp 47) (.tmp 48) rfl _ j cap j rfl rfl hjc HA1.out ?_) | (at_builtin; refine RowK.wpList_app (k := kX) (B := W.heap.size) (v := .slice none 0 0) (l := []) rfl (.tmp 43) (.tmp 49) rfl rfl (RowK.Own.nil kX _ _) a1 j (L.take j) cap rfl HL1.out (HV1.out _ HBU.out) HNN1.out (by rw [HL1.out]; simp; omega) HBU.out.size ?_; rintro v1 u1 g1; have G1 := Lib.hid g1; clear g1))
          clear l0
          obtain ⟨av1, cv1, hv1⟩ := G1.out.1.shape
          rw [List.nil_append, HL1.out] at hv1
          subst hv1
          have HB1 := Lib.hid (below_then HBU.out (below_nilX G1.out.2.1))
          have HO1 : Hid (kX.Own u1 W.heap.size (.slice av1 j cv1) (L.take j)) := Lib.hid G1.out.1
          clear G1
          obtain ⟨q0, q1, q2, _⟩ := HC.out _ HB1.out
          have k0 := cell_of_blk q1 0
          have k1 := cell_of_blk q1 1
          have k2 := cell_of_blk q1 2
          have k3 := cell_of_blk q1 3
          have s0 := cell_of_blk q2 0
          have s1 := cell_of_blk q2 1
          have s2 := cell_of_blk q2 2
          simp at k0 k1 k2 k3 s0 s1 s2
          obtain ⟨V2, hV2⟩ : ∃ V2, V2 = u1.alloc (.cells (Rx.of k v).cells.toArray 133) := ⟨_, rfl⟩
          have eV2 : V2.heap[u1.heap.size]? = some (.cells (Rx.of k v).cells.toArray 133) := by rw [hV2]; exact heap_new u1 _
          have b2 : Below u1.heap.size u1 V2 := by rw [hV2]; exact below_box u1 _
          have HXV : Hid (kX.V V2 (some ⟨u1.heap.size, 0, none⟩) [Rx.of k v]) := Lib.hid (fun _ => ⟨_, 0, rfl, RowK.new_at (k := kX) eV2 (by simp [RowK.cells, kX])⟩)
          obtain ⟨by2, hby2⟩ : ∃ by2, by2 = u1.heap.size := ⟨_, rfl⟩
          rw [← hby2] at HXV
          have HV2 := Lib.hid hV2
          have HBY := Lib.hid hby2
          have HO2 := Lib.hid (HO1.out.below b2)
          have HB2 := Lib.hid (below_then HB1.out b2)
          have HVE : Hid (u1.alloc (.cells #[.int .i64 k.kind, .int .i64 k.a, .int .i64 k.b, .string k.s, .int .u64 v.word, .string v.val, .bool v.has, .bool false, .bool false, .int .i64 0, .int .i64 0, .int .i64 0, .string ⟨#[]⟩, .string ⟨#[]⟩, .bool false, .int .i64 0, .int .i64 0, .int .i64 0, .string ⟨#[]⟩, .string ⟨#[]⟩, .bool false] 133) = V2) := Lib.hid hV2.symm
          clear hV2 eV2 hby2 q0 q1 q2 b2
          go_upto_region 11 with ((at_builtin; rw [HVE.out, ← HBY.out]; refine RowK.wpList_app (k := kX) (B := W.heap.size) (v := .slice av1 j cv1) (l := L.take j) rfl (.tmp 51) (.tmp 55) rfl rfl HO2.out (some ⟨by2, 0, none⟩) 1 [Rx.of k v] 1 rfl rfl HXV.out (fun e => by cases e) (by rw [HL1.out]; simp; omega) HB2.out.size ?_; rintro v2 u2 g2; have G2 := Lib.hid g2; clear g2))
          clear k0 k1 k2 k3 s0 s1 s2
          have HB3 : Hid (Below W.heap.size W u2) := Lib.hid (HB2.out.trans (below_grownX HO2.out G2.out.2.1 HB2.out.size))
          obtain ⟨av2, cv2, hv2⟩ := G2.out.1.shape
          subst hv2
          obtain ⟨n2, hn2⟩ : ∃ n2, n2 = (L.take j ++ [Rx.of k v]).length := ⟨_, rfl⟩
          rw [← hn2]
          have HO3 : Hid (kX.Own u2 W.heap.size (.slice av2 n2 cv2) (L.take j ++ [Rx.of k v])) := Lib.hid (by rw [hn2]; exact G2.out.1)
          have HN2 := Lib.hid hn2
          clear hn2 G2
          obtain ⟨q0, _, _, _⟩ := HC.out _ HB3.out
          have l0 := cell_of_blk q0 0
          simp at l0
          clear q0
          go_upto_region 12 with (first | (refine RowK.wpList_sfx (k := kX) (o := ⟨some 64, _, _, _, _, _⟩) rfl (.tmp 62) (.tmp 63) rfl _ j cap j rfl rfl hj HA3.out HN3.out HC3.out ?_) | (at_builtin; refine RowK.wpList_app (k := kX) (B := W.heap.size) (v := .slice av2 n2 cv2) (l := L.take j ++ [Rx.of k v]) rfl (.tmp 58) (.tmp 64) rfl rfl HO3.out a3 n3 (L.drop j) c3 rfl HL3.out (HV3.out _ HB3.out) HNN3.out (by have := HL1.out; have := HL3.out; have := HN3.out; simp only [List.length_append, List.length_cons, List.length_nil]; omega) HB3.out.size ?_; rintro v3 u3 g3; obtain ⟨av3, cv3, hv3⟩ := g3.1.shape; obtain ⟨n9, hn9⟩ : ∃ n9, n9 = (L.take j ++ [Rx.of k v] ++ L.drop j).length := ⟨_, rfl⟩; rw [← hn9] at hv3; subst hv3; have HN9 := Lib.hid hn9; have G3 := Lib.hid g3; clear g3 hn9; have HB4 : Hid (Below W.heap.size W u3) := Lib.hid (HB3.out.trans (below_grownX HO3.out G3.out.2.1 HB3.out.size)); have y0 := cell_of_blk (HC.out _ HB4.out).1 0; have f0 := frozen_of_blk (HC.out _ HB4.out).1 0; simp at y0))
          clear l0 y0 f0
          go_wp2_with fail
          go_ret
          unfold See13
          rw [if_neg HBD.out]
          refine .inr ⟨HNO.out, rfl, j, ⟨by rw [← HN.out]; exact hj, HI.out.lt, HGE.out⟩, ⟨?_, ?_⟩, ?_⟩
          · have hO := G3.out.1
            have hl9 : (insX L j (Rx.of k v)).length = n9 := HN9.out.symm
            refine ⟨av3, cv3, ?_, ?_, ?_⟩
            · rw [blk_setCell (HC.out _ HB4.out).1, hl9]; rfl
            · rw [hl9]
              refine RowK.Own.mono ?_ (Nat.le_trans HBW.out HB.out.size)
              refine ownsRow_of_block hO (fun i hi => Below.heap_setCell _ _ _ _ (fun e => ?_))
              have h9 := (hO.lt i hi).1
              have h8 := HRB.out
              have h7 := HB.out.size
              subst e
              omega
            · rw [hl9]
              intro e
              have h9 := (hO.lt rb e).1
              have h8 := HRB.out
              have h7 := HB.out.size
              omega
          · rw [insX]
            have := HN.out
            simp only [List.length_append, List.length_take, List.length_drop, List.length_cons, List.length_nil]
            omega
          · exact ((Chg.of_below HB.out _).trans (Chg.of_below HB4.out (fun j => j = rb)) (fun _ _ h => h)).setCell (p := ⟨rb, 0, none⟩) (fun _ => rfl) _
    · have HFX := Lib.hid (And.intro hfx hfk)
      clear hfx hfk
      have t5 : decide ((0 : Int) ≤ (fj : Int)) = true := decide_eq_true (by omega)
      go_wp2_with fail
      go_ret
      unfold See13
      rw [if_neg HBD.out]
      exact .inl ⟨⟨fx, List.mem_of_getElem? HFX.out.1, HFX.out.2⟩, rfl, HB.out.trans (HB1w.out.mono HB.out.size)⟩
end Go.Proofs.YtkhkdedjffkhdaaGreat
namespace Go.Proofs.YtkhkdedjffkhdaaGreat
open Go.RowKit Go.Maps

/-- a block of rows -/
def RX (w : World) (j : Nat) : Prop := ∃ c z, w.heap[j]? = some (.cells c 133 z)
theorem setXs_append (t : Tx) : ∀ (a b : List Ky) (L : List Rx), setXs t (a ++ b) L = setXs t b (setXs t a L)
  | [], _, _ => rfl
  | k :: a, b, L => setXs_append t a b (L.map (setX k t))
theorem setXs_keys (t : Tx) : ∀ (ks : List Ky) (L : List Rx), (setXs t ks L).map Rx.k = L.map Rx.k
  | [], _ => rfl
  | k :: ks, L => by
    show (setXs t ks (L.map (setX k t))).map Rx.k = _
    rw [setXs_keys t ks, List.map_map]
    exact List.map_congr_left (fun x _ => setX_k k t x)
theorem mem_keys {L : List Rx} {k : Ky} : (∃ x ∈ L, x.k = k) ↔ k ∈ L.map Rx.k := by
  rw [List.mem_map]
/-- one row set -/
theorem map_setX {L : List Rx} {k : Ky} (t : Tx) (hs : KySorted (L.map Rx.k)) {j : Nat} {x : Rx} (hx : L[j]? = some x) (hk : x.k = k) : L.map (setX k t) = L.set j { x with wrote := true, w := ⟨k, t.val, t.has⟩ } := by
  apply List.ext_getElem?
  intro i
  obtain ⟨hj, hje⟩ := List.getElem?_eq_some_iff.1 hx
  rw [List.getElem?_map, List.getElem?_set]
  by_cases e : j = i
  · subst e
    rw [if_pos rfl, if_pos hj, hx]
    show some (setX k t x) = _
    unfold setX
    rw [if_pos hk]
  · rw [if_neg e]
    cases hi : L[i]? with
    | none => rfl
    | some y =>
      show some (setX k t y) = some y
      unfold setX
      rw [if_neg]
      intro hy
      obtain ⟨hil, hie⟩ := List.getElem?_eq_some_iff.1 hi
      have h3 : (L.map Rx.k).Pairwise (fun a b => a.cmp b < 0) := hs
      rw [List.pairwise_map] at h3
      have hz : y.k.cmp x.k = 0 := (Ky.cmp_zero _ _).2 (by rw [hy, hk])
      have hz2 : x.k.cmp y.k = 0 := (Ky.cmp_zero _ _).2 (by rw [hy, hk])
      rcases Nat.lt_or_gt_of_ne e with hlt | hlt
      · have := List.pairwise_iff_getElem.1 h3 j i hj hil hlt
        rw [hje, hie] at this
        omega
      · have := List.pairwise_iff_getElem.1 h3 i j hil hj hlt
        rw [hje, hie] at this
        omega
theorem take_snocK {ks : List Ky} {i : Nat} {x : Ky} (hx : ks[i]? = some x) : ks.take (i + 1) = ks.take i ++ [x] := by
  obtain ⟨hk', e⟩ := List.getElem?_eq_some_iff.1 hx
  rw [List.take_succ_eq_append_getElem hk', e]
end Go.Proofs.YtkhkdedjffkhdaaGreat
namespace Go.Proofs.YtkhkdedjffkhdaaGreat
open Go.RowKit Go.Maps

def mbX (back : Bool) (x : Rx) : Rx := if back = true then backX x else markX x
/-- in a round of Mark -/
structure MkI (w wr : World) (rb B : Nat) (L M : List Rx) (back : Bool) (i : Nat) : Prop where
  s : SrX wr rb B M
  c : Chg w wr (fun j => B ≤ j ∧ RX w j)
  n : M.length = L.length
  m : ∀ j, M[j]? = if j < i then (L[j]?).map (mbX back) else L[j]?
theorem MkI.end {w wr : World} {rb B : Nat} {L M : List Rx} {back : Bool} (h : MkI w wr rb B L M back L.length) : M = L.map (mbX back) := by
  apply List.ext_getElem?
  intro j
  rw [h.m j, List.getElem?_map]
  by_cases e : j < L.length
  · rw [if_pos e]
  · rw [if_neg e, List.getElem?_eq_none (by omega)]; rfl
end Go.Proofs.YtkhkdedjffkhdaaGreat
namespace Go.Proofs.YtkhkdedjffkhdaaGreat
open Go.RowKit Go.Maps

structure OuI (w wr : World) (L : List Rx) (j : Nat) (v : Value) : Prop where
  b : Below w.heap.size w wr
  o : kW.Own wr w.heap.size v (outX (L.take j))
theorem outX_snoc (L : List Rx) (x : Rx) : outX (L ++ [x]) = outX L ++ outAt x := by simp [outX]
theorem outX_len : ∀ L : List Rx, (outX L).length ≤ L.length
  | [] => Nat.le_refl _
  | x :: L => by
    show (outAt x ++ outX L).length ≤ _
    have h1 : (outAt x).length ≤ 1 := by unfold outAt; split <;> simp
    have := outX_len L
    simp only [List.length_append, List.length_cons]
    omega
def Out13 (w : World) (L : List Rx) (e : Ending) (w' : World) : Prop := ∃ v, e = .returned v ∧ kW.Own w' w.heap.size v (outX L) ∧ Below w.heap.size w w'
set_option maxRecDepth 100000 in
set_option maxHeartbeats 4000000 in
theorem r13Writes_any {w : World} {rb B : Nat} {L : List Rx} (h : SrX w rb B L) :
    Calls Tryz.prog 65 #[.pointer (some ⟨rb, 0, none⟩)] w (Out13 w L) := by
  obtain ⟨a, cap, e1, e2, e3⟩ := h.ex
  obtain ⟨n, hn⟩ : ∃ n, n = L.length := ⟨_, rfl⟩
  have hn6 : n ≤ 1000000 := by rw [hn]; exact h.n
  rw [← hn] at e1 e2
  have HE1 := Lib.hid e1
  have HO := Lib.hid e2
  have HN := Lib.hid hn
  clear h hn e1 e2 e3
  have HI0 : Hid (OuI w w L 0 (.slice none 0 0)) := Lib.hid ⟨Below.refl _ _, RowK.Own.nil kW _ _⟩
  go_enter Tryz.func65, Tryz.ntmps65
  go_wp2_with fail
  go_loopw [3, 4] (fun s3 i wr => ∃ j : Nat, j ≤ n ∧ i = .int .i64 j ∧ Hid (OuI w wr L j s3)) (fun _ i _ => n - (intOf i).toNat)
  case atStart => exact ⟨0, Nat.zero_le _, rfl, HI0⟩
  case round =>
    obtain ⟨j, hj, rfl, HI⟩ := hrel
    have q0 := cell_of_blk ((HI.out.b.block _ (Array.getElem?_eq_some_iff.1 HE1.out).1).trans HE1.out) 0
    simp at q0
    by_cases hlt : j < n
    · have hltz : (j : Int) < (n : Int) := by omega
      have t6 : decide ((j : Int) < 0) = false := decide_eq_false (by omega)
      obtain ⟨x, hx⟩ : ∃ x, L[j]? = some x := ⟨_, List.getElem?_eq_getElem (by have := HN.out; omega)⟩
      obtain ⟨b, cp, hve, _, _, hat⟩ := HO.out.at' (fun e => by rw [e] at hx; simp at hx)
      injection hve with hv1 hv2 hv3
      subst hv1
      have hat2 := hat.below HI.out.b
      have HRG : Hid (wr.rangeAt b (j * 21) x.cells) := Lib.hid (by have := hat2.range hx; rw [Nat.zero_add] at this; exact this)
      have HTK : Hid (outX (L.take (j + 1)) = outX (L.take j) ++ outAt x) := Lib.hid (by
        obtain ⟨hk', e⟩ := List.getElem?_eq_some_iff.1 hx
        rw [List.take_succ_eq_append_getElem hk', e, outX_snoc])
      have HOL : Hid ((outX (L.take j)).length ≤ 1000000) := Lib.hid (by
        have := outX_len (L.take j)
        rw [List.length_take] at *
        omega)
      obtain ⟨oa, oc, hos⟩ := HI.out.o.shape
      subst hos
      obtain ⟨on, hon⟩ : ∃ on, on = (outX (L.take j)).length := ⟨_, rfl⟩
      rw [← hon]
      have HON := Lib.hid hon
      obtain ⟨xb, hxb⟩ : ∃ y, y = wr.heap.size := ⟨_, rfl⟩
      have HXB := Lib.hid hxb
      clear hat hat2 hx hxb hon hv2 hv3
      go_upto_region 6 with (first | (refine wpList_load_mid (op := ⟨some 21, _, _, _, _, _⟩) rfl 133 (.tmp 20) rfl b (j * 21) rfl x.cells _ HRG.out Tryz.underlying133 rfl sizeRx ?_) | (rw [← HXB.out]; refine wpList_store_new (op := ⟨none, _, _, _, _, _⟩) rfl 133 (.tmp 5) (.tmp 21) rfl _ x.cells.toArray xb HXB.out rfl rfl sizeRx2 rfl (oneRx x) ?_))
      clear q0
      obtain ⟨V, hV⟩ : ∃ V, wr.alloc (.cells x.cells.toArray 133) = V := ⟨_, rfl⟩
      have bV : Below wr.heap.size wr V := by rw [← hV]; exact below_box _ _
      have eV : V.heap[xb]? = some (.cells x.cells.toArray 133) := by rw [← hV, HXB.out]; exact heap_new _ _
      have HBV := Lib.hid (below_then HI.out.b bV)
      have HOV := Lib.hid (HI.out.o.below bV)
      rw [hV]
      obtain ⟨xk, xs, xwr, xmk, xw, xm⟩ := x
      obtain ⟨sw, sv, sh⟩ := xs
      obtain ⟨⟨wk, wa, wb, ws⟩, wv, wh⟩ := xw
      have c7 := cell_of_blk eV 7
      have c9 := cell_of_blk eV 9
      have c10 := cell_of_blk eV 10
      have c11 := cell_of_blk eV 11
      have c12 := cell_of_blk eV 12
      have c13 := cell_of_blk eV 13
      have c14 := cell_of_blk eV 14
      have c5 := cell_of_blk eV 5
      have c6 := cell_of_blk eV 6
      simp [Rx.cells] at c7 c9 c10 c11 c12 c13 c14 c5 c6
      obtain ⟨q, hq⟩ : ∃ q, (wv.toList == sv.toList) = q := ⟨_, rfl⟩
      have hq2 : (wv.toList != sv.toList) = !q := by rw [← hq]; rfl
      have HAT : Hid (outAt ⟨xk, ⟨sw, sv, sh⟩, xwr, xmk, ⟨⟨wk, wa, wb, ws⟩, wv, wh⟩, xm⟩ = if (xwr && !(q && sh == wh)) = true then [⟨⟨wk, wa, wb, ws⟩, wv, wh⟩] else []) := Lib.hid (by
        unfold outAt outB txB
        show (if (xwr && !((sv.toList == wv.toList) && (sh == wh))) = true then _ else _) = _
        rw [show (sv.toList == wv.toList) = q by rw [← hq]; exact Bool.eq_iff_iff.2 ⟨fun h => by simp at h ⊢; exact h.symm, fun h => by simp at h ⊢; exact h.symm⟩])
      clear hV bV eV HRG
      cases xwr
      · clear hq hq2 c9 c10 c11 c12 c13 c14 c5 c6
        go_wp2_with fail
        refine ⟨⟨j + 1, by omega, by go_num, Lib.hid ⟨HBV.out, ?_⟩⟩, by simp [intOf]; omega⟩
        have hA := HAT.out
        simp at hA
        rw [HTK.out, hA, List.append_nil, HON.out]
        exact HOV.out
      · cases q
        · simp only [Bool.not_false] at hq2
          cases wh <;> cases sh
          · go_upto_region 7 with fail
            obtain ⟨Z, hZ⟩ : ∃ Z, V.alloc (.cells #[.int .i64 wk, .int .i64 wa, .int .i64 wb, .string ws, .string wv, .bool false] 94) = Z := ⟨_, rfl⟩
            obtain ⟨zb, hzb⟩ : ∃ z, z = V.heap.size := ⟨_, rfl⟩
            have bZ : Below V.heap.size V Z := by rw [← hZ]; exact below_box _ _
            have eZ : Z.heap[zb]? = some (.cells #[.int .i64 wk, .int .i64 wa, .int .i64 wb, .string ws, .string wv, .bool false] 94) := by rw [← hZ, hzb]; exact heap_new _ _
            have HOZ := Lib.hid (HOV.out.below bZ)
            have HBZ := Lib.hid (below_then HBV.out bZ)
            have HVZ : Hid (kW.V Z (some ⟨zb, 0, none⟩) [⟨⟨wk, wa, wb, ws⟩, wv, false⟩]) := Lib.hid (fun _ => ⟨_, 0, rfl, RowK.new_at (k := kW) eZ rfl⟩)
            have HZ := Lib.hid hZ
            have HZB := Lib.hid hzb
            clear bZ eZ hZ hzb
            go_wp2_with (at_builtin; rw [HZ.out, ← HZB.out]; refine RowK.wpList_app (k := kW) (B := w.heap.size) (v := .slice oa on oc) (l := outX (L.take j)) rfl (.tmp 42) (.tmp 45) rfl rfl (by rw [HON.out]; exact HOZ.out) (some ⟨zb, 0, none⟩) 1 [⟨⟨wk, wa, wb, ws⟩, wv, false⟩] 1 rfl rfl HVZ.out (fun e => by cases e) (by have := HOL.out; simp; omega) HBZ.out.size ?_; rintro v9 w9 h9; have H9 := Lib.hid h9; clear h9)
            refine ⟨⟨j + 1, by omega, by go_num, Lib.hid ⟨HBZ.out.trans (below_grownW HOZ.out (by have := H9.out.2.1; rw [HON.out] at this; exact this) HBZ.out.size), ?_⟩⟩, by simp [intOf]; omega⟩
            have hA := HAT.out
            simp at hA
            rw [HTK.out, hA]
            exact H9.out.1
          · go_upto_region 7 with fail
            obtain ⟨Z, hZ⟩ : ∃ Z, V.alloc (.cells #[.int .i64 wk, .int .i64 wa, .int .i64 wb, .string ws, .string wv, .bool false] 94) = Z := ⟨_, rfl⟩
            obtain ⟨zb, hzb⟩ : ∃ z, z = V.heap.size := ⟨_, rfl⟩
            have bZ : Below V.heap.size V Z := by rw [← hZ]; exact below_box _ _
            have eZ : Z.heap[zb]? = some (.cells #[.int .i64 wk, .int .i64 wa, .int .i64 wb, .string ws, .string wv, .bool false] 94) := by rw [← hZ, hzb]; exact heap_new _ _
            have HOZ := Lib.hid (HOV.out.below bZ)
            have HBZ := Lib.hid (below_then HBV.out bZ)
            have HVZ : Hid (kW.V Z (some ⟨zb, 0, none⟩) [⟨⟨wk, wa, wb, ws⟩, wv, false⟩]) := Lib.hid (fun _ => ⟨_, 0, rfl, RowK.new_at (k := kW) eZ rfl⟩)
            have HZ := Lib.hid hZ
            have HZB := Lib.hid hzb
            clear bZ eZ hZ hzb
            go_wp2_with (at_builtin; rw [HZ.out, ← HZB.out]; refine RowK.wpList_app (k := kW) (B := w.heap.size) (v := .slice oa on oc) (l := outX (L.take j)) rfl (.tmp 42) (.tmp 45) rfl rfl (by rw [HON.out]; exact HOZ.out) (some ⟨zb, 0, none⟩) 1 [⟨⟨wk, wa, wb, ws⟩, wv, false⟩] 1 rfl rfl HVZ.out (fun e => by cases e) (by have := HOL.out; simp; omega) HBZ.out.size ?_; rintro v9 w9 h9; have H9 := Lib.hid h9; clear h9)
            refine ⟨⟨j + 1, by omega, by go_num, Lib.hid ⟨HBZ.out.trans (below_grownW HOZ.out (by have := H9.out.2.1; rw [HON.out] at this; exact this) HBZ.out.size), ?_⟩⟩, by simp [intOf]; omega⟩
            have hA := HAT.out
            simp at hA
            rw [HTK.out, hA]
            exact H9.out.1
          · go_upto_region 7 with fail
            obtain ⟨Z, hZ⟩ : ∃ Z, V.alloc (.cells #[.int .i64 wk, .int .i64 wa, .int .i64 wb, .string ws, .string wv, .bool true] 94) = Z := ⟨_, rfl⟩
            obtain ⟨zb, hzb⟩ : ∃ z, z = V.heap.size := ⟨_, rfl⟩
            have bZ : Below V.heap.size V Z := by rw [← hZ]; exact below_box _ _
            have eZ : Z.heap[zb]? = some (.cells #[.int .i64 wk, .int .i64 wa, .int .i64 wb, .string ws, .string wv, .bool true] 94) := by rw [← hZ, hzb]; exact heap_new _ _
            have HOZ := Lib.hid (HOV.out.below bZ)
            have HBZ := Lib.hid (below_then HBV.out bZ)
            have HVZ : Hid (kW.V Z (some ⟨zb, 0, none⟩) [⟨⟨wk, wa, wb, ws⟩, wv, true⟩]) := Lib.hid (fun _ => ⟨_, 0, rfl, RowK.new_at (k := kW) eZ rfl⟩)
            have HZ := Lib.hid hZ
            have HZB := Lib.hid hzb
            clear bZ eZ hZ hzb
            go_wp2_with (at_builtin; rw [HZ.out, ← HZB.out]; refine RowK.wpList_app (k := kW) (B := w.heap.size) (v := .slice oa on oc) (l := outX (L.take j)) rfl (.tmp 42) (.tmp 45) rfl rfl (by rw [HON.out]; exact HOZ.out) (some ⟨zb, 0, none⟩) 1 [⟨⟨wk, wa, wb, ws⟩, wv, true⟩] 1 rfl rfl HVZ.out (fun e => by cases e) (by have := HOL.out; simp; omega) HBZ.out.size ?_; rintro v9 w9 h9; have H9 := Lib.hid h9; clear h9)
            refine ⟨⟨j + 1, by omega, by go_num, Lib.hid ⟨HBZ.out.trans (below_grownW HOZ.out (by have := H9.out.2.1; rw [HON.out] at this; exact this) HBZ.out.size), ?_⟩⟩, by simp [intOf]; omega⟩
            have hA := HAT.out
            simp at hA
            rw [HTK.out, hA]
            exact H9.out.1
          · go_upto_region 7 with fail
            obtain ⟨Z, hZ⟩ : ∃ Z, V.alloc (.cells #[.int .i64 wk, .int .i64 wa, .int .i64 wb, .string ws, .string wv, .bool true] 94) = Z := ⟨_, rfl⟩
            obtain ⟨zb, hzb⟩ : ∃ z, z = V.heap.size := ⟨_, rfl⟩
            have bZ : Below V.heap.size V Z := by rw [← hZ]; exact below_box _ _
            have eZ : Z.heap[zb]? = some (.cells #[.int .i64 wk, .int .i64 wa, .int .i64 wb, .string ws, .string wv, .bool true] 94) := by rw [← hZ, hzb]; exact heap_new _ _
            have HOZ := Lib.hid (HOV.out.below bZ)
            have HBZ := Lib.hid (below_then HBV.out bZ)
            have HVZ : Hid (kW.V Z (some ⟨zb, 0, none⟩) [⟨⟨wk, wa, wb, ws⟩, wv, true⟩]) := Lib.hid (fun _ => ⟨_, 0, rfl, RowK.new_at (k := kW) eZ rfl⟩)
            have HZ := Lib.hid hZ
            have HZB := Lib.hid hzb
            clear bZ eZ hZ hzb
            go_wp2_with (at_builtin; rw [HZ.out, ← HZB.out]; refine RowK.wpList_app (k := kW) (B := w.heap.size) (v := .slice oa on oc) (l := outX (L.take j)) rfl (.tmp 42) (.tmp 45) rfl rfl (by rw [HON.out]; exact HOZ.out) (some ⟨zb, 0, none⟩) 1 [⟨⟨wk, wa, wb, ws⟩, wv, true⟩] 1 rfl rfl HVZ.out (fun e => by cases e) (by have := HOL.out; simp; omega) HBZ.out.size ?_; rintro v9 w9 h9; have H9 := Lib.hid h9; clear h9)
            refine ⟨⟨j + 1, by omega, by go_num, Lib.hid ⟨HBZ.out.trans (below_grownW HOZ.out (by have := H9.out.2.1; rw [HON.out] at this; exact this) HBZ.out.size), ?_⟩⟩, by simp [intOf]; omega⟩
            have hA := HAT.out
            simp at hA
            rw [HTK.out, hA]
            exact H9.out.1
        · simp only [Bool.not_true] at hq2
          cases wh <;> cases sh
          · go_wp2_with fail
            refine ⟨⟨j + 1, by omega, by go_num, Lib.hid ⟨HBV.out, ?_⟩⟩, by simp [intOf]; omega⟩
            have hA := HAT.out
            simp at hA
            rw [HTK.out, hA, List.append_nil, HON.out]
            exact HOV.out
          · go_upto_region 7 with fail
            obtain ⟨Z, hZ⟩ : ∃ Z, V.alloc (.cells #[.int .i64 wk, .int .i64 wa, .int .i64 wb, .string ws, .string wv, .bool false] 94) = Z := ⟨_, rfl⟩
            obtain ⟨zb, hzb⟩ : ∃ z, z = V.heap.size := ⟨_, rfl⟩
            have bZ : Below V.heap.size V Z := by rw [← hZ]; exact below_box _ _
            have eZ : Z.heap[zb]? = some (.cells #[.int .i64 wk, .int .i64 wa, .int .i64 wb, .string ws, .string wv, .bool false] 94) := by rw [← hZ, hzb]; exact heap_new _ _
            have HOZ := Lib.hid (HOV.out.below bZ)
            have HBZ := Lib.hid (below_then HBV.out bZ)
            have HVZ : Hid (kW.V Z (some ⟨zb, 0, none⟩) [⟨⟨wk, wa, wb, ws⟩, wv, false⟩]) := Lib.hid (fun _ => ⟨_, 0, rfl, RowK.new_at (k := kW) eZ rfl⟩)
            have HZ := Lib.hid hZ
            have HZB := Lib.hid hzb
            clear bZ eZ hZ hzb
            go_wp2_with (at_builtin; rw [HZ.out, ← HZB.out]; refine RowK.wpList_app (k := kW) (B := w.heap.size) (v := .slice oa on oc) (l := outX (L.take j)) rfl (.tmp 42) (.tmp 45) rfl rfl (by rw [HON.out]; exact HOZ.out) (some ⟨zb, 0, none⟩) 1 [⟨⟨wk, wa, wb, ws⟩, wv, false⟩] 1 rfl rfl HVZ.out (fun e => by cases e) (by have := HOL.out; simp; omega) HBZ.out.size ?_; rintro v9 w9 h9; have H9 := Lib.hid h9; clear h9)
            refine ⟨⟨j + 1, by omega, by go_num, Lib.hid ⟨HBZ.out.trans (below_grownW HOZ.out (by have := H9.out.2.1; rw [HON.out] at this; exact this) HBZ.out.size), ?_⟩⟩, by simp [intOf]; omega⟩
            have hA := HAT.out
            simp at hA
            rw [HTK.out, hA]
            exact H9.out.1
          · go_upto_region 7 with fail
            obtain ⟨Z, hZ⟩ : ∃ Z, V.alloc (.cells #[.int .i64 wk, .int .i64 wa, .int .i64 wb, .string ws, .string wv, .bool true] 94) = Z := ⟨_, rfl⟩
            obtain ⟨zb, hzb⟩ : ∃ z, z = V.heap.size := ⟨_, rfl⟩
            have bZ : Below V.heap.size V Z := by rw [← hZ]; exact below_box _ _
            have eZ : Z.heap[zb]? = some (.cells #[.int .i64 wk, .int .i64 wa, .int .i64 wb, .string ws, .string wv, .bool true] 94) := by rw [← hZ, hzb]; exact heap_new _ _
            have HOZ := Lib.hid (HOV.out.below bZ)
            have HBZ := Lib.hid (below_then HBV.out bZ)
            have HVZ : Hid (kW.V Z (some ⟨zb, 0, none⟩) [⟨⟨wk, wa, wb, ws⟩, wv, true⟩]) := Lib.hid (fun _ => ⟨_, 0, rfl, RowK.new_at (k := kW) eZ rfl⟩)
            have HZ := Lib.hid hZ
            have HZB := Lib.hid hzb
            clear bZ eZ hZ hzb
            go_wp2_with (at_builtin; rw [HZ.out, ← HZB.out]; refine RowK.wpList_app (k := kW) (B := w.heap.size) (v := .slice oa on oc) (l := outX (L.take j)) rfl (.tmp 42) (.tmp 45) rfl rfl (by rw [HON.out]; exact HOZ.out) (some ⟨zb, 0, none⟩) 1 [⟨⟨wk, wa, wb, ws⟩, wv, true⟩] 1 rfl rfl HVZ.out (fun e => by cases e) (by have := HOL.out; simp; omega) HBZ.out.size ?_; rintro v9 w9 h9; have H9 := Lib.hid h9; clear h9)
            refine ⟨⟨j + 1, by omega, by go_num, Lib.hid ⟨HBZ.out.trans (below_grownW HOZ.out (by have := H9.out.2.1; rw [HON.out] at this; exact this) HBZ.out.size), ?_⟩⟩, by simp [intOf]; omega⟩
            have hA := HAT.out
            simp at hA
            rw [HTK.out, hA]
            exact H9.out.1
          · go_wp2_with fail
            refine ⟨⟨j + 1, by omega, by go_num, Lib.hid ⟨HBV.out, ?_⟩⟩, by simp [intOf]; omega⟩
            have hA := HAT.out
            simp at hA
            rw [HTK.out, hA, List.append_nil, HON.out]
            exact HOV.out
    · obtain rfl : j = n := by omega
      go_wp2_with fail
      go_ret
      have hO := HI.out.o
      rw [HN.out, List.take_length] at hO
      exact ⟨_, rfl, hO, HI.out.b⟩
end Go.Proofs.YtkhkdedjffkhdaaGreat
