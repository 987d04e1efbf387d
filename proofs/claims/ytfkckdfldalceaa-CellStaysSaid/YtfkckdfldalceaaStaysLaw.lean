/- CellStays: the walk. Conditions: the theorem's own premises. -/
import Derived.Test.YtfkckdfldalceaaStays2
namespace Go.Proofs.Ytfkckdfldalceaa
open Go.RowKit Go.Maps

theorem KsV.any {w : World} {S : Nat → Prop} {a : Option Addr} {ks : List Ky} (h : KsV w S a ks) : KsV w (fun _ => False) a ks := fun e => by
  obtain ⟨b, off, h1, h2, _⟩ := h e
  exact ⟨b, off, h1, h2, fun f => f⟩
/-- the key of CellStays -/
def k99 : Ky := ⟨99, 0, 0, ⟨#[]⟩⟩
theorem k99_ok : k99.Ok := ⟨i64_lit (n := 99) (by omega) (by omega), i64_lit (n := 0) (by omega) (by omega), i64_lit (n := 0) (by omega) (by omega), Nat.zero_le _⟩
theorem ksv_one {w : World} {s : Sto} (h : StC w s) : KsV (w.alloc (.cells #[.int .i64 99, .int .i64 0, .int .i64 0, .string ⟨#[]⟩] 56)) s.fp (some ⟨w.heap.size, 0, none⟩) [k99] := fun _ =>
  ⟨_, 0, rfl, KsAt.one (k := k99) (heap_new w _) k99_ok, fun e => by have := h.lt e; omega⟩

theorem len_g (s : Sto) (w : World) (h : StC w s) : Calls Try.prog 20 #[.pointer (some ⟨s.ab, 0, none⟩)] w fun e w' => e = .returned (.int .i64 s.cnt) ∧ w = w' := by
  have := h.cnt_le
  refine (len_any s.ab s.bg s.bt s.v s.ar s.c w h.ar).mono ?_
  rintro e w' ⟨rfl, rfl⟩
  exact ⟨ret_int (by omega), rfl⟩
/-- a world by what is known of it -/
theorem calls_gen {P : Program} {f : FuncId} {args : Array Value} {Q : Ending → World → Prop} (F : World → Prop) {w : World} (h : F w) (k : ∀ u, F u → Calls P f args u Q) : Calls P f args w Q := k w h
theorem RV.one {u : World} {n : Nat} (hn : u.heap.size = n) (k : Ky) (x : Cl) :
    RV ((u.alloc (.cells #[.int .i64 k.kind, .int .i64 k.a, .int .i64 k.b, .string k.s, .int .u64 x.st, .bool (!x.ab), .string x.text, .bool x.lk, .int .i64 x.who] 77)).alloc (.cells #[.int .i64 60, .slice (some ⟨n, 0, none⟩) 1 1] 80)) (n + 1) (some ⟨n, 0, none⟩) 1 60 [(k, x)] := by
  subst hn
  have e0 := heap_new (u.alloc (.cells #[.int .i64 k.kind, .int .i64 k.a, .int .i64 k.b, .string k.s, .int .u64 x.st, .bool (!x.ab), .string x.text, .bool x.lk, .int .i64 x.who] 77)) (.cells #[.int .i64 60, .slice (some ⟨u.heap.size, 0, none⟩) 1 1] 80)
  rw [size_alloc] at e0
  have e1 := (Below.heap_alloc (u.alloc (.cells #[.int .i64 k.kind, .int .i64 k.a, .int .i64 k.b, .string k.s, .int .u64 x.st, .bool (!x.ab), .string x.text, .bool x.lk, .int .i64 x.who] 77)) (.cells #[.int .i64 60, .slice (some ⟨u.heap.size, 0, none⟩) 1 1] 80) u.heap.size (by simp)).trans (heap_new u _)
  refine ⟨e0, fun _ => ⟨_, rfl, ⟨fun i k' x' hi => ?_, by simp; omega⟩⟩, by simp⟩
  cases i with
  | zero =>
    simp at hi
    obtain ⟨rfl, rfl⟩ := hi
    refine ⟨?_, ?_, ?_, ?_, ?_, ?_, ?_, ?_, ?_⟩ <;> rw [cell_of_blk e1] <;> rfl
  | succ i => simp at hi

/-- what a round knows of its world: the act as it was changed, the reference's store -/
def StF (W : World) (ab n : Nat) (text : ByteArray) (a : A9) (u : World) : Prop := Below W.heap.size W u ∧ u.heap[ab]? = some (.cells #[.int .i64 a.kind, .int .i64 a.who, .int .i64 a.k.kind, .int .i64 a.k.a, .int .i64 a.k.b, .string a.k.s, .slice a.ka a.ks.length a.kc, .int .u64 a.stamp, .int .u64 a.vw, .string a.vs, .bool a.vh] 74 (0, 0)) ∧ RV u (n + 1) (some ⟨n, 0, none⟩) 1 60 [(k99, ⟨9, true, false, text, 5⟩)]
theorem stays_close {W u wa : World} {ab : Nat} {text : ByteArray} {a : A9} (hB : Below W.heap.size W u) (hz : u.heap.size = wa.heap.size) (hl : ab < u.heap.size) (hb : u.heap[ab]? = some (.cells #[.int .i64 a.kind, .int .i64 a.who, .int .i64 a.k.kind, .int .i64 a.k.a, .int .i64 a.k.b, .string a.k.s, .slice a.ka a.ks.length a.kc, .int .u64 a.stamp, .int .u64 a.vw, .string a.vs, .bool a.vh] 74 (0, 0))) :
    StF W ab wa.heap.size text a ((u.alloc (.cells #[.int .i64 99, .int .i64 0, .int .i64 0, .string ⟨#[]⟩, .int .u64 9, .bool true, .string text, .bool true, .int .i64 5] 77)).alloc (.cells #[.int .i64 60, .slice (some ⟨wa.heap.size, 0, none⟩) 1 1] 80)) := by
  refine ⟨(hB.alloc hB.size _).alloc (by rw [size_alloc]; have := hB.size; omega) _, ?_, RV.one hz k99 ⟨9, true, false, text, 5⟩⟩
  rw [Below.heap_alloc _ _ _ (by rw [size_alloc]; omega), Below.heap_alloc _ _ _ hl]
  exact hb
theorem stays_u5 {W wa : World} {ab : Nat} {text : ByteArray} {x : A9} (hB : Below W.heap.size W wa) (hab : W.heap.size ≤ ab) (eA : wa.heap[ab]? = some (.cells #[.int .i64 x.kind, .int .i64 x.who, .int .i64 x.k.kind, .int .i64 x.k.a, .int .i64 x.k.b, .string x.k.s, .slice x.ka x.ks.length x.kc, .int .u64 x.stamp, .int .u64 x.vw, .string x.vs, .bool x.vh] 74 (0, 0))) :
    StF W ab wa.heap.size text { x with who := 6, k := k99 } (((((((wa.setCell ⟨ab, 1, none⟩ (.int .i64 6)).setCell ⟨ab, 2, none⟩ (.int .i64 99)).setCell ⟨ab, 3, none⟩ (.int .i64 0)).setCell ⟨ab, 4, none⟩ (.int .i64 0)).setCell ⟨ab, 5, none⟩ (.string ⟨#[]⟩)).alloc (.cells #[.int .i64 99, .int .i64 0, .int .i64 0, .string ⟨#[]⟩, .int .u64 9, .bool true, .string text, .bool true, .int .i64 5] 77)).alloc (.cells #[.int .i64 60, .slice (some ⟨wa.heap.size, 0, none⟩) 1 1] 80)) := by
  have hl := (Array.getElem?_eq_some_iff.1 eA).1
  refine stays_close (((((hB.setCell hab _).setCell hab _).setCell hab _).setCell hab _).setCell hab _) (by simp only [size_setCell]) (by simp only [size_setCell]; exact hl) ?_
  rw [blk_setCell (blk_setCell (blk_setCell (blk_setCell (blk_setCell eA _) _) _) _)]
  rfl
theorem stays_u {W wa : World} {ab : Nat} {text : ByteArray} {x : A9} (hB : Below W.heap.size W wa) (hab : W.heap.size ≤ ab) (eA : wa.heap[ab]? = some (.cells #[.int .i64 x.kind, .int .i64 x.who, .int .i64 x.k.kind, .int .i64 x.k.a, .int .i64 x.k.b, .string x.k.s, .slice x.ka x.ks.length x.kc, .int .u64 x.stamp, .int .u64 x.vw, .string x.vs, .bool x.vh] 74 (0, 0))) :
    StF W ab wa.heap.size text { x with who := x.who, k := k99 } ((((((wa.setCell ⟨ab, 2, none⟩ (.int .i64 99)).setCell ⟨ab, 3, none⟩ (.int .i64 0)).setCell ⟨ab, 4, none⟩ (.int .i64 0)).setCell ⟨ab, 5, none⟩ (.string ⟨#[]⟩)).alloc (.cells #[.int .i64 99, .int .i64 0, .int .i64 0, .string ⟨#[]⟩, .int .u64 9, .bool true, .string text, .bool true, .int .i64 5] 77)).alloc (.cells #[.int .i64 60, .slice (some ⟨wa.heap.size, 0, none⟩) 1 1] 80)) := by
  have hl := (Array.getElem?_eq_some_iff.1 eA).1
  refine stays_close ((((hB.setCell hab _).setCell hab _).setCell hab _).setCell hab _) (by simp only [size_setCell]) (by simp only [size_setCell]; exact hl) ?_
  rw [blk_setCell (blk_setCell (blk_setCell (blk_setCell eA _) _) _)]
  rfl
theorem lookL_one (k : Ky) (x : Cl) : lookL [(k, x)] k = some x := by
  unfold lookL
  rw [Ky.eqB_true rfl]; rfl

set_option maxRecDepth 100000 in
set_option maxHeartbeats 8000000 in
theorem stays_all (text : ByteArray) (a1 : Option Addr) (len1 cap1 : Nat) (inst : Bool) (w : World) (ht : text.size ≤ 200) (hl : len1 ≤ 60) (hat : ∀ i, i < len1 → ActAt9 w a1 i) :
    Calls Try.prog 8 #[.string text, .slice a1 len1 cap1, .bool inst] w fun e w' => e = .returned (.bool true) ∧ Below w.heap.size w w' := by
  have htm : text.size ≤ maxLen := by unfold maxLen; omega
  have HTM := Lib.hid htm
  clear htm
  have hd1 : decide ((60 : Int) < (len1 : Int)) = false := by simp; omega
  have hd2 : decide ((200 : Int) < (text.size : Int)) = false := by simp; omega
  go_enter Try.func8, Try.ntmps8
  go_wp2_with fail
  refine (awake9_any _).mono ?_
  rintro e w0 ⟨rfl, hb0⟩
  go_wp2_with fail
  refine (new_g 60 _ (by omega)).mono ?_
  rintro e w1 ⟨s1, rfl, hS1, g1, n1, c1, r1⟩
  replace hS1 := hS1.from hb0
  obtain ⟨b, hb1⟩ : ∃ b, s1.sb = b := ⟨_, rfl⟩
  rw [hb1]
  have G1 := Lib.hid g1
  have N1 := Lib.hid n1
  have R1 := Lib.hid r1
  have B1 := Lib.hid hb1
  have C1 := Lib.hid c1
  clear g1 n1 c1 r1 hb1 hb0
  go_wp2_with fail
  have hS2 := hS1.alloc (.cells #[.int .i64 99, .int .i64 0, .int .i64 0, .string ⟨#[]⟩] 56)
  have x2 := Bx.new hS1.st (.cells #[.int .i64 99, .int .i64 0, .int .i64 0, .string ⟨#[]⟩] 56)
  obtain ⟨kb, hkb⟩ : ∃ kb, w1.heap.size = kb := ⟨_, rfl⟩
  rw [hkb] at x2 ⊢
  clear hS1 hkb
  refine (lock_new_g s1 b k99 5 _ hS2.st B1.out k99_ok (i64_lit (by omega) (by omega)) (by rw [G1.out]) (by rw [N1.out, R1.out]; omega)).mono ?_
  rintro e w3 ⟨rfl, s3, p3⟩
  have hS3 := hS2.gpost p3
  have x3 := x2.gpost p3
  have G3 : Hid (s3.g k99 = some ⟨0, true, true, ⟨#[]⟩, 5⟩) := Lib.hid (by rw [p3.g, setG_same])
  have B3 : Hid (s3.sb = b) := Lib.hid (p3.sb.trans B1.out)
  have C3 : Hid (s3.c = 0) := Lib.hid (p3.c.trans C1.out)
  have N3 : Hid (s3.cnt = 1) := Lib.hid (by rw [p3.cnt, N1.out])
  clear p3 hS2 x2
  go_wp2_with fail
  have K3 := Lib.hid (fun w' (h : Below w3.heap.size w3 w') => BoxK.mk (k := k99) x3.at' w' h)
  unfold BoxK at K3
  have ST3 := Lib.hid (fun w' (h : Below w3.heap.size w3 w') => hS3.st.stay h)
  have X3 := Lib.hid (fun w' (h : Below w3.heap.size w3 w') w6 s6 g n c (p : GPost w' s3 s6 g n c w6) => ((x3.below h).gpost p).cell)
  have k0 := x3.cell 0
  have k1 := x3.cell 1
  have k2 := x3.cell 2
  have k3 := x3.cell 3
  simp at k0 k1 k2 k3
  go_region_held3 (fun w' => w'.cell? ⟨kb, 0, none⟩ = some (.int .i64 99) ∧ w'.cell? ⟨kb, 1, none⟩ = some (.int .i64 0) ∧ w'.cell? ⟨kb, 2, none⟩ = some (.int .i64 0) ∧ w'.cell? ⟨kb, 3, none⟩ = some (.string ⟨#[]⟩))
    (first | exact (K3.out _ (Below.refl _ _).drew).2 | exact ⟨X3.out _ (below_then (Below.refl _ _).drew hbc) _ _ _ _ _ p6 0, X3.out _ (below_then (Below.refl _ _).drew hbc) _ _ _ _ _ p6 1, X3.out _ (below_then (Below.refl _ _).drew hbc) _ _ _ _ _ p6 2, X3.out _ (below_then (Below.refl _ _).drew hbc) _ _ _ _ _ p6 3⟩ | exact (K3.out _ (below_then (Below.refl _ _).drew hbc)).2)
    (first | (go_at_call 36; (with_reducible refine (seen9_any _ _).mono ?_); rintro e w5 ⟨rfl, hbc⟩) | (go_at_call 35; (refine (install_g s3 b k99 _ 5 9 0 text true _ (ST3.out _ ?hbw) B3.out k99_ok G3.out rfl rfl (by unfold Sm; decide) (by decide) (.inl rfl) HTM.out).mono ?_); (case hbw => exact below_then (Below.refl _ _).drew hbc); rintro e w6 ⟨rfl, s6, p6⟩))
  go_split_ands
  have hS6 := (hS3.below (below_then (Below.refl _ _).drew hbc)).gpost p6
  have x6 := (x3.below (below_then (Below.refl _ _).drew hbc)).gpost p6
  have G6 : Hid (s6.g k99 = some ⟨9, false, false, text, 5⟩) := Lib.hid (by rw [p6.g, setG_same]; rfl)
  have B6 : Hid (s6.sb = b) := Lib.hid (p6.sb.trans B3.out)
  have C6 : Hid (s6.c = 0) := Lib.hid (p6.c.trans C3.out)
  have N6 : Hid (s6.cnt = 1) := Lib.hid (by rw [p6.cnt, N3.out])
  clear p6 hbc hS3 x3 k0 k1 k2 k3 K3 ST3 X3
  go_wp2_with fail
  refine (read_g s6 b k99 _ hS6.st B6.out k99_ok).mono ?_
  rintro e w7 ⟨rfl, hb7⟩
  rw [G6.out]
  simp only [readV, Bool.false_eq_true, if_false, Bool.not_false]
  have hS7 := hS6.below hb7
  have x7 := x6.below hb7
  clear hb7 hS6 x6
  have k0 := x7.cell 0
  have k1 := x7.cell 1
  have k2 := x7.cell 2
  have k3 := x7.cell 3
  have lkb := x7.lt
  simp at k0 k1 k2 k3
  go_wp2_with fail
  have hS8 := hS7.alloc (.cells #[.int .u64 9, .string text, .bool true] 68)
  have x8 := x7.alloc (.cells #[.int .u64 9, .string text, .bool true] 68)
  have y8 := Bx.new hS7.st (.cells #[.int .u64 9, .string text, .bool true] 68)
  obtain ⟨vb, hvb⟩ : ∃ vb, w7.heap.size = vb := ⟨_, rfl⟩
  rw [hvb] at y8 ⊢
  clear hS7 x7 hvb k0 k1 k2 k3 lkb
  refine (lock_free_g s6 b k99 _ 5 _ hS8.st B6.out k99_ok (i64_lit (by omega) (by omega)) G6.out rfl).mono ?_
  rintro e w9 ⟨rfl, s9, p9⟩
  have hS9 := hS8.gpost p9
  have x9 := x8.gpost p9
  have y9 := y8.gpost p9
  have G9 : Hid (s9.g k99 = some ⟨9, true, false, text, 5⟩) := Lib.hid (by rw [p9.g, setG_same])
  have B9 : Hid (s9.sb = b) := Lib.hid (p9.sb.trans B6.out)
  have C9 : Hid (s9.c = 0) := Lib.hid (p9.c.trans C6.out)
  have N9 : Hid (s9.cnt = 1) := Lib.hid (by rw [p9.cnt, N6.out])
  clear p9 hS8 x8 y8
  obtain ⟨W, hW⟩ : ∃ W : World, W = w9 := ⟨_, rfl⟩
  subst hW
  have v0 := y9.cell 0
  have v1 := y9.cell 1
  have v2 := y9.cell 2
  have lvb := y9.lt
  simp at v0 v1 v2
  have hne : ((!(text.toList == text.toList)) : Bool) = false := by simp
  go_wp2_with fail
  have HS := Lib.hid (fun w' (h : Below W.heap.size W w') => hS9.st.stay h)
  have HK := Lib.hid (fun w' (h : Below W.heap.size W w') => (⟨(BoxK.mk (k := k99) x9.at' w' h).2, (x9.below h).lt⟩ : _ ∧ kb < w'.heap.size))
  have HV := Lib.hid (fun w' (h : Below W.heap.size W w') => (⟨(y9.below h).cell 0, (y9.below h).cell 1, (y9.below h).cell 2, (y9.below h).lt⟩ : w'.cell? ⟨vb, 0, none⟩ = some (.int .u64 9) ∧ w'.cell? ⟨vb, 1, none⟩ = some (.string text) ∧ w'.cell? ⟨vb, 2, none⟩ = some (.bool true) ∧ vb < w'.heap.size))
  have HA := Lib.hid (fun w' (h : Below W.heap.size W w') i (hi : i < len1) => ((hat i hi).below hS9.bel).below h)
  have FIN := Lib.hid (fun w' (h : Below W.heap.size W w') => hS9.bel.trans (h.mono hS9.bel.size))
  have HNF : Hid (∀ (k : Ky) (x : Cl), k ∈ [k99] → s9.g k = some x → (x.ab && !x.lk) = false) := Lib.hid (fun k x hk hx => by rw [List.mem_singleton.1 hk, G9.out] at hx; cases hx; rfl)
  have HNU : Hid (∀ who : Int, who ≠ 5 → ¬ unlockOk s9.g who [k99] [k99].length) := Lib.hid (fun who hne hu => by
    have := (hu 0 k99 (by simp) rfl).1
    rw [G9.out] at this
    simp [holdsV] at this
    exact hne this.symm)
  have E5 : Hid (stillV (s9.g k99) 5 9 true = true) := Lib.hid (by rw [G9.out]; simp [stillV])
  have E6 : Hid (stillV (s9.g k99) 6 9 true = false) := Lib.hid (by rw [G9.out]; simp [stillV])
  clear v0 v1 v2 lvb hat
  go_loopw [14] (fun i wr => ∃ j : Nat, j ≤ len1 ∧ i = .int .i64 j ∧ Below W.heap.size W wr) (fun i _ => len1 - (intOf i).toNat)
  case atStart => exact ⟨0, Nat.zero_le _, rfl, Below.refl _ _⟩
  case round =>
    obtain ⟨j, hj, rfl, hbel⟩ := hrel
    by_cases hlt : j < len1
    · obtain ⟨x, ab, aoff, rfl, hal, hao, q0, q1, q2, q3, q4, q5, q6, q7, q8, q9, q10⟩ := HA.out wr hbel j hlt
      have HAO := Lib.hid hao
      clear hao
      go_wp2_with fail
      refine (small9_any x _ (HAO.out.below ((Below.refl _ _).alloc (Nat.le_refl _) _))).mono ?_
      rintro e wa ⟨sm, rfl, _, hba⟩
      have eA := (hba.block wr.heap.size (by simp)).trans (heap_new wr _)
      have hBa : Below W.heap.size W wa := below_then (hbel.alloc hbel.size _) hba
      have hzW := hbel.size
      clear hba q0 q1 q2 q3 q4 q5 q6 q7 q8 q9 q10
      cases sm
      · go_wp2_with fail
        go_ret
        exact ⟨rfl, FIN.out _ hBa⟩
      · have a0 := cell_of_blk eA 0
        have a1' := cell_of_blk eA 1
        have a2 := cell_of_blk eA 2
        have a3 := cell_of_blk eA 3
        have a4 := cell_of_blk eA 4
        have a5 := cell_of_blk eA 5
        have a6 := cell_of_blk eA 6
        have a7 := cell_of_blk eA 7
        have a8 := cell_of_blk eA 8
        have a9 := cell_of_blk eA 9
        have a10 := cell_of_blk eA 10
        have f1 := frozen_of_blk eA 1
        have f2 := frozen_of_blk eA 2
        have f3 := frozen_of_blk eA 3
        have f4 := frozen_of_blk eA 4
        have f5 := frozen_of_blk eA 5
        simp at a0 a1' a2 a3 a4 a5 a6 a7 a8 a9 a10
        have hlA := (Array.getElem?_eq_some_iff.1 eA).1
        have EA := Lib.hid eA
        clear eA
        obtain ⟨⟨k0, k1, k2, k3⟩, lkb⟩ := HK.out wa hBa
        simp only [k99] at k0 k1 k2 k3
        have nkb : kb ≠ wr.heap.size := by have := x9.lt; omega
        by_cases hw5 : x.who = 5
        · have w5 : (x.who == 5) = true := by simpa using hw5
          clear hw5
          by_cases h2 : x.kind = 2
          · have n2 : (x.kind != 2) = false := by simpa using h2
            clear h2
            go_wp2_with fail
            refine calls_gen (fun u => ∃ u0 : World, u = u0.alloc (.cells #[.int .i64 99, .int .i64 0, .int .i64 0, .string ⟨#[]⟩] 56) ∧ u0.heap.size = wa.heap.size + 1 + 1 ∧ StF W wr.heap.size wa.heap.size text { x with who := 6, k := k99 } u0) ⟨_, rfl, by simp, stays_u5 hBa hzW EA.out⟩ ?_
            rintro u ⟨u0, rfl, hn0, hf⟩
            refine (free_none s9 b 1 (some ⟨wa.heap.size + 1 + 1, 0, none⟩) [k99] _ ((HS.out _ hf.1).alloc _) B9.out (hn0 ▸ ksv_one (HS.out _ hf.1)).any (by simp) HNF.out).mono ?_
            rintro e wf ⟨rfl, hbf⟩
            have hBf : Below W.heap.size W wf := below_then (hf.1.alloc hf.1.size _) hbf
            have eF := (hbf.block wr.heap.size (by have := (Array.getElem?_eq_some_iff.1 hf.2.1).1; simp; omega)).trans ((Below.heap_alloc _ _ _ (Array.getElem?_eq_some_iff.1 hf.2.1).1).trans hf.2.1)
            clear hbf hf hn0
            have hzf := hBf.size
            have eF1 := cell_of_blk eF 1
            simp at eF1
            have lF := (Array.getElem?_eq_some_iff.1 eF).1
            obtain ⟨⟨m0, m1, m2, m3⟩, lkf⟩ := HK.out wf hBf
            simp only [k99] at m0 m1 m2 m3
            clear eF
            go_wp2_with fail
            refine (unlock_stale s9 b 1 6 (some ⟨wf.heap.size, 0, none⟩) [k99] _ ((HS.out _ hBf).alloc _) B9.out (ksv_one (HS.out _ hBf)) (by simp) (by simp) (HNU.out 6 (by decide))).mono ?_
            rintro e wu ⟨rfl, hbu⟩
            have hBu : Below W.heap.size W wu := below_then (hBf.alloc hBf.size _) hbu
            obtain ⟨⟨u0, u1, u2, u3⟩, lku⟩ := HK.out wu hBu
            obtain ⟨v0, v1, v2, lvu⟩ := HV.out wu hBu
            simp only [k99] at u0 u1 u2 u3
            clear hbu m0 m1 m2 m3 lkf eF1 lF hzf
            go_wp2_with fail
            refine (still_g s9 b k99 5 9 text true _ (HS.out _ hBu) B9.out k99_ok).mono ?_
            rintro e wv ⟨rfl, hbv⟩
            rw [E5.out]
            have hBv : Below W.heap.size W wv := below_then hBu hbv
            obtain ⟨⟨u0, u1, u2, u3⟩, lku⟩ := HK.out wv hBv
            obtain ⟨v0, v1, v2, lvu⟩ := HV.out wv hBv
            simp only [k99] at u0 u1 u2 u3
            clear hbv
            go_wp2_with fail
            refine (still_g s9 b k99 6 9 text true _ (HS.out _ hBv) B9.out k99_ok).mono ?_
            rintro e wx ⟨rfl, hbx⟩
            rw [E6.out]
            have hBx : Below W.heap.size W wx := below_then hBv hbx
            go_wp2_with fail
            exact ⟨⟨j + 1, by omega, by go_num, hBx⟩, by simp [intOf]; omega⟩
          · have n2 : (x.kind != 2) = true := by simpa using h2
            have H2 := Lib.hid h2
            clear h2
            by_cases h5 : x.kind = 5
            · have n5 : (x.kind != 5) = false := by simpa using h5
              clear h5
              go_wp2_with fail
              refine calls_gen (fun u => ∃ u0 : World, u = u0.alloc (.cells #[.int .i64 99, .int .i64 0, .int .i64 0, .string ⟨#[]⟩] 56) ∧ u0.heap.size = wa.heap.size + 1 + 1 ∧ StF W wr.heap.size wa.heap.size text { x with who := 6, k := k99 } u0) ⟨_, rfl, by simp, stays_u5 hBa hzW EA.out⟩ ?_
              rintro u ⟨u0, rfl, hn0, hf⟩
              refine (free_none s9 b 1 (some ⟨wa.heap.size + 1 + 1, 0, none⟩) [k99] _ ((HS.out _ hf.1).alloc _) B9.out (hn0 ▸ ksv_one (HS.out _ hf.1)).any (by simp) HNF.out).mono ?_
              rintro e wf ⟨rfl, hbf⟩
              have hBf : Below W.heap.size W wf := below_then (hf.1.alloc hf.1.size _) hbf
              have eF := (hbf.block wr.heap.size (by have := (Array.getElem?_eq_some_iff.1 hf.2.1).1; simp; omega)).trans ((Below.heap_alloc _ _ _ (Array.getElem?_eq_some_iff.1 hf.2.1).1).trans hf.2.1)
              clear hbf hf hn0
              have hzf := hBf.size
              have eF1 := cell_of_blk eF 1
              simp at eF1
              have lF := (Array.getElem?_eq_some_iff.1 eF).1
              obtain ⟨⟨m0, m1, m2, m3⟩, lkf⟩ := HK.out wf hBf
              simp only [k99] at m0 m1 m2 m3
              clear eF
              go_wp2_with fail
              refine (unlock_stale s9 b 1 6 (some ⟨wf.heap.size, 0, none⟩) [k99] _ ((HS.out _ hBf).alloc _) B9.out (ksv_one (HS.out _ hBf)) (by simp) (by simp) (HNU.out 6 (by decide))).mono ?_
              rintro e wu ⟨rfl, hbu⟩
              have hBu : Below W.heap.size W wu := below_then (hBf.alloc hBf.size _) hbu
              obtain ⟨⟨u0, u1, u2, u3⟩, lku⟩ := HK.out wu hBu
              obtain ⟨v0, v1, v2, lvu⟩ := HV.out wu hBu
              simp only [k99] at u0 u1 u2 u3
              clear hbu m0 m1 m2 m3 lkf eF1 lF hzf
              go_wp2_with fail
              refine (still_g s9 b k99 5 9 text true _ (HS.out _ hBu) B9.out k99_ok).mono ?_
              rintro e wv ⟨rfl, hbv⟩
              rw [E5.out]
              have hBv : Below W.heap.size W wv := below_then hBu hbv
              obtain ⟨⟨u0, u1, u2, u3⟩, lku⟩ := HK.out wv hBv
              obtain ⟨v0, v1, v2, lvu⟩ := HV.out wv hBv
              simp only [k99] at u0 u1 u2 u3
              clear hbv
              go_wp2_with fail
              refine (still_g s9 b k99 6 9 text true _ (HS.out _ hBv) B9.out k99_ok).mono ?_
              rintro e wx ⟨rfl, hbx⟩
              rw [E6.out]
              have hBx : Below W.heap.size W wx := below_then hBv hbx
              go_wp2_with fail
              exact ⟨⟨j + 1, by omega, by go_num, hBx⟩, by simp [intOf]; omega⟩
            · have n5 : (x.kind != 5) = true := by simpa using h5
              have H5 := Lib.hid h5
              clear h5
              go_wp2_with fail
              refine calls_gen (StF W wr.heap.size wa.heap.size text { x with who := 6, k := k99 }) (stays_u5 hBa hzW EA.out) ?_
              rintro u hf
              refine (does_held s9 b (wa.heap.size + 1) 1 60 (some ⟨wa.heap.size, 0, none⟩) [(k99, ⟨9, true, false, text, 5⟩)] ⟨9, true, false, text, 5⟩ { x with who := 6, k := k99 } u (HS.out _ hf.1) B9.out hf.2.2 G9.out (lookL_one _ _) rfl (by show (5 : Int) ≠ 6; decide) k99_ok H2.out H5.out).mono ?_
              rintro e wd ⟨rfl, hbd⟩
              have hBd : Below W.heap.size W wd := hf.1.trans (hbd.mono hf.1.size)
              have eD := (hbd.block wr.heap.size (Array.getElem?_eq_some_iff.1 hf.2.1).1).trans hf.2.1
              obtain ⟨⟨k0, k1, k2, k3⟩, lkb⟩ := HK.out wd hBd
              simp only [k99] at k0 k1 k2 k3
              clear hbd hf
              go_wp2_with fail
              refine (free_none s9 b 1 (some ⟨wd.heap.size, 0, none⟩) [k99] _ ((HS.out _ hBd).alloc _) B9.out (ksv_one (HS.out _ hBd)).any (by simp) HNF.out).mono ?_
              rintro e wf ⟨rfl, hbf⟩
              have hBf : Below W.heap.size W wf := below_then (hBd.alloc hBd.size _) hbf
              have eF := (hbf.block wr.heap.size (by have := (Array.getElem?_eq_some_iff.1 eD).1; simp; omega)).trans ((Below.heap_alloc _ _ _ (Array.getElem?_eq_some_iff.1 eD).1).trans eD)
              clear hbf eD hBd
              have hzf := hBf.size
              have eF1 := cell_of_blk eF 1
              simp at eF1
              have lF := (Array.getElem?_eq_some_iff.1 eF).1
              obtain ⟨⟨m0, m1, m2, m3⟩, lkf⟩ := HK.out wf hBf
              simp only [k99] at m0 m1 m2 m3
              clear eF
              go_wp2_with fail
              refine (unlock_stale s9 b 1 6 (some ⟨wf.heap.size, 0, none⟩) [k99] _ ((HS.out _ hBf).alloc _) B9.out (ksv_one (HS.out _ hBf)) (by simp) (by simp) (HNU.out 6 (by decide))).mono ?_
              rintro e wu ⟨rfl, hbu⟩
              have hBu : Below W.heap.size W wu := below_then (hBf.alloc hBf.size _) hbu
              obtain ⟨⟨u0, u1, u2, u3⟩, lku⟩ := HK.out wu hBu
              obtain ⟨v0, v1, v2, lvu⟩ := HV.out wu hBu
              simp only [k99] at u0 u1 u2 u3
              clear hbu m0 m1 m2 m3 lkf eF1 lF hzf
              go_wp2_with fail
              refine (still_g s9 b k99 5 9 text true _ (HS.out _ hBu) B9.out k99_ok).mono ?_
              rintro e wv ⟨rfl, hbv⟩
              rw [E5.out]
              have hBv : Below W.heap.size W wv := below_then hBu hbv
              obtain ⟨⟨u0, u1, u2, u3⟩, lku⟩ := HK.out wv hBv
              obtain ⟨v0, v1, v2, lvu⟩ := HV.out wv hBv
              simp only [k99] at u0 u1 u2 u3
              clear hbv
              go_wp2_with fail
              refine (still_g s9 b k99 6 9 text true _ (HS.out _ hBv) B9.out k99_ok).mono ?_
              rintro e wx ⟨rfl, hbx⟩
              rw [E6.out]
              have hBx : Below W.heap.size W wx := below_then hBv hbx
              go_wp2_with fail
              exact ⟨⟨j + 1, by omega, by go_num, hBx⟩, by simp [intOf]; omega⟩
        · have w5 : (x.who == 5) = false := by simpa using hw5
          have HW5 := Lib.hid hw5
          clear hw5
          by_cases h2 : x.kind = 2
          · have n2 : (x.kind != 2) = false := by simpa using h2
            clear h2
            go_wp2_with fail
            refine calls_gen (fun u => ∃ u0 : World, u = u0.alloc (.cells #[.int .i64 99, .int .i64 0, .int .i64 0, .string ⟨#[]⟩] 56) ∧ u0.heap.size = wa.heap.size + 1 + 1 ∧ StF W wr.heap.size wa.heap.size text { x with who := x.who, k := k99 } u0) ⟨_, rfl, by simp, stays_u hBa hzW EA.out⟩ ?_
            rintro u ⟨u0, rfl, hn0, hf⟩
            refine (free_none s9 b 1 (some ⟨wa.heap.size + 1 + 1, 0, none⟩) [k99] _ ((HS.out _ hf.1).alloc _) B9.out (hn0 ▸ ksv_one (HS.out _ hf.1)).any (by simp) HNF.out).mono ?_
            rintro e wf ⟨rfl, hbf⟩
            have hBf : Below W.heap.size W wf := below_then (hf.1.alloc hf.1.size _) hbf
            have eF := (hbf.block wr.heap.size (by have := (Array.getElem?_eq_some_iff.1 hf.2.1).1; simp; omega)).trans ((Below.heap_alloc _ _ _ (Array.getElem?_eq_some_iff.1 hf.2.1).1).trans hf.2.1)
            clear hbf hf hn0
            have hzf := hBf.size
            have eF1 := cell_of_blk eF 1
            simp at eF1
            have lF := (Array.getElem?_eq_some_iff.1 eF).1
            obtain ⟨⟨m0, m1, m2, m3⟩, lkf⟩ := HK.out wf hBf
            simp only [k99] at m0 m1 m2 m3
            clear eF
            go_wp2_with fail
            refine (unlock_stale s9 b 1 x.who (some ⟨wf.heap.size, 0, none⟩) [k99] _ ((HS.out _ hBf).alloc _) B9.out (ksv_one (HS.out _ hBf)) (by simp) (by simp) (HNU.out x.who (by exact HW5.out))).mono ?_
            rintro e wu ⟨rfl, hbu⟩
            have hBu : Below W.heap.size W wu := below_then (hBf.alloc hBf.size _) hbu
            obtain ⟨⟨u0, u1, u2, u3⟩, lku⟩ := HK.out wu hBu
            obtain ⟨v0, v1, v2, lvu⟩ := HV.out wu hBu
            simp only [k99] at u0 u1 u2 u3
            clear hbu m0 m1 m2 m3 lkf eF1 lF hzf
            go_wp2_with fail
            refine (still_g s9 b k99 5 9 text true _ (HS.out _ hBu) B9.out k99_ok).mono ?_
            rintro e wv ⟨rfl, hbv⟩
            rw [E5.out]
            have hBv : Below W.heap.size W wv := below_then hBu hbv
            obtain ⟨⟨u0, u1, u2, u3⟩, lku⟩ := HK.out wv hBv
            obtain ⟨v0, v1, v2, lvu⟩ := HV.out wv hBv
            simp only [k99] at u0 u1 u2 u3
            clear hbv
            go_wp2_with fail
            refine (still_g s9 b k99 6 9 text true _ (HS.out _ hBv) B9.out k99_ok).mono ?_
            rintro e wx ⟨rfl, hbx⟩
            rw [E6.out]
            have hBx : Below W.heap.size W wx := below_then hBv hbx
            go_wp2_with fail
            exact ⟨⟨j + 1, by omega, by go_num, hBx⟩, by simp [intOf]; omega⟩
          · have n2 : (x.kind != 2) = true := by simpa using h2
            have H2 := Lib.hid h2
            clear h2
            by_cases h5 : x.kind = 5
            · have n5 : (x.kind != 5) = false := by simpa using h5
              clear h5
              go_wp2_with fail
              refine calls_gen (fun u => ∃ u0 : World, u = u0.alloc (.cells #[.int .i64 99, .int .i64 0, .int .i64 0, .string ⟨#[]⟩] 56) ∧ u0.heap.size = wa.heap.size + 1 + 1 ∧ StF W wr.heap.size wa.heap.size text { x with who := x.who, k := k99 } u0) ⟨_, rfl, by simp, stays_u hBa hzW EA.out⟩ ?_
              rintro u ⟨u0, rfl, hn0, hf⟩
              refine (free_none s9 b 1 (some ⟨wa.heap.size + 1 + 1, 0, none⟩) [k99] _ ((HS.out _ hf.1).alloc _) B9.out (hn0 ▸ ksv_one (HS.out _ hf.1)).any (by simp) HNF.out).mono ?_
              rintro e wf ⟨rfl, hbf⟩
              have hBf : Below W.heap.size W wf := below_then (hf.1.alloc hf.1.size _) hbf
              have eF := (hbf.block wr.heap.size (by have := (Array.getElem?_eq_some_iff.1 hf.2.1).1; simp; omega)).trans ((Below.heap_alloc _ _ _ (Array.getElem?_eq_some_iff.1 hf.2.1).1).trans hf.2.1)
              clear hbf hf hn0
              have hzf := hBf.size
              have eF1 := cell_of_blk eF 1
              simp at eF1
              have lF := (Array.getElem?_eq_some_iff.1 eF).1
              obtain ⟨⟨m0, m1, m2, m3⟩, lkf⟩ := HK.out wf hBf
              simp only [k99] at m0 m1 m2 m3
              clear eF
              go_wp2_with fail
              refine (unlock_stale s9 b 1 x.who (some ⟨wf.heap.size, 0, none⟩) [k99] _ ((HS.out _ hBf).alloc _) B9.out (ksv_one (HS.out _ hBf)) (by simp) (by simp) (HNU.out x.who (by exact HW5.out))).mono ?_
              rintro e wu ⟨rfl, hbu⟩
              have hBu : Below W.heap.size W wu := below_then (hBf.alloc hBf.size _) hbu
              obtain ⟨⟨u0, u1, u2, u3⟩, lku⟩ := HK.out wu hBu
              obtain ⟨v0, v1, v2, lvu⟩ := HV.out wu hBu
              simp only [k99] at u0 u1 u2 u3
              clear hbu m0 m1 m2 m3 lkf eF1 lF hzf
              go_wp2_with fail
              refine (still_g s9 b k99 5 9 text true _ (HS.out _ hBu) B9.out k99_ok).mono ?_
              rintro e wv ⟨rfl, hbv⟩
              rw [E5.out]
              have hBv : Below W.heap.size W wv := below_then hBu hbv
              obtain ⟨⟨u0, u1, u2, u3⟩, lku⟩ := HK.out wv hBv
              obtain ⟨v0, v1, v2, lvu⟩ := HV.out wv hBv
              simp only [k99] at u0 u1 u2 u3
              clear hbv
              go_wp2_with fail
              refine (still_g s9 b k99 6 9 text true _ (HS.out _ hBv) B9.out k99_ok).mono ?_
              rintro e wx ⟨rfl, hbx⟩
              rw [E6.out]
              have hBx : Below W.heap.size W wx := below_then hBv hbx
              go_wp2_with fail
              exact ⟨⟨j + 1, by omega, by go_num, hBx⟩, by simp [intOf]; omega⟩
            · have n5 : (x.kind != 5) = true := by simpa using h5
              have H5 := Lib.hid h5
              clear h5
              go_wp2_with fail
              refine calls_gen (StF W wr.heap.size wa.heap.size text { x with who := x.who, k := k99 }) (stays_u hBa hzW EA.out) ?_
              rintro u hf
              refine (does_held s9 b (wa.heap.size + 1) 1 60 (some ⟨wa.heap.size, 0, none⟩) [(k99, ⟨9, true, false, text, 5⟩)] ⟨9, true, false, text, 5⟩ { x with who := x.who, k := k99 } u (HS.out _ hf.1) B9.out hf.2.2 G9.out (lookL_one _ _) rfl (by exact fun e => HW5.out e.symm) k99_ok H2.out H5.out).mono ?_
              rintro e wd ⟨rfl, hbd⟩
              have hBd : Below W.heap.size W wd := hf.1.trans (hbd.mono hf.1.size)
              have eD := (hbd.block wr.heap.size (Array.getElem?_eq_some_iff.1 hf.2.1).1).trans hf.2.1
              obtain ⟨⟨k0, k1, k2, k3⟩, lkb⟩ := HK.out wd hBd
              simp only [k99] at k0 k1 k2 k3
              clear hbd hf
              go_wp2_with fail
              refine (free_none s9 b 1 (some ⟨wd.heap.size, 0, none⟩) [k99] _ ((HS.out _ hBd).alloc _) B9.out (ksv_one (HS.out _ hBd)).any (by simp) HNF.out).mono ?_
              rintro e wf ⟨rfl, hbf⟩
              have hBf : Below W.heap.size W wf := below_then (hBd.alloc hBd.size _) hbf
              have eF := (hbf.block wr.heap.size (by have := (Array.getElem?_eq_some_iff.1 eD).1; simp; omega)).trans ((Below.heap_alloc _ _ _ (Array.getElem?_eq_some_iff.1 eD).1).trans eD)
              clear hbf eD hBd
              have hzf := hBf.size
              have eF1 := cell_of_blk eF 1
              simp at eF1
              have lF := (Array.getElem?_eq_some_iff.1 eF).1
              obtain ⟨⟨m0, m1, m2, m3⟩, lkf⟩ := HK.out wf hBf
              simp only [k99] at m0 m1 m2 m3
              clear eF
              go_wp2_with fail
              refine (unlock_stale s9 b 1 x.who (some ⟨wf.heap.size, 0, none⟩) [k99] _ ((HS.out _ hBf).alloc _) B9.out (ksv_one (HS.out _ hBf)) (by simp) (by simp) (HNU.out x.who (by exact HW5.out))).mono ?_
              rintro e wu ⟨rfl, hbu⟩
              have hBu : Below W.heap.size W wu := below_then (hBf.alloc hBf.size _) hbu
              obtain ⟨⟨u0, u1, u2, u3⟩, lku⟩ := HK.out wu hBu
              obtain ⟨v0, v1, v2, lvu⟩ := HV.out wu hBu
              simp only [k99] at u0 u1 u2 u3
              clear hbu m0 m1 m2 m3 lkf eF1 lF hzf
              go_wp2_with fail
              refine (still_g s9 b k99 5 9 text true _ (HS.out _ hBu) B9.out k99_ok).mono ?_
              rintro e wv ⟨rfl, hbv⟩
              rw [E5.out]
              have hBv : Below W.heap.size W wv := below_then hBu hbv
              obtain ⟨⟨u0, u1, u2, u3⟩, lku⟩ := HK.out wv hBv
              obtain ⟨v0, v1, v2, lvu⟩ := HV.out wv hBv
              simp only [k99] at u0 u1 u2 u3
              clear hbv
              go_wp2_with fail
              refine (still_g s9 b k99 6 9 text true _ (HS.out _ hBv) B9.out k99_ok).mono ?_
              rintro e wx ⟨rfl, hbx⟩
              rw [E6.out]
              have hBx : Below W.heap.size W wx := below_then hBv hbx
              go_wp2_with fail
              exact ⟨⟨j + 1, by omega, by go_num, hBx⟩, by simp [intOf]; omega⟩
    · have hSr := hS9.below hbel
      have xr := x9.below hbel
      have yr := y9.below hbel
      clear HS HK HV HA FIN HNF HNU hbel hS9 x9 y9
      have k0 := xr.cell 0
      have k1 := xr.cell 1
      have k2 := xr.cell 2
      have k3 := xr.cell 3
      have lkb := xr.lt
      simp at k0 k1 k2 k3
      cases inst
      · go_wp2_with fail
        have hks := ksv_one hSr.st
        refine (unlock_ok s9 b 1 5 (some ⟨wr.heap.size, 0, none⟩) [k99] _ (hSr.st.alloc _) B9.out hks (by simp) (by simp) ?hyes (by rw [C9.out]; simp)).mono ?_
        case hyes =>
          intro i k hi hk
          have : i = 0 := by simp at hi; omega
          subst this
          simp at hk
          subst hk
          rw [G9.out]
          exact ⟨rfl, by simp⟩
        rintro e wi ⟨rfl, si, pi⟩
        have hSi := (hSr.alloc _).gpost pi
        have xi := (xr.alloc _).gpost pi
        have yi := (yr.alloc _).gpost pi
        have Gi : Hid (si.g k99 = some ⟨9, false, false, text, 5⟩) := Lib.hid (by rw [pi.g]; unfold unG; simp only [List.foldl_cons, List.foldl_nil]; unfold unStep; dsimp only; rw [G9.out]; simp [setG_same])
        have Bi : Hid (si.sb = b) := Lib.hid (pi.sb.trans B9.out)
        clear pi hSr xr yr k0 k1 k2 k3 lkb hks
        have k0 := xi.cell 0
        have k1 := xi.cell 1
        have k2 := xi.cell 2
        have k3 := xi.cell 3
        have lkb := xi.lt
        simp at k0 k1 k2 k3
        go_wp2_with fail
        refine (read_g si b k99 _ hSi.st Bi.out k99_ok).mono ?_
        rintro e wj ⟨rfl, hbj⟩
        rw [Gi.out]
        simp only [readV, Bool.false_eq_true, if_false, Bool.not_false]
        have hSj := hSi.below hbj
        have xj := xi.below hbj
        have yj := yi.below hbj
        clear hbj hSi xi yi k0 k1 k2 k3 lkb
        have k0 := xj.cell 0
        have k1 := xj.cell 1
        have k2 := xj.cell 2
        have k3 := xj.cell 3
        have lkb := xj.lt
        have v0 := yj.cell 0
        have v1 := yj.cell 1
        have v2 := yj.cell 2
        have lvb := yj.lt
        simp at k0 k1 k2 k3 v0 v1 v2
        go_wp2_with fail
        have F6 : Hid (stillV (si.g k99) 6 9 true = true) := Lib.hid (by rw [Gi.out]; simp [stillV])
        refine (still_g si b k99 6 9 text true _ (hSj.st.alloc _) Bi.out k99_ok).mono ?_
        rintro e wk ⟨rfl, hbk⟩
        rw [F6.out]
        have hSk := (hSj.alloc _).below hbk
        have xk := (xj.alloc _).below hbk
        clear hbk hSj xj yj k0 k1 k2 k3 lkb v0 v1 v2 lvb
        have k0 := xk.cell 0
        have k1 := xk.cell 1
        have k2 := xk.cell 2
        have k3 := xk.cell 3
        have lkb := xk.lt
        simp at k0 k1 k2 k3
        go_wp2_with fail
        refine (free_none si b 1 (some ⟨wk.heap.size, 0, none⟩) [k99] _ (hSk.st.alloc _) Bi.out (ksv_one hSk.st).any (by simp) (fun k x hk hx => by rw [List.mem_singleton.1 hk, Gi.out] at hx; cases hx; rfl)).mono ?_
        rintro e wl ⟨rfl, hbl⟩
        have hSl := (hSk.alloc _).below hbl
        go_wp2_with fail
        go_ret
        exact ⟨rfl, hSl.bel⟩
      · go_wp2_with fail
        refine (install_g s9 b k99 _ 5 10 0 ⟨#[]⟩ false _ hSr.st B9.out k99_ok G9.out rfl rfl (by unfold Sm; decide) (by show 9 < 10; omega) (.inr ⟨rfl, rfl⟩) (by decide)).mono ?_
        rintro e wi ⟨rfl, si, pi⟩
        have hSi := hSr.gpost pi
        have xi := xr.gpost pi
        have yi := yr.gpost pi
        have Gi : Hid (si.g k99 = some ⟨10, false, true, ⟨#[]⟩, 5⟩) := Lib.hid (by rw [pi.g, setG_same]; rfl)
        have Bi : Hid (si.sb = b) := Lib.hid (pi.sb.trans B9.out)
        have Ci : Hid (si.c = 0) := Lib.hid (pi.c.trans C9.out)
        have Ni : Hid (si.cnt = 1) := Lib.hid (by rw [pi.cnt, N9.out])
        clear pi hSr xr yr k0 k1 k2 k3 lkb
        have k0 := xi.cell 0
        have k1 := xi.cell 1
        have k2 := xi.cell 2
        have k3 := xi.cell 3
        have lkb := xi.lt
        simp at k0 k1 k2 k3
        go_wp2_with fail
        refine (read_g si b k99 _ hSi.st Bi.out k99_ok).mono ?_
        rintro e wj ⟨rfl, hbj⟩
        rw [Gi.out]
        simp only [readV, Bool.false_eq_true, if_false, Bool.not_true]
        have hSj := hSi.below hbj
        have xj := xi.below hbj
        have yj := yi.below hbj
        clear hbj hSi xi yi k0 k1 k2 k3 lkb
        have k0 := xj.cell 0
        have k1 := xj.cell 1
        have k2 := xj.cell 2
        have k3 := xj.cell 3
        have lkb := xj.lt
        have v0 := yj.cell 0
        have v1 := yj.cell 1
        have v2 := yj.cell 2
        have lvb := yj.lt
        simp at k0 k1 k2 k3 v0 v1 v2
        go_wp2_with fail
        have zj := Bx.new hSj.st (.cells #[.int .u64 10, .string ⟨#[]⟩, .bool false] 68)
        have F5 : Hid (stillV (si.g k99) 5 9 true = false) := Lib.hid (by rw [Gi.out]; simp [stillV])
        have F6 : Hid (stillV (si.g k99) 6 10 false = true) := Lib.hid (by rw [Gi.out]; simp [stillV])
        have F8 : Hid (stillV (si.g k99) 6 8 false = false) := Lib.hid (by rw [Gi.out]; simp [stillV])
        obtain ⟨zb, hzb⟩ : ∃ zb, wj.heap.size = zb := ⟨_, rfl⟩
        rw [hzb] at zj ⊢
        clear hzb
        refine (still_g si b k99 5 9 text true _ (hSj.st.alloc _) Bi.out k99_ok).mono ?_
        rintro e wk ⟨rfl, hbk⟩
        rw [F5.out]
        have hSk := (hSj.alloc _).below hbk
        have xk := (xj.alloc _).below hbk
        have zk := zj.below hbk
        clear hbk hSj xj yj zj k0 k1 k2 k3 lkb v0 v1 v2 lvb
        have k0 := xk.cell 0
        have k1 := xk.cell 1
        have k2 := xk.cell 2
        have k3 := xk.cell 3
        have lkb := xk.lt
        have z0 := zk.cell 0
        have z1 := zk.cell 1
        have z2 := zk.cell 2
        have lzb := zk.lt
        simp at k0 k1 k2 k3 z0 z1 z2
        go_wp2_with fail
        refine (still_g si b k99 6 10 ⟨#[]⟩ false _ hSk.st Bi.out k99_ok).mono ?_
        rintro e wl ⟨rfl, hbl⟩
        rw [F6.out]
        have hSl := hSk.below hbl
        have xl := xk.below hbl
        clear hbl hSk xk zk k0 k1 k2 k3 lkb z0 z1 z2 lzb
        have k0 := xl.cell 0
        have k1 := xl.cell 1
        have k2 := xl.cell 2
        have k3 := xl.cell 3
        have lkb := xl.lt
        simp at k0 k1 k2 k3
        go_wp2_with fail
        refine (still_g si b k99 6 8 ⟨#[]⟩ false _ hSl.st Bi.out k99_ok).mono ?_
        rintro e wm ⟨rfl, hbm⟩
        rw [F8.out]
        have hSm := hSl.below hbm
        have xm := xl.below hbm
        clear hbm hSl xl k0 k1 k2 k3 lkb
        have k0 := xm.cell 0
        have k1 := xm.cell 1
        have k2 := xm.cell 2
        have k3 := xm.cell 3
        have lkb := xm.lt
        simp at k0 k1 k2 k3
        go_wp2_with fail
        have hfg : freeG si.g [k99] = (setG si.g k99 none, 1) := by unfold freeG; simp only [List.foldl_cons, List.foldl_nil]; unfold freeStep; dsimp only; rw [Gi.out]; simp
        have hfr := free_list si b 1 (some ⟨wm.heap.size, 0, none⟩) [k99] _ (hSm.st.alloc _) Bi.out (ksv_one hSm.st) (by simp) (by rw [Ci.out]; simp)
        rw [hfg] at hfr
        clear hfg
        refine hfr.mono ?_
        clear hfr
        rintro e wn ⟨rfl, sn, pn⟩
        have hSn := (hSm.alloc _).gpost pn
        have Bn : sn.sb = b := pn.sb.trans Bi.out
        have hcnt : sn.cnt = 0 := by rw [pn.cnt, Ni.out]; rfl
        obtain ⟨n0, n1, nl, _⟩ := hSn.st.pre k99_ok
        rw [Bn] at n0 nl
        clear pn hSm xm k0 k1 k2 k3 lkb n1 Bn
        have HC := Lib.hid hcnt
        clear hcnt
        go_wp2_with fail
        refine (len_g sn _ hSn.st).mono ?_
        rintro e wo ⟨rfl, rfl⟩
        rw [HC.out]
        go_wp2_with fail
        go_ret
        exact ⟨rfl, hSn.bel⟩

set_option maxRecDepth 100000 in
set_option maxHeartbeats 1000000 in
theorem stays_long (text : ByteArray) (a1 : Option Addr) (len1 cap1 : Nat) (inst : Bool) (w : World) (h1 : text.size ≤ maxLen) (h2 : len1 ≤ maxLen) (h : 60 < len1 ∨ 200 < text.size) :
    Calls Try.prog 8 #[.string text, .slice a1 len1 cap1, .bool inst] w fun e w' => e = .returned (.bool true) ∧ Below w.heap.size w w' := by
  unfold maxLen at h1 h2
  by_cases g1 : len1 ≤ 60
  · have g2 : 200 < text.size := by omega
    clear h
    go_enter Try.func8, Try.ntmps8
    go_wp2_with fail
    refine (awake9_any _).mono ?_
    rintro e w1 ⟨rfl, hb1⟩
    go_wp2_with fail
    refine (awake9_any _).mono ?_
    rintro e w2 ⟨rfl, hb2⟩
    go_wp2_with fail
    go_ret
    exact ⟨rfl, below_then hb1 hb2⟩
  · clear h
    go_enter Try.func8, Try.ntmps8
    go_wp2_with fail
    refine (awake9_any _).mono ?_
    rintro e w1 ⟨rfl, hb1⟩
    go_wp2_with fail
    refine (awake9_any _).mono ?_
    rintro e w2 ⟨rfl, hb2⟩
    go_wp2_with fail
    go_ret
    exact ⟨rfl, below_then hb1 hb2⟩
end Go.Proofs.Ytfkckdfldalceaa
