/- cobwebref14.write. Conditions: each contract's own premises. -/
import Derived.Test.YtcghgnncmnoalaaRp4
import Derived.Test.YtcghgnncmnoalaaRowL
import Derived.Deep.QuietTactic
import Derived.BigQuiet
namespace Go.Proofs.Ytcghgnncmnoalaa
open Go.RowKit Go.Maps

theorem below_grownWr {w w' : World} {B : Nat} {v : Value} {l : List Wr} (h : kW.Own w B v l) (hg : w.grownBy w' v.ownBlock) (hB : B ≤ w.heap.size) : Below B w w' :=
  ⟨hg.os, hg.tape, hg.output, hg.size, fun k hk => hg.block k (by omega) (fun e => by have := (h.lt k e.symm).1; omega)⟩
/-- in a round of write -/
structure LayI (W wr : World) (w : Wr) (l out : List Wr) (d : Bool) (i : Nat) (v : Value) : Prop where
  b : Below W.heap.size W wr
  o : kW.Own wr W.heap.size v out
  e : out ++ wlay w d (l.drop i) = wput l w
  n : out.length ≤ 2 * i
def Write14Post (w : World) (l : List Wr) (x : Wr) (e : Ending) (w' : World) : Prop := ∃ v, e = .returned v ∧ kW.Own w' w.heap.size v (wput l x) ∧ Below w.heap.size w w'
theorem drop_cons {l : List Wr} {i : Nat} {y : Wr} (hy : l[i]? = some y) : l.drop i = y :: l.drop (i + 1) := by
  obtain ⟨hk', e⟩ := List.getElem?_eq_some_iff.1 hy
  rw [List.drop_eq_getElem_cons hk', e]
set_option maxRecDepth 100000 in
set_option maxHeartbeats 8000000 in
theorem r14write_any (a : Option Addr) (cap : Nat) (l : List Wr) (x : Wr) (w : World) (h : kW.V w a l) (hk : ∀ y ∈ l, y.k.s.size ≤ maxLen) (hl : l.length ≤ 1000000) :
    Calls Try.prog 119 #[.slice a l.length cap, .agg #[.int .i64 x.k.kind, .int .i64 x.k.a, .int .i64 x.k.b, .string x.k.s, .string x.val, .bool x.has]] w (Write14Post w l x) := by
  obtain ⟨W, hW⟩ : ∃ W, w.alloc (.cells #[.int .i64 x.k.kind, .int .i64 x.k.a, .int .i64 x.k.b, .string x.k.s, .string x.val, .bool x.has] 80) = W := ⟨_, rfl⟩
  obtain ⟨xb, hxb⟩ : ∃ z, z = w.heap.size := ⟨_, rfl⟩
  have bW : Below w.heap.size w W := by rw [← hW]; exact below_box _ _
  have eW : W.heap[xb]? = some (.cells #[.int .i64 x.k.kind, .int .i64 x.k.a, .int .i64 x.k.b, .string x.k.s, .string x.val, .bool x.has] 80) := by rw [← hW, hxb]; exact heap_new _ _
  have HL := Lib.hid (h.below bW)
  have HKS := Lib.hid hk
  have HE := Lib.hid eW
  have HBW := Lib.hid bW
  have HW := Lib.hid (And.intro hW hxb)
  have HLL := Lib.hid hl
  obtain ⟨n, hn⟩ : ∃ n, n = l.length := ⟨_, rfl⟩
  rw [← hn]
  have HN := Lib.hid hn
  have hn6 : n ≤ 1000000 := by rw [hn]; exact hl
  have HXB : Hid (∀ u, Below W.heap.size W u → u.heap[xb]? = some (.cells #[.int .i64 x.k.kind, .int .i64 x.k.a, .int .i64 x.k.b, .string x.k.s, .string x.val, .bool x.has] 80)) := Lib.hid (fun u hu => (hu.block _ (Array.getElem?_eq_some_iff.1 eW).1).trans eW)
  have z5 := cell_of_blk eW 5
  simp at z5
  clear h hk hl bW eW hW hxb hn
  go_enter Try.func119, Try.ntmps119
  go_upto_region 1 with fail
  rw [HW.out.1, ← HW.out.2]
  have HI0 : Hid (LayI W W x l [] (!x.has) 0 (.slice none 0 0)) := Lib.hid ⟨Below.refl _ _, RowK.Own.nil kW _ _, rfl, Nat.zero_le _⟩
  obtain ⟨xh, hxh⟩ : ∃ q, x.has = q := ⟨_, rfl⟩
  rw [hxh] at HI0 z5
  have HXH := Lib.hid hxh
  clear hxh
  go_wp2_with fail
  clear z5
  go_loopw [5, 6, 7] (fun s5 s6 vi wr => ∃ i : Nat, i ≤ n ∧ vi = .int .i64 i ∧ ∃ d v5, s6 = .bool d ∧ v5 = s5 ∧ Hid (∃ out, LayI W wr x l out d i v5)) (fun _ _ vi _ => n - (intOf vi).toNat)
  case atStart => exact ⟨0, Nat.zero_le _, rfl, _, _, rfl, rfl, Lib.hid ⟨[], HI0.out⟩⟩
  case round =>
    obtain ⟨i, hi, rfl, d, v5, rfl, rfl, HIX⟩ := hrel
    obtain ⟨out, hI⟩ := HIX.out
    have HI := Lib.hid hI
    obtain ⟨oa, oc, hos⟩ := hI.o.shape
    obtain ⟨on, hon⟩ : ∃ on, on = out.length := ⟨_, rfl⟩
    rw [← hon] at hos
    subst hos
    have HON := Lib.hid hon
    have HOL : Hid (out.length ≤ 2 * i) := Lib.hid hI.n
    have HLN : Hid (out.length + 1 ≤ 4000000) := Lib.hid (by have := hI.n; omega)
    have HLN2 : Hid ((out ++ [x]).length + 1 ≤ 4000000) := Lib.hid (by have := hI.n; rw [List.length_append]; simp only [List.length_cons, List.length_nil]; omega)
    clear hI hon HIX
    by_cases hlt : i < n
    · have hltz : (i : Int) < (n : Int) := by omega
      obtain ⟨y, hy⟩ : ∃ y, l[i]? = some y := ⟨_, List.getElem?_eq_getElem (by have := HN.out; omega)⟩
      obtain ⟨b, off, hae, hat⟩ := HL.out (fun e => by rw [e] at hy; simp at hy)
      subst hae
      have HYS := Lib.hid (HKS.out y (List.mem_of_getElem? hy))
      have HAT : Hid (∀ u, Below W.heap.size W u → u.cell? ⟨b, off + i * 6, none⟩ = some (.int .i64 y.k.kind) ∧ u.cell? ⟨b, off + i * 6 + 1, none⟩ = some (.int .i64 y.k.a) ∧ u.cell? ⟨b, off + i * 6 + 2, none⟩ = some (.int .i64 y.k.b) ∧ u.cell? ⟨b, off + i * 6 + 3, none⟩ = some (.string y.k.s) ∧ u.cell? ⟨b, off + i * 6 + 4, none⟩ = some (.string y.val) ∧ u.cell? ⟨b, off + i * 6 + 5, none⟩ = some (.bool y.has)) := Lib.hid (fun u hu => by
        have h9 := (hat.below hu).cells i y hy
        exact ⟨h9 0 _ rfl, h9 1 _ rfl, h9 2 _ rfl, h9 3 _ rfl, h9 4 _ rfl, h9 5 _ rfl⟩)
      have HEQ : Hid (out ++ wlay x d (y :: l.drop (i + 1)) = wput l x) := Lib.hid (by rw [← drop_cons hy]; exact HI.out.e)
      obtain ⟨cc, hcc⟩ : ∃ c, y.k.cmp x.k = c := ⟨_, rfl⟩
      have HCC := Lib.hid hcc
      have KS : Hid (∀ u, Below W.heap.size W u → (fun w' : World => Below W.heap.size W w' ∧ w'.cell? ⟨b, off + i * 6, none⟩ = some (.int .i64 y.k.kind) ∧ w'.cell? ⟨b, off + i * 6 + 1, none⟩ = some (.int .i64 y.k.a) ∧ w'.cell? ⟨b, off + i * 6 + 2, none⟩ = some (.int .i64 y.k.b) ∧ w'.cell? ⟨b, off + i * 6 + 3, none⟩ = some (.string y.k.s) ∧ w'.cell? ⟨xb, 0, none⟩ = some (.int .i64 x.k.kind) ∧ w'.cell? ⟨xb, 1, none⟩ = some (.int .i64 x.k.a) ∧ w'.cell? ⟨xb, 2, none⟩ = some (.int .i64 x.k.b) ∧ w'.cell? ⟨xb, 3, none⟩ = some (.string x.k.s)) u) := Lib.hid (fun u hu => by
        obtain ⟨p0, p1, p2, p3, _, _⟩ := HAT.out u hu
        have e9 := HXB.out u hu
        exact ⟨hu, p0, p1, p2, p3, by simpa using cell_of_blk e9 0, by simpa using cell_of_blk e9 1, by simpa using cell_of_blk e9 2, by simpa using cell_of_blk e9 3⟩)
      clear hy hat hcc
      go_upto_region 6 with fail
      refine wp_region_held_drew (S := (fun w' : World => Below W.heap.size W w' ∧ w'.cell? ⟨b, off + i * 6, none⟩ = some (.int .i64 y.k.kind) ∧ w'.cell? ⟨b, off + i * 6 + 1, none⟩ = some (.int .i64 y.k.a) ∧ w'.cell? ⟨b, off + i * 6 + 2, none⟩ = some (.int .i64 y.k.b) ∧ w'.cell? ⟨b, off + i * 6 + 3, none⟩ = some (.string y.k.s) ∧ w'.cell? ⟨xb, 0, none⟩ = some (.int .i64 x.k.kind) ∧ w'.cell? ⟨xb, 1, none⟩ = some (.int .i64 x.k.a) ∧ w'.cell? ⟨xb, 2, none⟩ = some (.int .i64 x.k.b) ∧ w'.cell? ⟨xb, 3, none⟩ = some (.string x.k.s))) (by kernel_rfl) (KS.out _ (below_drewN HI.out.b 1)) (fun hHeld => ?_)
      obtain ⟨X, hGen⟩ : ∃ u, u = World.drew wr := ⟨_, rfl⟩
      rw [← hGen] at hHeld ⊢
      have bX : Below wr.heap.size wr X := by rw [hGen]; exact below_drewN (Below.refl _ _) 1
      have HBX0 := Lib.hid bX
      clear bX
      clear hGen
      refine wpAnyH_take (i := 0) (oi := ⟨some 18, _, _, _, _, _⟩) (v := ?vvrp1) rfl (by kernel_rfl) (by kernel_rfl) (by kernel_rfl) (fun _ _ _ h => h) (Or.inl ⟨by rfl, ?yyrp1⟩) hHeld ?rrrp1
      case yyrp1 => (intro wq hSw; (try dsimp only at hSw); go_simp; first | done | with_reducible rfl)
      simp only [Act.put, List.setIfInBounds_toArray, List.set_cons_zero, List.set_cons_succ]
      refine wpAnyH_take (i := 1) (oi := ⟨some 19, _, _, _, _, _⟩) (v := ?vvrp2) rfl (by kernel_rfl) (by kernel_rfl) (by kernel_rfl) (fun _ _ _ h => h) (Or.inl ⟨by rfl, ?yyrp2⟩) hHeld ?rrrp2
      case yyrp2 => (intro wq hSw; (try dsimp only at hSw); go_simp; first | done | with_reducible rfl)
      simp only [Act.put, List.setIfInBounds_toArray, List.set_cons_zero, List.set_cons_succ]
      refine wpAnyH_take (i := 2) (oi := ⟨some 20, _, _, _, _, _⟩) (v := ?vvrp3) rfl (by kernel_rfl) (by kernel_rfl) (by kernel_rfl) (fun _ _ _ h => h) (Or.inl ⟨by rfl, ?yyrp3⟩) hHeld ?rrrp3
      case yyrp3 => (intro wq hSw; (try dsimp only at hSw); go_simp; first | done | with_reducible rfl)
      simp only [Act.put, List.setIfInBounds_toArray, List.set_cons_zero, List.set_cons_succ]
      refine wpAnyH_take (i := 3) (oi := ⟨some 21, _, _, _, _, _⟩) (v := ?vvrp4) rfl (by kernel_rfl) (by kernel_rfl) (by kernel_rfl) (fun _ _ _ h => h) (Or.inl ⟨by rfl, ?yyrp4⟩) hHeld ?rrrp4
      case yyrp4 => (intro wq hSw; (try dsimp only at hSw); go_simp; first | done | with_reducible rfl)
      simp only [Act.put, List.setIfInBounds_toArray, List.set_cons_zero, List.set_cons_succ]
      refine wpAnyH_take (i := 4) (oi := ⟨some 22, _, _, _, _, _⟩) (v := ?vvrp5) rfl (by kernel_rfl) (by kernel_rfl) (by kernel_rfl) (fun _ _ _ h => h) (Or.inl ⟨by rfl, ?yyrp5⟩) hHeld ?rrrp5
      case yyrp5 => (intro wq hSw; (try dsimp only at hSw); go_simp; first | done | with_reducible rfl)
      simp only [Act.put, List.setIfInBounds_toArray, List.set_cons_zero, List.set_cons_succ]
      refine wpAnyH_take (i := 5) (oi := ⟨some 23, _, _, _, _, _⟩) (v := ?vvrp6) rfl (by kernel_rfl) (by kernel_rfl) (by kernel_rfl) (fun _ _ _ h => h) (Or.inl ⟨by rfl, ?yyrp6⟩) hHeld ?rrrp6
      case yyrp6 => (intro wq hSw; (try dsimp only at hSw); go_simp; first | done | with_reducible rfl)
      simp only [Act.put, List.setIfInBounds_toArray, List.set_cons_zero, List.set_cons_succ]
      refine wpAnyH_take (i := 6) (oi := ⟨some 24, _, _, _, _, _⟩) (v := ?vvrp7) rfl (by kernel_rfl) (by kernel_rfl) (by kernel_rfl) (fun _ _ _ h => h) (Or.inl ⟨by rfl, ?yyrp7⟩) hHeld ?rrrp7
      case yyrp7 => (intro wq hSw; (try dsimp only at hSw); go_simp; first | done | with_reducible rfl)
      simp only [Act.put, List.setIfInBounds_toArray, List.set_cons_zero, List.set_cons_succ]
      refine wpAnyH_ready (rs := [7]) (by kernel_rfl) (by simp) ?_
      refine AllReadyH.cons (o := ⟨some 25, _, _, _, _, _⟩) rfl (fun K hK => ?_) AllReadyH.nil
      go_simp
      have hB0 := hHeld.1
      try dsimp only at hB0
      refine (r9order_any y.k x.k _ HYS.out).mono ?_
      rintro e n25 ⟨rfl, hb25⟩
      rw [HCC.out]
      have hbn := below_then hB0 hb25
      have HWB := Lib.hid (below_then HBX0.out hb25)
      clear hb25
      go_wp2_with fail
      refine hK.out _ _ ?ssrp8 (fun hHeld => ?_)
      case ssrp8 => (exact KS.out _ hbn)
      clear hK K
      try simp only [Act.put, List.setIfInBounds_toArray, List.set_cons_zero, List.set_cons_succ]
      refine wpAnyH_take (i := 8) (oi := ⟨some 8, _, _, _, _, _⟩) (v := ?vvrp9) rfl (by kernel_rfl) (by kernel_rfl) (by kernel_rfl) (fun _ _ _ h => h) (Or.inl ⟨by rfl, ?yyrp9⟩) hHeld ?rrrp9
      case yyrp9 => (intro wq hSw; (try dsimp only at hSw); go_simp; first | done | with_reducible rfl)
      simp only [Act.put, List.setIfInBounds_toArray, List.set_cons_zero, List.set_cons_succ]
      refine wpAnyH_done (by kernel_rfl) ?_ _
      clear hHeld
      rcases Int.lt_trichotomy cc 0 with hc | hc | hc
      · have HCV := Lib.hid hc
        have t1 : decide ((0 : Int) < cc) = false := decide_eq_false (by omega)
        have t2 : (cc == 0) = false := Bool.eq_false_iff.2 (fun h => by have := eq_of_beq h; omega)
        clear hc
        cases d
        · skip
          have HBX := Lib.hid hbn
          have HOX := Lib.hid (HI.out.o.below HWB.out)
          obtain ⟨y0, y1, y2, y3, y4, y5⟩ := HAT.out _ HBX.out
          obtain ⟨Z, hZ⟩ : ∃ Z, n25.alloc (.cells #[.int .i64 y.k.kind, .int .i64 y.k.a, .int .i64 y.k.b, .string y.k.s, .string y.val, .bool y.has] 80) = Z := ⟨_, rfl⟩
          obtain ⟨zb, hzb⟩ : ∃ z, z = n25.heap.size := ⟨_, rfl⟩
          have bZ : Below n25.heap.size n25 Z := by rw [← hZ]; exact below_box _ _
          have eZ : Z.heap[zb]? = some (.cells #[.int .i64 y.k.kind, .int .i64 y.k.a, .int .i64 y.k.b, .string y.k.s, .string y.val, .bool y.has] 80) := by rw [← hZ, hzb]; exact heap_new _ _
          have HOZ := Lib.hid (HOX.out.below bZ)
          have HBZ := Lib.hid (below_then HBX.out bZ)
          have HVZ : Hid (kW.V Z (some ⟨zb, 0, none⟩) [y]) := Lib.hid (fun _ => ⟨_, 0, rfl, RowK.new_at (k := kW) eZ rfl⟩)
          have HZ := Lib.hid (And.intro hZ hzb)
          clear bZ eZ hZ hzb
          go_wp2_with (at_builtin; rw [HZ.out.1, ← HZ.out.2]; refine RowK.wpList_app (k := kW) (B := W.heap.size) (v := .slice oa on oc) (l := out) rfl (.tmp 44) (.tmp 49) rfl rfl HOZ.out (some ⟨zb, 0, none⟩) 1 [y] 1 rfl rfl HVZ.out (fun e => by cases e) HLN.out HBZ.out.size ?_; rintro v9 w9 h9; have H9 := Lib.hid h9; clear h9)
          refine ⟨⟨i + 1, by omega, by go_num, _, _, rfl, rfl, Lib.hid ⟨out ++ [y], ⟨HBZ.out.trans (below_grownWr HOZ.out H9.out.2.1 HBZ.out.size), H9.out.1, ?_, by rw [List.length_append]; have := HOL.out; simp only [List.length_cons, List.length_nil]; omega⟩⟩⟩, by simp [intOf]; omega⟩
          rw [← HEQ.out, List.append_assoc]
          congr 1
          have hcx := HCC.out
          show y :: wlay x false (l.drop (i + 1)) = wlay x false (y :: l.drop (i + 1))
          conv => rhs; unfold wlay
          rw [hcx, if_neg (by have := HCV.out; omega), if_neg (by have := HCV.out; omega)]
        · skip
          have HBX := Lib.hid hbn
          have HOX := Lib.hid (HI.out.o.below HWB.out)
          obtain ⟨y0, y1, y2, y3, y4, y5⟩ := HAT.out _ HBX.out
          obtain ⟨Z, hZ⟩ : ∃ Z, n25.alloc (.cells #[.int .i64 y.k.kind, .int .i64 y.k.a, .int .i64 y.k.b, .string y.k.s, .string y.val, .bool y.has] 80) = Z := ⟨_, rfl⟩
          obtain ⟨zb, hzb⟩ : ∃ z, z = n25.heap.size := ⟨_, rfl⟩
          have bZ : Below n25.heap.size n25 Z := by rw [← hZ]; exact below_box _ _
          have eZ : Z.heap[zb]? = some (.cells #[.int .i64 y.k.kind, .int .i64 y.k.a, .int .i64 y.k.b, .string y.k.s, .string y.val, .bool y.has] 80) := by rw [← hZ, hzb]; exact heap_new _ _
          have HOZ := Lib.hid (HOX.out.below bZ)
          have HBZ := Lib.hid (below_then HBX.out bZ)
          have HVZ : Hid (kW.V Z (some ⟨zb, 0, none⟩) [y]) := Lib.hid (fun _ => ⟨_, 0, rfl, RowK.new_at (k := kW) eZ rfl⟩)
          have HZ := Lib.hid (And.intro hZ hzb)
          clear bZ eZ hZ hzb
          go_wp2_with (at_builtin; rw [HZ.out.1, ← HZ.out.2]; refine RowK.wpList_app (k := kW) (B := W.heap.size) (v := .slice oa on oc) (l := out) rfl (.tmp 44) (.tmp 49) rfl rfl HOZ.out (some ⟨zb, 0, none⟩) 1 [y] 1 rfl rfl HVZ.out (fun e => by cases e) HLN.out HBZ.out.size ?_; rintro v9 w9 h9; have H9 := Lib.hid h9; clear h9)
          refine ⟨⟨i + 1, by omega, by go_num, _, _, rfl, rfl, Lib.hid ⟨out ++ [y], ⟨HBZ.out.trans (below_grownWr HOZ.out H9.out.2.1 HBZ.out.size), H9.out.1, ?_, by rw [List.length_append]; have := HOL.out; simp only [List.length_cons, List.length_nil]; omega⟩⟩⟩, by simp [intOf]; omega⟩
          rw [← HEQ.out, List.append_assoc]
          congr 1
          have hcx := HCC.out
          show y :: wlay x true (l.drop (i + 1)) = wlay x true (y :: l.drop (i + 1))
          conv => rhs; unfold wlay
          rw [hcx, if_neg (by exact fun h => by cases h.2), if_neg (by have := HCV.out; omega)]
      · have HCV := Lib.hid hc
        subst hc
        cases d
        · skip
          have HBX := Lib.hid hbn
          have HOX := Lib.hid (HI.out.o.below HWB.out)
          have HCX := Lib.hid (HXB.out _ HBX.out)
          have x0 := cell_of_blk HCX.out 0
          have x1 := cell_of_blk HCX.out 1
          have x2 := cell_of_blk HCX.out 2
          have x3 := cell_of_blk HCX.out 3
          have x4 := cell_of_blk HCX.out 4
          have x5 := cell_of_blk HCX.out 5
          simp at x0 x1 x2 x3 x4 x5
          obtain ⟨Z, hZ⟩ : ∃ Z, n25.alloc (.cells #[.int .i64 x.k.kind, .int .i64 x.k.a, .int .i64 x.k.b, .string x.k.s, .string x.val, .bool x.has] 80) = Z := ⟨_, rfl⟩
          obtain ⟨zb, hzb⟩ : ∃ z, z = n25.heap.size := ⟨_, rfl⟩
          have bZ : Below n25.heap.size n25 Z := by rw [← hZ]; exact below_box _ _
          have eZ : Z.heap[zb]? = some (.cells #[.int .i64 x.k.kind, .int .i64 x.k.a, .int .i64 x.k.b, .string x.k.s, .string x.val, .bool x.has] 80) := by rw [← hZ, hzb]; exact heap_new _ _
          have HOZ := Lib.hid (HOX.out.below bZ)
          have HBZ := Lib.hid (below_then HBX.out bZ)
          have HVZ : Hid (kW.V Z (some ⟨zb, 0, none⟩) [x]) := Lib.hid (fun _ => ⟨_, 0, rfl, RowK.new_at (k := kW) eZ rfl⟩)
          have HZ := Lib.hid (And.intro hZ hzb)
          clear bZ eZ hZ hzb
          go_wp2_with (at_builtin; rw [HZ.out.1, ← HZ.out.2]; refine RowK.wpList_app (k := kW) (B := W.heap.size) (v := .slice oa on oc) (l := out) rfl (.tmp 40) (.tmp 42) rfl rfl HOZ.out (some ⟨zb, 0, none⟩) 1 [x] 1 rfl rfl HVZ.out (fun e => by cases e) HLN.out HBZ.out.size ?_; rintro v9 w9 h9; have H9 := Lib.hid h9; clear h9)
          refine ⟨⟨i + 1, by omega, by go_num, _, _, rfl, rfl, Lib.hid ⟨out ++ [x], ⟨HBZ.out.trans (below_grownWr HOZ.out H9.out.2.1 HBZ.out.size), H9.out.1, ?_, by rw [List.length_append]; have := HOL.out; simp only [List.length_cons, List.length_nil]; omega⟩⟩⟩, by simp [intOf]; omega⟩
          rw [← HEQ.out, List.append_assoc]
          congr 1
          have hcx := HCC.out
          conv => rhs; unfold wlay
          rw [hcx, if_neg (by have := HCV.out; omega), if_pos HCV.out, if_neg (by decide)]; rfl
        · skip
          have HOX := Lib.hid (HI.out.o.below HWB.out)
          have HBX := Lib.hid hbn
          go_wp2_with fail
          refine ⟨⟨i + 1, by omega, by go_num, _, _, rfl, rfl, Lib.hid ⟨out, ⟨HBX.out, HOX.out, ?_, by have := HOL.out; omega⟩⟩⟩, by simp [intOf]; omega⟩
          rw [← HEQ.out]
          congr 1
          have hcx := HCC.out
          conv => rhs; unfold wlay
          rw [hcx, if_neg (by exact fun h => by cases h.2), if_pos HCV.out, if_pos rfl]
      · have HCV := Lib.hid hc
        have t1 : decide ((0 : Int) < cc) = true := decide_eq_true (by omega)
        have t2 : (cc == 0) = false := Bool.eq_false_iff.2 (fun h => by have := eq_of_beq h; omega)
        clear hc
        cases d
        · skip
          have HBX := Lib.hid hbn
          have HOX := Lib.hid (HI.out.o.below HWB.out)
          have HCX := Lib.hid (HXB.out _ HBX.out)
          have x0 := cell_of_blk HCX.out 0
          have x1 := cell_of_blk HCX.out 1
          have x2 := cell_of_blk HCX.out 2
          have x3 := cell_of_blk HCX.out 3
          have x4 := cell_of_blk HCX.out 4
          have x5 := cell_of_blk HCX.out 5
          simp at x0 x1 x2 x3 x4 x5
          obtain ⟨Z, hZ⟩ : ∃ Z, n25.alloc (.cells #[.int .i64 x.k.kind, .int .i64 x.k.a, .int .i64 x.k.b, .string x.k.s, .string x.val, .bool x.has] 80) = Z := ⟨_, rfl⟩
          obtain ⟨zb, hzb⟩ : ∃ z, z = n25.heap.size := ⟨_, rfl⟩
          have bZ : Below n25.heap.size n25 Z := by rw [← hZ]; exact below_box _ _
          have eZ : Z.heap[zb]? = some (.cells #[.int .i64 x.k.kind, .int .i64 x.k.a, .int .i64 x.k.b, .string x.k.s, .string x.val, .bool x.has] 80) := by rw [← hZ, hzb]; exact heap_new _ _
          have HOZ := Lib.hid (HOX.out.below bZ)
          have HBZ := Lib.hid (below_then HBX.out bZ)
          have HVZ : Hid (kW.V Z (some ⟨zb, 0, none⟩) [x]) := Lib.hid (fun _ => ⟨_, 0, rfl, RowK.new_at (k := kW) eZ rfl⟩)
          have HZ := Lib.hid (And.intro hZ hzb)
          clear bZ eZ hZ hzb
          go_upto_region 10 with (at_builtin; rw [HZ.out.1, ← HZ.out.2]; refine RowK.wpList_app (k := kW) (B := W.heap.size) (v := .slice oa on oc) (l := out) rfl (.tmp 32) (.tmp 34) rfl rfl HOZ.out (some ⟨zb, 0, none⟩) 1 [x] 1 rfl rfl HVZ.out (fun e => by cases e) HLN.out HBZ.out.size ?_; rintro v9 w9 h9; obtain ⟨pa, pc, hps⟩ := h9.1.shape; obtain ⟨pn, hpn⟩ : ∃ pn, pn = (out ++ [x]).length := ⟨_, rfl⟩; rw [← hpn] at hps; subst hps; have HPN := Lib.hid hpn; have H9 := Lib.hid h9; clear h9 hpn)
          clear x0 x1 x2 x3 x4 x5
          have HB9 : Hid (Below W.heap.size W w9) := Lib.hid (HBZ.out.trans (below_grownWr HOZ.out H9.out.2.1 HBZ.out.size))
          have HO9 : Hid (kW.Own w9 W.heap.size (.slice pa pn pc) (out ++ [x])) := Lib.hid H9.out.1
          obtain ⟨y0, y1, y2, y3, y4, y5⟩ := HAT.out _ HB9.out
          obtain ⟨Z2, hZ⟩ : ∃ Z, w9.alloc (.cells #[.int .i64 y.k.kind, .int .i64 y.k.a, .int .i64 y.k.b, .string y.k.s, .string y.val, .bool y.has] 80) = Z := ⟨_, rfl⟩
          obtain ⟨zb2, hzb⟩ : ∃ z, z = w9.heap.size := ⟨_, rfl⟩
          have bZ : Below w9.heap.size w9 Z2 := by rw [← hZ]; exact below_box _ _
          have eZ : Z2.heap[zb2]? = some (.cells #[.int .i64 y.k.kind, .int .i64 y.k.a, .int .i64 y.k.b, .string y.k.s, .string y.val, .bool y.has] 80) := by rw [← hZ, hzb]; exact heap_new _ _
          have HOZ2 := Lib.hid (HO9.out.below bZ)
          have HBZ2 := Lib.hid (below_then HB9.out bZ)
          have HVZ2 : Hid (kW.V Z2 (some ⟨zb2, 0, none⟩) [y]) := Lib.hid (fun _ => ⟨_, 0, rfl, RowK.new_at (k := kW) eZ rfl⟩)
          have HZ2 := Lib.hid (And.intro hZ hzb)
          clear bZ eZ hZ hzb
          go_wp2_with (at_builtin; rw [HZ2.out.1, ← HZ2.out.2]; refine RowK.wpList_app (k := kW) (B := W.heap.size) (v := .slice pa pn pc) (l := out ++ [x]) rfl (.tmp 44) (.tmp 49) rfl rfl HOZ2.out (some ⟨zb2, 0, none⟩) 1 [y] 1 rfl rfl HVZ2.out (fun e => by cases e) HLN2.out HBZ2.out.size ?_; rintro v8 w8 h8; have H8 := Lib.hid h8; clear h8)
          refine ⟨⟨i + 1, by omega, by go_num, _, _, rfl, rfl, Lib.hid ⟨out ++ [x] ++ [y], ⟨HBZ2.out.trans (below_grownWr HOZ2.out H8.out.2.1 HBZ2.out.size), H8.out.1, ?_, by rw [List.length_append, List.length_append]; have := HOL.out; simp only [List.length_cons, List.length_nil]; omega⟩⟩⟩, by simp [intOf]; omega⟩
          rw [← HEQ.out, List.append_assoc, List.append_assoc]
          congr 1
          have hcx := HCC.out
          conv => rhs; unfold wlay
          rw [hcx, if_pos ⟨HCV.out, rfl⟩]; rfl
        · skip
          have HBX := Lib.hid hbn
          have HOX := Lib.hid (HI.out.o.below HWB.out)
          obtain ⟨y0, y1, y2, y3, y4, y5⟩ := HAT.out _ HBX.out
          obtain ⟨Z, hZ⟩ : ∃ Z, n25.alloc (.cells #[.int .i64 y.k.kind, .int .i64 y.k.a, .int .i64 y.k.b, .string y.k.s, .string y.val, .bool y.has] 80) = Z := ⟨_, rfl⟩
          obtain ⟨zb, hzb⟩ : ∃ z, z = n25.heap.size := ⟨_, rfl⟩
          have bZ : Below n25.heap.size n25 Z := by rw [← hZ]; exact below_box _ _
          have eZ : Z.heap[zb]? = some (.cells #[.int .i64 y.k.kind, .int .i64 y.k.a, .int .i64 y.k.b, .string y.k.s, .string y.val, .bool y.has] 80) := by rw [← hZ, hzb]; exact heap_new _ _
          have HOZ := Lib.hid (HOX.out.below bZ)
          have HBZ := Lib.hid (below_then HBX.out bZ)
          have HVZ : Hid (kW.V Z (some ⟨zb, 0, none⟩) [y]) := Lib.hid (fun _ => ⟨_, 0, rfl, RowK.new_at (k := kW) eZ rfl⟩)
          have HZ := Lib.hid (And.intro hZ hzb)
          clear bZ eZ hZ hzb
          go_wp2_with (at_builtin; rw [HZ.out.1, ← HZ.out.2]; refine RowK.wpList_app (k := kW) (B := W.heap.size) (v := .slice oa on oc) (l := out) rfl (.tmp 44) (.tmp 49) rfl rfl HOZ.out (some ⟨zb, 0, none⟩) 1 [y] 1 rfl rfl HVZ.out (fun e => by cases e) HLN.out HBZ.out.size ?_; rintro v9 w9 h9; have H9 := Lib.hid h9; clear h9)
          refine ⟨⟨i + 1, by omega, by go_num, _, _, rfl, rfl, Lib.hid ⟨out ++ [y], ⟨HBZ.out.trans (below_grownWr HOZ.out H9.out.2.1 HBZ.out.size), H9.out.1, ?_, by rw [List.length_append]; have := HOL.out; simp only [List.length_cons, List.length_nil]; omega⟩⟩⟩, by simp [intOf]; omega⟩
          rw [← HEQ.out, List.append_assoc]
          congr 1
          have hcx := HCC.out
          show y :: wlay x true (l.drop (i + 1)) = wlay x true (y :: l.drop (i + 1))
          conv => rhs; unfold wlay
          rw [hcx, if_neg (by exact fun h => by cases h.2), if_neg (by have := HCV.out; omega)]
    · obtain rfl : i = n := by omega
      have HFE : Hid (out ++ (if d = true then [] else [x]) = wput l x) := Lib.hid (by
        have h9 := HI.out.e
        rw [List.drop_eq_nil_of_le (by rw [← HN.out]; exact Nat.le_refl _)] at h9
        unfold wlay at h9
        exact h9)
      cases d
      · have HBX := Lib.hid HI.out.b
        have HOX := Lib.hid HI.out.o
        have HCX := Lib.hid (HXB.out _ HI.out.b)
        have x0 := cell_of_blk HCX.out 0
        have x1 := cell_of_blk HCX.out 1
        have x2 := cell_of_blk HCX.out 2
        have x3 := cell_of_blk HCX.out 3
        have x4 := cell_of_blk HCX.out 4
        have x5 := cell_of_blk HCX.out 5
        simp at x0 x1 x2 x3 x4 x5
        obtain ⟨Z, hZ⟩ : ∃ Z, wr.alloc (.cells #[.int .i64 x.k.kind, .int .i64 x.k.a, .int .i64 x.k.b, .string x.k.s, .string x.val, .bool x.has] 80) = Z := ⟨_, rfl⟩
        obtain ⟨zb, hzb⟩ : ∃ z, z = wr.heap.size := ⟨_, rfl⟩
        have bZ : Below wr.heap.size wr Z := by rw [← hZ]; exact below_box _ _
        have eZ : Z.heap[zb]? = some (.cells #[.int .i64 x.k.kind, .int .i64 x.k.a, .int .i64 x.k.b, .string x.k.s, .string x.val, .bool x.has] 80) := by rw [← hZ, hzb]; exact heap_new _ _
        have HOZ := Lib.hid (HOX.out.below bZ)
        have HBZ := Lib.hid (below_then HBX.out bZ)
        have HVZ : Hid (kW.V Z (some ⟨zb, 0, none⟩) [x]) := Lib.hid (fun _ => ⟨_, 0, rfl, RowK.new_at (k := kW) eZ rfl⟩)
        have HZ := Lib.hid (And.intro hZ hzb)
        clear bZ eZ hZ hzb
        go_wp2_with (at_builtin; rw [HZ.out.1, ← HZ.out.2]; refine RowK.wpList_app (k := kW) (B := W.heap.size) (v := .slice oa on oc) (l := out) rfl (.tmp 53) (.tmp 55) rfl rfl HOZ.out (some ⟨zb, 0, none⟩) 1 [x] 1 rfl rfl HVZ.out (fun e => by cases e) HLN.out HBZ.out.size ?_; rintro v9 w9 h9; have H9 := Lib.hid h9; clear h9)
        go_wp2_with fail
        go_ret
        refine ⟨_, rfl, ?_, HBW.out.trans ((HBZ.out.trans (below_grownWr HOZ.out H9.out.2.1 HBZ.out.size)).mono HBW.out.size)⟩
        have h8 : out ++ [x] = wput l x := by simpa using HFE.out
        rw [← h8]
        exact H9.out.1.mono HBW.out.size
      · go_wp2_with fail
        go_ret
        refine ⟨_, rfl, ?_, HBW.out.trans (HI.out.b.mono HBW.out.size)⟩
        have h8 : out = wput l x := by simpa using HFE.out
        rw [← h8]
        exact HI.out.o.mono HBW.out.size
end Go.Proofs.Ytcghgnncmnoalaa
