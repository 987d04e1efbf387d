/- A walk: New, Pay, Left, Spent, Vertex, Edge. Conditions: each contract's own premises. -/
import Derived.Test.YtaanohgkdpohhaaGr8
namespace Go.Proofs.Ytaanohgkdpohhaa
open Go.RowKit Go.Maps

/-- steps that are taken: none is a walk that is spent -/
def payS : Option Nat → Nat → Option Nat
  | some k, n => if n ≤ k then some (k - n) else none
  | none, _ => none
theorem payS_zero (s : Option Nat) : payS s 0 = s := by cases s <;> simp [payS]
theorem payS_add (s : Option Nat) (a b : Nat) : payS (payS s a) b = payS s (a + b) := by
  cases s with
  | none => rfl
  | some k =>
    unfold payS
    by_cases h : a ≤ k
    · simp only [if_pos h]
      by_cases h2 : b ≤ k - a
      · rw [if_pos h2, if_pos (by omega)]; congr 1; omega
      · rw [if_neg h2, if_neg (by omega)]
    · simp only [if_neg h]
      rw [if_neg (by omega)]
/-- a walk in memory, made since w0 -/
structure WkS (w0 w : World) (wb gb : Nat) (st : Option Nat) : Prop where
  bel : Below w0.heap.size w0 w
  new : w0.heap.size ≤ wb
  blk : w.heap[wb]? = some (.cells #[.iface 80 (.pointer (some ⟨gb, 0, none⟩)), .int .i64 ((st.getD 0 : Nat) : Int), .bool st.isNone] 198 (0, 0))
  small : st.getD 0 ≤ 1073741824
section
variable {w0 w w' : World} {wb gb : Nat} {st : Option Nat}
theorem WkS.lt (h : WkS w0 w wb gb st) : wb < w.heap.size := (Array.getElem?_eq_some_iff.1 h.blk).1
theorem WkS.below (h : WkS w0 w wb gb st) (hb : Below w.heap.size w w') : WkS w0 w' wb gb st := ⟨h.bel.trans (hb.mono h.bel.size), h.new, (hb.block _ h.lt).trans h.blk, h.small⟩
theorem WkS.cells (h : WkS w0 w wb gb st) : w.cell? ⟨wb, 0, none⟩ = some (.iface 80 (.pointer (some ⟨gb, 0, none⟩))) ∧ w.cell? ⟨wb, 1, none⟩ = some (.int .i64 ((st.getD 0 : Nat) : Int)) ∧ w.cell? ⟨wb, 2, none⟩ = some (.bool st.isNone) ∧ w.frozen? ⟨wb, 1, none⟩ = false ∧ w.frozen? ⟨wb, 2, none⟩ = false :=
  ⟨by rw [cell_of_blk h.blk]; rfl, by rw [cell_of_blk h.blk]; rfl, by rw [cell_of_blk h.blk]; rfl, frozen_of_blk h.blk _, frozen_of_blk h.blk _⟩
end
theorem WkS.spend {w0 w : World} {wb gb : Nat} {st : Option Nat} (h : WkS w0 w wb gb st) : WkS w0 ((w.setCell ⟨wb, 2, none⟩ (.bool true)).setCell ⟨wb, 1, none⟩ (.int .i64 0)) wb gb none ∧ Chg w ((w.setCell ⟨wb, 2, none⟩ (.bool true)).setCell ⟨wb, 1, none⟩ (.int .i64 0)) (fun i => i = wb) := by
  refine ⟨⟨(h.bel.setCell h.new _).setCell h.new _, h.new, ?_, Nat.zero_le _⟩, ((Chg.refl w (fun i => i = wb)).setCell (p := ⟨wb, 2, none⟩) (fun _ => rfl) _).setCell (p := ⟨wb, 1, none⟩) (fun _ => rfl) _⟩
  rw [blk_setCell (blk_setCell h.blk _) _]
  simp
theorem WkS.take {w0 w : World} {wb gb k : Nat} (h : WkS w0 w wb gb (some k)) (x : Int) (hx : x = ((k - 1 : Nat) : Int)) : WkS w0 (w.setCell ⟨wb, 1, none⟩ (.int .i64 x)) wb gb (some (k - 1)) ∧ Chg w (w.setCell ⟨wb, 1, none⟩ (.int .i64 x)) (fun i => i = wb) := by
  subst hx
  refine ⟨⟨h.bel.setCell h.new _, h.new, ?_, by have := h.small; simp at *; omega⟩, (Chg.refl w (fun i => i = wb)).setCell (p := ⟨wb, 1, none⟩) (fun _ => rfl) _⟩
  rw [blk_setCell h.blk _]
  simp
/-- what a call that pays leaves -/
def PyPost (w0 w : World) (wb gb : Nat) (st : Option Nat) (e : Ending) (w' : World) : Prop := e = .returned (.bool (payS st 1).isSome) ∧ WkS w0 w' wb gb (payS st 1) ∧ Chg w w' (fun i => i = wb)
set_option maxRecDepth 100000 in
set_option maxHeartbeats 1000000 in
theorem pay_any (w0 w : World) (wb gb : Nat) (st : Option Nat) (h : WkS w0 w wb gb st) : Calls Try.prog 167 #[.pointer (some ⟨wb, 0, none⟩), .int .i64 1] w (PyPost w0 w wb gb st) := by
  obtain ⟨_, c1, c2, f1, f2⟩ := h.cells
  have hl := h.lt
  have HH := Lib.hid h
  have hs := h.small
  clear h
  cases st with
  | none =>
    have HE : Hid (payS none 1 = none) := Lib.hid rfl
    simp at c1 c2
    clear hs
    go_enter Try.func167, Try.ntmps167
    go_wp2
    go_ret
    unfold PyPost
    rw [HE.out]
    exact ⟨rfl, HH.out.spend.1, HH.out.spend.2⟩
  | some k =>
    simp at c1 c2 hs
    by_cases hk : 1 ≤ k
    · have hk' : ¬ ((k : Int) < 1) := by omega
      have HE : Hid (payS (some k) 1 = some (k - 1)) := Lib.hid (by simp [payS, hk])
      have HS : Hid (((k : Int) - 1) = ((k - 1 : Nat) : Int)) := Lib.hid (by omega)
      go_enter Try.func167, Try.ntmps167
      go_wp2
      go_ret
      unfold PyPost
      rw [HE.out]
      exact ⟨rfl, (HH.out.take _ HS.out).1, (HH.out.take _ HS.out).2⟩
    · obtain rfl : k = 0 := by omega
      have HE : Hid (payS (some 0) 1 = none) := Lib.hid rfl
      clear hk hs
      go_enter Try.func167, Try.ntmps167
      go_wp2
      go_ret
      unfold PyPost
      rw [HE.out]
      exact ⟨rfl, HH.out.spend.1, HH.out.spend.2⟩
set_option maxRecDepth 100000 in
theorem left_any (w0 w : World) (wb gb : Nat) (st : Option Nat) (h : WkS w0 w wb gb st) : Calls Try.prog 113 #[.pointer (some ⟨wb, 0, none⟩)] w fun e w' => e = .returned (.int .i64 ((st.getD 0 : Nat) : Int)) ∧ w = w' := by
  obtain ⟨_, c1, c2, f1, f2⟩ := h.cells
  have hl := h.lt
  clear h
  go_enter Try.func113, Try.ntmps113
  go_wp2
  go_ret
  exact ⟨rfl, rfl⟩
set_option maxRecDepth 100000 in
theorem spent_any (w0 w : World) (wb gb : Nat) (st : Option Nat) (h : WkS w0 w wb gb st) : Calls Try.prog 51 #[.pointer (some ⟨wb, 0, none⟩)] w fun e w' => e = .returned (.bool st.isNone) ∧ w = w' := by
  obtain ⟨_, c1, c2, f1, f2⟩ := h.cells
  have hl := h.lt
  clear h
  go_enter Try.func51, Try.ntmps51
  go_wp2
  go_ret
  exact ⟨rfl, rfl⟩
theorem mEdge (p : Value) (w : World) : (method 412 80 p "Edge").run Try.prog w = .ok (101, p) w := by kernel_rfl
theorem mVertex (p : Value) (w : World) : (method 412 80 p "Vertex").run Try.prog w = .ok (247, p) w := by kernel_rfl
theorem mOut (p : Value) (w : World) : (method 412 80 p "Out").run Try.prog w = .ok (98, p) w := by kernel_rfl
theorem mIn (p : Value) (w : World) : (method 412 80 p "In").run Try.prog w = .ok (99, p) w := by kernel_rfl
/-- what Edge leaves -/
def WePost (w0 w : World) (wb gb : Nat) (st : Option Nat) (E : List Eg) (n : Int) (e : Ending) (w' : World) : Prop :=
  ∃ a c, e = .returned (.tuple #[(if (payS st 1).isSome then getE E n else Eg.zero).val a c, .bool ((payS st 1).isSome && (findB Eg.id E n).isSome)]) ∧ WkS w0 w' wb gb (payS st 1) ∧ Chg w w' (fun i => i = wb)
set_option maxRecDepth 100000 in
set_option maxHeartbeats 1000000 in
theorem wedge_any (w0 w : World) (wb gb vb eb : Nat) (V : List Vt) (E : List Eg) (st : Option Nat) (n : Int) (hG : GrC w0 gb vb eb V E) (h : WkS w0 w wb gb st) (hn : I64 n) :
    Calls Try.prog 117 #[.pointer (some ⟨wb, 0, none⟩), .int .i64 n] w (WePost w0 w wb gb st E n) := by
  have HB0 := Lib.hid (below_box w (.cells #[.int .i64 0, .string ⟨#[]⟩, .int .i64 0, .int .i64 0, .slice none 0 0] 86))
  have HR := Lib.hid (heap_new w (.cells #[.int .i64 0, .string ⟨#[]⟩, .int .i64 0, .int .i64 0, .slice none 0 0] 86))
  have H0 := Lib.hid (h.below HB0.out)
  have HG := Lib.hid hG
  have HN := Lib.hid hn
  have hlw := Lib.hid h.lt
  have HL0 : Hid (w0.heap.size ≤ w.heap.size) := Lib.hid h.bel.size
  clear h hG hn
  go_enter Try.func117, Try.ntmps117
  go_wp2_with fail
  refine (pay_any w0 _ wb gb st H0.out).mono ?_
  rintro e w1 ⟨rfl, s1, k1⟩
  have S1 := Lib.hid s1
  have K1 : Hid (Chg w w1 (fun i => i = wb)) := Lib.hid ((Chg.of_below HB0.out _).trans k1 (fun i _ h => h))
  have x1 := (k1.block w.heap.size (by simp) (by have := hlw.out; omega)).trans HR.out
  have X1 := Lib.hid x1
  clear s1 k1
  obtain ⟨b, hb⟩ : ∃ b, (payS st 1).isSome = b := ⟨_, rfl⟩
  unfold WePost
  rw [hb]
  have HBB := Lib.hid hb
  clear hb
  obtain ⟨c0, _, _, _, _⟩ := S1.out.cells
  have hm := mEdge (.pointer (some ⟨gb, 0, none⟩)) w1
  have hz : w.heap.size < w1.heap.size := (Array.getElem?_eq_some_iff.1 x1).1
  cases b
  · have r0 := cell_of_blk x1 0
    have g0 := frozen_of_blk x1 0
    have r1 := cell_of_blk x1 1
    have g1 := frozen_of_blk x1 1
    have r2 := cell_of_blk x1 2
    have g2 := frozen_of_blk x1 2
    have r3 := cell_of_blk x1 3
    have g3 := frozen_of_blk x1 3
    have r4 := cell_of_blk x1 4
    have g4 := frozen_of_blk x1 4
    simp at r0 r1 r2 r3 r4
    clear x1
    go_wp2_with fail
    refine bodyPost_ret (v := .tuple #[.agg #[.int .i64 0, .string ⟨#[]⟩, .int .i64 0, .int .i64 0, .slice none 0 0], .bool false]) (by simp [results, Try.results117, go_sem, r0, r1, r2, r3, r4]) rfl ⟨none, 0, by rw [HBB.out]; rfl, ?_, ?_⟩
    · exact ⟨((((S1.out.bel.setCell HL0.out _).setCell HL0.out _).setCell HL0.out _).setCell HL0.out _).setCell HL0.out _, S1.out.new, by rw [set_ne _ _ _ _ (by have := hlw.out; omega), set_ne _ _ _ _ (by have := hlw.out; omega), set_ne _ _ _ _ (by have := hlw.out; omega), set_ne _ _ _ _ (by have := hlw.out; omega), set_ne _ _ _ _ (by have := hlw.out; omega)]; exact S1.out.blk, S1.out.small⟩
    · exact ((((K1.out.setCell (fun h => absurd h (Nat.lt_irrefl _)) _).setCell (fun h => absurd h (Nat.lt_irrefl _)) _).setCell (fun h => absurd h (Nat.lt_irrefl _)) _).setCell (fun h => absurd h (Nat.lt_irrefl _)) _).setCell (fun h => absurd h (Nat.lt_irrefl _)) _
  · have GW := Lib.hid (HG.out.below S1.out.bel)
    go_wp2_with fail
    refine (gedge_any gb vb eb V E n w1 GW.out HN.out).mono ?_
    rintro e w2 ⟨a2, c2, rfl, ⟨p2, n2⟩, b2⟩
    have x2 := (b2.block w.heap.size hz).trans X1.out
    have hz2 : w.heap.size < w2.heap.size := (Array.getElem?_eq_some_iff.1 x2).1
    have S2 := Lib.hid (S1.out.below b2)
    have K2 : Hid (Chg w w2 (fun i => i = wb)) := Lib.hid (K1.out.trans (Chg.of_below b2 (fun _ => False)) (fun _ _ e => e.elim))
    have r0 := cell_of_blk x2 0
    have g0 := frozen_of_blk x2 0
    have r1 := cell_of_blk x2 1
    have g1 := frozen_of_blk x2 1
    have r2 := cell_of_blk x2 2
    have g2 := frozen_of_blk x2 2
    have r3 := cell_of_blk x2 3
    have g3 := frozen_of_blk x2 3
    have r4 := cell_of_blk x2 4
    have g4 := frozen_of_blk x2 4
    simp at r0 r1 r2 r3 r4
    clear x1 x2 b2 p2 n2 hz
    obtain ⟨y, hy⟩ : ∃ y, y = getE E n := ⟨_, rfl⟩
    obtain ⟨k, hk⟩ : ∃ k, k = (findB Eg.id E n).isSome := ⟨_, rfl⟩
    rw [← hy, ← hk]
    have HY := Lib.hid hy
    have HK := Lib.hid hk
    clear hy hk
    unfold Eg.val
    go_wp2_with fail
    refine bodyPost_ret (v := .tuple #[.agg #[.int .i64 y.id, .string y.label, .int .i64 y.fr, .int .i64 y.to, .slice a2 y.ps.length c2], .bool k]) (by simp [results, Try.results117, go_sem, r0, r1, r2, r3, r4]) rfl ⟨a2, c2, by rw [HBB.out, if_pos rfl, ← HY.out, ← HK.out]; rfl, ?_, ?_⟩
    · exact ⟨((((S2.out.bel.setCell HL0.out _).setCell HL0.out _).setCell HL0.out _).setCell HL0.out _).setCell HL0.out _, S2.out.new, by rw [set_ne _ _ _ _ (by have := hlw.out; omega), set_ne _ _ _ _ (by have := hlw.out; omega), set_ne _ _ _ _ (by have := hlw.out; omega), set_ne _ _ _ _ (by have := hlw.out; omega), set_ne _ _ _ _ (by have := hlw.out; omega)]; exact S2.out.blk, S2.out.small⟩
    · exact ((((K2.out.setCell (fun h => absurd h (Nat.lt_irrefl _)) _).setCell (fun h => absurd h (Nat.lt_irrefl _)) _).setCell (fun h => absurd h (Nat.lt_irrefl _)) _).setCell (fun h => absurd h (Nat.lt_irrefl _)) _).setCell (fun h => absurd h (Nat.lt_irrefl _)) _
/-- what Vertex leaves -/
def WvPost (w0 w : World) (wb gb : Nat) (st : Option Nat) (V : List Vt) (n : Int) (e : Ending) (w' : World) : Prop :=
  ∃ a c, e = .returned (.tuple #[(if (payS st 1).isSome then getV V n else Vt.zero).val a c, .bool ((payS st 1).isSome && (findB Vt.id V n).isSome)]) ∧ WkS w0 w' wb gb (payS st 1) ∧ Chg w w' (fun i => i = wb)
set_option maxRecDepth 100000 in
set_option maxHeartbeats 1000000 in
theorem wvertex_any (w0 w : World) (wb gb vb eb : Nat) (V : List Vt) (E : List Eg) (st : Option Nat) (n : Int) (hG : GrC w0 gb vb eb V E) (h : WkS w0 w wb gb st) (hn : I64 n) :
    Calls Try.prog 114 #[.pointer (some ⟨wb, 0, none⟩), .int .i64 n] w (WvPost w0 w wb gb st V n) := by
  have HB0 := Lib.hid (below_box w (.cells #[.int .i64 0, .string ⟨#[]⟩, .slice none 0 0] 83))
  have HR := Lib.hid (heap_new w (.cells #[.int .i64 0, .string ⟨#[]⟩, .slice none 0 0] 83))
  have H0 := Lib.hid (h.below HB0.out)
  have HG := Lib.hid hG
  have HN := Lib.hid hn
  have hlw := Lib.hid h.lt
  have HL0 : Hid (w0.heap.size ≤ w.heap.size) := Lib.hid h.bel.size
  clear h hG hn
  go_enter Try.func114, Try.ntmps114
  go_wp2_with fail
  refine (pay_any w0 _ wb gb st H0.out).mono ?_
  rintro e w1 ⟨rfl, s1, k1⟩
  have S1 := Lib.hid s1
  have K1 : Hid (Chg w w1 (fun i => i = wb)) := Lib.hid ((Chg.of_below HB0.out _).trans k1 (fun i _ h => h))
  have x1 := (k1.block w.heap.size (by simp) (by have := hlw.out; omega)).trans HR.out
  have X1 := Lib.hid x1
  clear s1 k1
  obtain ⟨b, hb⟩ : ∃ b, (payS st 1).isSome = b := ⟨_, rfl⟩
  unfold WvPost
  rw [hb]
  have HBB := Lib.hid hb
  clear hb
  obtain ⟨c0, _, _, _, _⟩ := S1.out.cells
  have hm := mVertex (.pointer (some ⟨gb, 0, none⟩)) w1
  have hz : w.heap.size < w1.heap.size := (Array.getElem?_eq_some_iff.1 x1).1
  cases b
  · have r0 := cell_of_blk x1 0
    have g0 := frozen_of_blk x1 0
    have r1 := cell_of_blk x1 1
    have g1 := frozen_of_blk x1 1
    have r2 := cell_of_blk x1 2
    have g2 := frozen_of_blk x1 2
    simp at r0 r1 r2
    clear x1
    go_wp2_with fail
    refine bodyPost_ret (v := .tuple #[.agg #[.int .i64 0, .string ⟨#[]⟩, .slice none 0 0], .bool false]) (by simp [results, Try.results114, go_sem, r0, r1, r2]) rfl ⟨none, 0, by rw [HBB.out]; rfl, ?_, ?_⟩
    · exact ⟨((S1.out.bel.setCell HL0.out _).setCell HL0.out _).setCell HL0.out _, S1.out.new, by rw [set_ne _ _ _ _ (by have := hlw.out; omega), set_ne _ _ _ _ (by have := hlw.out; omega), set_ne _ _ _ _ (by have := hlw.out; omega)]; exact S1.out.blk, S1.out.small⟩
    · exact ((K1.out.setCell (fun h => absurd h (Nat.lt_irrefl _)) _).setCell (fun h => absurd h (Nat.lt_irrefl _)) _).setCell (fun h => absurd h (Nat.lt_irrefl _)) _
  · have GW := Lib.hid (HG.out.below S1.out.bel)
    go_wp2_with fail
    refine (gvertex_any gb vb eb V E n w1 GW.out HN.out).mono ?_
    rintro e w2 ⟨a2, c2, rfl, ⟨p2, n2⟩, b2⟩
    have x2 := (b2.block w.heap.size hz).trans X1.out
    have hz2 : w.heap.size < w2.heap.size := (Array.getElem?_eq_some_iff.1 x2).1
    have S2 := Lib.hid (S1.out.below b2)
    have K2 : Hid (Chg w w2 (fun i => i = wb)) := Lib.hid (K1.out.trans (Chg.of_below b2 (fun _ => False)) (fun _ _ e => e.elim))
    have r0 := cell_of_blk x2 0
    have g0 := frozen_of_blk x2 0
    have r1 := cell_of_blk x2 1
    have g1 := frozen_of_blk x2 1
    have r2 := cell_of_blk x2 2
    have g2 := frozen_of_blk x2 2
    simp at r0 r1 r2
    clear x1 x2 b2 p2 n2 hz
    obtain ⟨y, hy⟩ : ∃ y, y = getV V n := ⟨_, rfl⟩
    obtain ⟨k, hk⟩ : ∃ k, k = (findB Vt.id V n).isSome := ⟨_, rfl⟩
    rw [← hy, ← hk]
    have HY := Lib.hid hy
    have HK := Lib.hid hk
    clear hy hk
    unfold Vt.val
    go_wp2_with fail
    refine bodyPost_ret (v := .tuple #[.agg #[.int .i64 y.id, .string y.label, .slice a2 y.ps.length c2], .bool k]) (by simp [results, Try.results114, go_sem, r0, r1, r2]) rfl ⟨a2, c2, by rw [HBB.out, if_pos rfl, ← HY.out, ← HK.out]; rfl, ?_, ?_⟩
    · exact ⟨((S2.out.bel.setCell HL0.out _).setCell HL0.out _).setCell HL0.out _, S2.out.new, by rw [set_ne _ _ _ _ (by have := hlw.out; omega), set_ne _ _ _ _ (by have := hlw.out; omega), set_ne _ _ _ _ (by have := hlw.out; omega)]; exact S2.out.blk, S2.out.small⟩
    · exact ((K2.out.setCell (fun h => absurd h (Nat.lt_irrefl _)) _).setCell (fun h => absurd h (Nat.lt_irrefl _)) _).setCell (fun h => absurd h (Nat.lt_irrefl _)) _
end Go.Proofs.Ytaanohgkdpohhaa
