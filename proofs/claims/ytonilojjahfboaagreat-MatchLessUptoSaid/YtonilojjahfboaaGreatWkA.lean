/- The graph's methods behind an interface. Conditions: none. A walk: New, Pay, Left, Spent, Vertex, Edge. Conditions: each contract's own premises. A walk: Edges. Conditions: each contract's own premises. A walk: Next. Conditions: each contract's own premises. Who is next, plainly. Conditions: each lemma's own premises. walk.New. Conditions: each contract's own premises. -/
import Derived.Test.YtonilojjahfboaaGreatGr8
namespace Go.Proofs.YtonilojjahfboaaGreat
open Go.RowKit Go.Maps

theorem mEdge (p : Value) (w : World) : (method 619 24 p "Edge").run Tryz.prog w = .ok (21, p) w := by kernel_rfl
theorem mVertex (p : Value) (w : World) : (method 619 24 p "Vertex").run Tryz.prog w = .ok (65, p) w := by kernel_rfl
theorem mOut (p : Value) (w : World) : (method 619 24 p "Out").run Tryz.prog w = .ok (19, p) w := by kernel_rfl
theorem mIn (p : Value) (w : World) : (method 619 24 p "In").run Tryz.prog w = .ok (20, p) w := by kernel_rfl
end Go.Proofs.YtonilojjahfboaaGreat
namespace Go.Proofs.YtonilojjahfboaaGreat
open Go.RowKit Go.Maps

/-- steps that are taken: none is a walk that is spent -/
def payS : Option Nat → Nat → Option Nat
  | some k, n => if n ≤ k then some (k - n) else none
  | none, _ => none
theorem payS_zero (s : Option Nat) : payS s 0 = s := by cases s <;> simp [payS]
theorem payS_add (s : Option Nat) (a b : Nat) : payS (payS s a) b = payS s (a + b) := by
  cases s with
  | none => rfl
  | some k =>
    unfold payS
    by_cases h : a ≤ k
    · simp only [if_pos h]
      by_cases h2 : b ≤ k - a
      · rw [if_pos h2, if_pos (by omega)]; congr 1; omega
      · rw [if_neg h2, if_neg (by omega)]
    · simp only [if_neg h]
      rw [if_neg (by omega)]
/-- a walk in memory, made since w0 -/
structure WkS (w0 w : World) (wb gb : Nat) (st : Option Nat) : Prop where
  bel : Below w0.heap.size w0 w
  new : w0.heap.size ≤ wb
  blk : w.heap[wb]? = some (.cells #[.iface 24 (.pointer (some ⟨gb, 0, none⟩)), .int .i64 ((st.getD 0 : Nat) : Int), .bool st.isNone] 211 (0, 0))
  small : st.getD 0 ≤ 1073741824
section
variable {w0 w w' : World} {wb gb : Nat} {st : Option Nat}
theorem WkS.lt (h : WkS w0 w wb gb st) : wb < w.heap.size := (Array.getElem?_eq_some_iff.1 h.blk).1
theorem WkS.below (h : WkS w0 w wb gb st) (hb : Below w.heap.size w w') : WkS w0 w' wb gb st := ⟨h.bel.trans (hb.mono h.bel.size), h.new, (hb.block _ h.lt).trans h.blk, h.small⟩
theorem WkS.cells (h : WkS w0 w wb gb st) : w.cell? ⟨wb, 0, none⟩ = some (.iface 24 (.pointer (some ⟨gb, 0, none⟩))) ∧ w.cell? ⟨wb, 1, none⟩ = some (.int .i64 ((st.getD 0 : Nat) : Int)) ∧ w.cell? ⟨wb, 2, none⟩ = some (.bool st.isNone) ∧ w.frozen? ⟨wb, 1, none⟩ = false ∧ w.frozen? ⟨wb, 2, none⟩ = false :=
  ⟨by rw [cell_of_blk h.blk]; rfl, by rw [cell_of_blk h.blk]; rfl, by rw [cell_of_blk h.blk]; rfl, frozen_of_blk h.blk _, frozen_of_blk h.blk _⟩
end
theorem WkS.spend {w0 w : World} {wb gb : Nat} {st : Option Nat} (h : WkS w0 w wb gb st) : WkS w0 ((w.setCell ⟨wb, 2, none⟩ (.bool true)).setCell ⟨wb, 1, none⟩ (.int .i64 0)) wb gb none ∧ Chg w ((w.setCell ⟨wb, 2, none⟩ (.bool true)).setCell ⟨wb, 1, none⟩ (.int .i64 0)) (fun i => i = wb) := by
  refine ⟨⟨(h.bel.setCell h.new _).setCell h.new _, h.new, ?_, Nat.zero_le _⟩, ((Chg.refl w (fun i => i = wb)).setCell (p := ⟨wb, 2, none⟩) (fun _ => rfl) _).setCell (p := ⟨wb, 1, none⟩) (fun _ => rfl) _⟩
  rw [blk_setCell (blk_setCell h.blk _) _]
  simp
theorem WkS.take {w0 w : World} {wb gb k : Nat} (h : WkS w0 w wb gb (some k)) (x : Int) (hx : x = ((k - 1 : Nat) : Int)) : WkS w0 (w.setCell ⟨wb, 1, none⟩ (.int .i64 x)) wb gb (some (k - 1)) ∧ Chg w (w.setCell ⟨wb, 1, none⟩ (.int .i64 x)) (fun i => i = wb) := by
  subst hx
  refine ⟨⟨h.bel.setCell h.new _, h.new, ?_, by have := h.small; simp at *; omega⟩, (Chg.refl w (fun i => i = wb)).setCell (p := ⟨wb, 1, none⟩) (fun _ => rfl) _⟩
  rw [blk_setCell h.blk _]
  simp
/-- what a call that pays leaves -/
def PyPost (w0 w : World) (wb gb : Nat) (st : Option Nat) (e : Ending) (w' : World) : Prop := e = .returned (.bool (payS st 1).isSome) ∧ WkS w0 w' wb gb (payS st 1) ∧ Chg w w' (fun i => i = wb)
set_option maxRecDepth 100000 in
set_option maxHeartbeats 1000000 in
theorem pay_any (w0 w : World) (wb gb : Nat) (st : Option Nat) (h : WkS w0 w wb gb st) : Calls Tryz.prog 55 #[.pointer (some ⟨wb, 0, none⟩), .int .i64 1] w (PyPost w0 w wb gb st) := by
  obtain ⟨_, c1, c2, f1, f2⟩ := h.cells
  have hl := h.lt
  have HH := Lib.hid h
  have hs := h.small
  clear h
  cases st with
  | none =>
    have HE : Hid (payS none 1 = none) := Lib.hid rfl
    simp at c1 c2
    clear hs
    go_enter Tryz.func55, Tryz.ntmps55
    go_wp2
    go_ret
    unfold PyPost
    rw [HE.out]
    exact ⟨rfl, HH.out.spend.1, HH.out.spend.2⟩
  | some k =>
    simp at c1 c2 hs
    by_cases hk : 1 ≤ k
    · have hk' : ¬ ((k : Int) < 1) := by omega
      have HE : Hid (payS (some k) 1 = some (k - 1)) := Lib.hid (by simp [payS, hk])
      have HS : Hid (((k : Int) - 1) = ((k - 1 : Nat) : Int)) := Lib.hid (by omega)
      go_enter Tryz.func55, Tryz.ntmps55
      go_wp2
      go_ret
      unfold PyPost
      rw [HE.out]
      exact ⟨rfl, (HH.out.take _ HS.out).1, (HH.out.take _ HS.out).2⟩
    · obtain rfl : k = 0 := by omega
      have HE : Hid (payS (some 0) 1 = none) := Lib.hid rfl
      clear hk hs
      go_enter Tryz.func55, Tryz.ntmps55
      go_wp2
      go_ret
      unfold PyPost
      rw [HE.out]
      exact ⟨rfl, HH.out.spend.1, HH.out.spend.2⟩
set_option maxRecDepth 100000 in
theorem left_any (w0 w : World) (wb gb : Nat) (st : Option Nat) (h : WkS w0 w wb gb st) : Calls Tryz.prog 43 #[.pointer (some ⟨wb, 0, none⟩)] w fun e w' => e = .returned (.int .i64 ((st.getD 0 : Nat) : Int)) ∧ w = w' := by
  obtain ⟨_, c1, c2, f1, f2⟩ := h.cells
  have hl := h.lt
  clear h
  go_enter Tryz.func43, Tryz.ntmps43
  go_wp2
  go_ret
  exact ⟨rfl, rfl⟩
set_option maxRecDepth 100000 in
theorem spent_any (w0 w : World) (wb gb : Nat) (st : Option Nat) (h : WkS w0 w wb gb st) : Calls Tryz.prog 42 #[.pointer (some ⟨wb, 0, none⟩)] w fun e w' => e = .returned (.bool st.isNone) ∧ w = w' := by
  obtain ⟨_, c1, c2, f1, f2⟩ := h.cells
  have hl := h.lt
  clear h
  go_enter Tryz.func42, Tryz.ntmps42
  go_wp2
  go_ret
  exact ⟨rfl, rfl⟩
/-- what Edge leaves -/
def WePost (w0 w : World) (wb gb : Nat) (st : Option Nat) (E : List Eg) (n : Int) (e : Ending) (w' : World) : Prop :=
  ∃ a c, e = .returned (.tuple #[(if (payS st 1).isSome then getE E n else Eg.zero).val a c, .bool ((payS st 1).isSome && (findB Eg.id E n).isSome)]) ∧ WkS w0 w' wb gb (payS st 1) ∧ Chg w w' (fun i => i = wb)
set_option maxRecDepth 100000 in
set_option maxHeartbeats 1000000 in
theorem wedge_any (w0 w : World) (wb gb vb eb : Nat) (V : List Vt) (E : List Eg) (st : Option Nat) (n : Int) (hG : GrC w0 gb vb eb V E) (h : WkS w0 w wb gb st) (hn : I64 n) :
    Calls Tryz.prog 117 #[.pointer (some ⟨wb, 0, none⟩), .int .i64 n] w (WePost w0 w wb gb st E n) := by
  have HB0 := Lib.hid (below_box w (.cells #[.int .i64 0, .string ⟨#[]⟩, .int .i64 0, .int .i64 0, .slice none 0 0] 30))
  have HR := Lib.hid (heap_new w (.cells #[.int .i64 0, .string ⟨#[]⟩, .int .i64 0, .int .i64 0, .slice none 0 0] 30))
  have H0 := Lib.hid (h.below HB0.out)
  have HG := Lib.hid hG
  have HN := Lib.hid hn
  have hlw := Lib.hid h.lt
  have HL0 : Hid (w0.heap.size ≤ w.heap.size) := Lib.hid h.bel.size
  clear h hG hn
  go_enter Tryz.func117, Tryz.ntmps117
  go_wp2_with fail
  refine (pay_any w0 _ wb gb st H0.out).mono ?_
  rintro e w1 ⟨rfl, s1, k1⟩
  have S1 := Lib.hid s1
  have K1 : Hid (Chg w w1 (fun i => i = wb)) := Lib.hid ((Chg.of_below HB0.out _).trans k1 (fun i _ h => h))
  have x1 := (k1.block w.heap.size (by simp) (by have := hlw.out; omega)).trans HR.out
  have X1 := Lib.hid x1
  clear s1 k1
  obtain ⟨b, hb⟩ : ∃ b, (payS st 1).isSome = b := ⟨_, rfl⟩
  unfold WePost
  rw [hb]
  have HBB := Lib.hid hb
  clear hb
  obtain ⟨c0, _, _, _, _⟩ := S1.out.cells
  have hm := mEdge (.pointer (some ⟨gb, 0, none⟩)) w1
  have hz : w.heap.size < w1.heap.size := (Array.getElem?_eq_some_iff.1 x1).1
  cases b
  · have r0 := cell_of_blk x1 0
    have g0 := frozen_of_blk x1 0
    have r1 := cell_of_blk x1 1
    have g1 := frozen_of_blk x1 1
    have r2 := cell_of_blk x1 2
    have g2 := frozen_of_blk x1 2
    have r3 := cell_of_blk x1 3
    have g3 := frozen_of_blk x1 3
    have r4 := cell_of_blk x1 4
    have g4 := frozen_of_blk x1 4
    simp at r0 r1 r2 r3 r4
    clear x1
    go_wp2_with fail
    refine bodyPost_ret (v := .tuple #[.agg #[.int .i64 0, .string ⟨#[]⟩, .int .i64 0, .int .i64 0, .slice none 0 0], .bool false]) (by simp [results, Tryz.results117, go_sem, r0, r1, r2, r3, r4]) rfl ⟨none, 0, by rw [HBB.out]; rfl, ?_, ?_⟩
    · exact ⟨((((S1.out.bel.setCell HL0.out _).setCell HL0.out _).setCell HL0.out _).setCell HL0.out _).setCell HL0.out _, S1.out.new, by rw [set_ne _ _ _ _ (by have := hlw.out; omega), set_ne _ _ _ _ (by have := hlw.out; omega), set_ne _ _ _ _ (by have := hlw.out; omega), set_ne _ _ _ _ (by have := hlw.out; omega), set_ne _ _ _ _ (by have := hlw.out; omega)]; exact S1.out.blk, S1.out.small⟩
    · exact ((((K1.out.setCell (fun h => absurd h (Nat.lt_irrefl _)) _).setCell (fun h => absurd h (Nat.lt_irrefl _)) _).setCell (fun h => absurd h (Nat.lt_irrefl _)) _).setCell (fun h => absurd h (Nat.lt_irrefl _)) _).setCell (fun h => absurd h (Nat.lt_irrefl _)) _
  · have GW := Lib.hid (HG.out.below S1.out.bel)
    go_wp2_with fail
    refine (gedge_any gb vb eb V E n w1 GW.out HN.out).mono ?_
    rintro e w2 ⟨a2, c2, rfl, ⟨p2, n2⟩, b2⟩
    have x2 := (b2.block w.heap.size hz).trans X1.out
    have hz2 : w.heap.size < w2.heap.size := (Array.getElem?_eq_some_iff.1 x2).1
    have S2 := Lib.hid (S1.out.below b2)
    have K2 : Hid (Chg w w2 (fun i => i = wb)) := Lib.hid (K1.out.trans (Chg.of_below b2 (fun _ => False)) (fun _ _ e => e.elim))
    have r0 := cell_of_blk x2 0
    have g0 := frozen_of_blk x2 0
    have r1 := cell_of_blk x2 1
    have g1 := frozen_of_blk x2 1
    have r2 := cell_of_blk x2 2
    have g2 := frozen_of_blk x2 2
    have r3 := cell_of_blk x2 3
    have g3 := frozen_of_blk x2 3
    have r4 := cell_of_blk x2 4
    have g4 := frozen_of_blk x2 4
    simp at r0 r1 r2 r3 r4
    clear x1 x2 b2 p2 n2 hz
    obtain ⟨y, hy⟩ : ∃ y, y = getE E n := ⟨_, rfl⟩
    obtain ⟨k, hk⟩ : ∃ k, k = (findB Eg.id E n).isSome := ⟨_, rfl⟩
    rw [← hy, ← hk]
    have HY := Lib.hid hy
    have HK := Lib.hid hk
    clear hy hk
    unfold Eg.val
    go_wp2_with fail
    refine bodyPost_ret (v := .tuple #[.agg #[.int .i64 y.id, .string y.label, .int .i64 y.fr, .int .i64 y.to, .slice a2 y.ps.length c2], .bool k]) (by simp [results, Tryz.results117, go_sem, r0, r1, r2, r3, r4]) rfl ⟨a2, c2, by rw [HBB.out, if_pos rfl, ← HY.out, ← HK.out]; rfl, ?_, ?_⟩
    · exact ⟨((((S2.out.bel.setCell HL0.out _).setCell HL0.out _).setCell HL0.out _).setCell HL0.out _).setCell HL0.out _, S2.out.new, by rw [set_ne _ _ _ _ (by have := hlw.out; omega), set_ne _ _ _ _ (by have := hlw.out; omega), set_ne _ _ _ _ (by have := hlw.out; omega), set_ne _ _ _ _ (by have := hlw.out; omega), set_ne _ _ _ _ (by have := hlw.out; omega)]; exact S2.out.blk, S2.out.small⟩
    · exact ((((K2.out.setCell (fun h => absurd h (Nat.lt_irrefl _)) _).setCell (fun h => absurd h (Nat.lt_irrefl _)) _).setCell (fun h => absurd h (Nat.lt_irrefl _)) _).setCell (fun h => absurd h (Nat.lt_irrefl _)) _).setCell (fun h => absurd h (Nat.lt_irrefl _)) _
/-- what Vertex leaves -/
def WvPost (w0 w : World) (wb gb : Nat) (st : Option Nat) (V : List Vt) (n : Int) (e : Ending) (w' : World) : Prop :=
  ∃ a c, e = .returned (.tuple #[(if (payS st 1).isSome then getV V n else Vt.zero).val a c, .bool ((payS st 1).isSome && (findB Vt.id V n).isSome)]) ∧ WkS w0 w' wb gb (payS st 1) ∧ Chg w w' (fun i => i = wb)
set_option maxRecDepth 100000 in
set_option maxHeartbeats 1000000 in
theorem wvertex_any (w0 w : World) (wb gb vb eb : Nat) (V : List Vt) (E : List Eg) (st : Option Nat) (n : Int) (hG : GrC w0 gb vb eb V E) (h : WkS w0 w wb gb st) (hn : I64 n) :
    Calls Tryz.prog 115 #[.pointer (some ⟨wb, 0, none⟩), .int .i64 n] w (WvPost w0 w wb gb st V n) := by
  have HB0 := Lib.hid (below_box w (.cells #[.int .i64 0, .string ⟨#[]⟩, .slice none 0 0] 28))
  have HR := Lib.hid (heap_new w (.cells #[.int .i64 0, .string ⟨#[]⟩, .slice none 0 0] 28))
  have H0 := Lib.hid (h.below HB0.out)
  have HG := Lib.hid hG
  have HN := Lib.hid hn
  have hlw := Lib.hid h.lt
  have HL0 : Hid (w0.heap.size ≤ w.heap.size) := Lib.hid h.bel.size
  clear h hG hn
  go_enter Tryz.func115, Tryz.ntmps115
  go_wp2_with fail
  refine (pay_any w0 _ wb gb st H0.out).mono ?_
  rintro e w1 ⟨rfl, s1, k1⟩
  have S1 := Lib.hid s1
  have K1 : Hid (Chg w w1 (fun i => i = wb)) := Lib.hid ((Chg.of_below HB0.out _).trans k1 (fun i _ h => h))
  have x1 := (k1.block w.heap.size (by simp) (by have := hlw.out; omega)).trans HR.out
  have X1 := Lib.hid x1
  clear s1 k1
  obtain ⟨b, hb⟩ : ∃ b, (payS st 1).isSome = b := ⟨_, rfl⟩
  unfold WvPost
  rw [hb]
  have HBB := Lib.hid hb
  clear hb
  obtain ⟨c0, _, _, _, _⟩ := S1.out.cells
  have hm := mVertex (.pointer (some ⟨gb, 0, none⟩)) w1
  have hz : w.heap.size < w1.heap.size := (Array.getElem?_eq_some_iff.1 x1).1
  cases b
  · have r0 := cell_of_blk x1 0
    have g0 := frozen_of_blk x1 0
    have r1 := cell_of_blk x1 1
    have g1 := frozen_of_blk x1 1
    have r2 := cell_of_blk x1 2
    have g2 := frozen_of_blk x1 2
    simp at r0 r1 r2
    clear x1
    go_wp2_with fail
    refine bodyPost_ret (v := .tuple #[.agg #[.int .i64 0, .string ⟨#[]⟩, .slice none 0 0], .bool false]) (by simp [results, Tryz.results115, go_sem, r0, r1, r2]) rfl ⟨none, 0, by rw [HBB.out]; rfl, ?_, ?_⟩
    · exact ⟨((S1.out.bel.setCell HL0.out _).setCell HL0.out _).setCell HL0.out _, S1.out.new, by rw [set_ne _ _ _ _ (by have := hlw.out; omega), set_ne _ _ _ _ (by have := hlw.out; omega), set_ne _ _ _ _ (by have := hlw.out; omega)]; exact S1.out.blk, S1.out.small⟩
    · exact ((K1.out.setCell (fun h => absurd h (Nat.lt_irrefl _)) _).setCell (fun h => absurd h (Nat.lt_irrefl _)) _).setCell (fun h => absurd h (Nat.lt_irrefl _)) _
  · have GW := Lib.hid (HG.out.below S1.out.bel)
    go_wp2_with fail
    refine (gvertex_any gb vb eb V E n w1 GW.out HN.out).mono ?_
    rintro e w2 ⟨a2, c2, rfl, ⟨p2, n2⟩, b2⟩
    have x2 := (b2.block w.heap.size hz).trans X1.out
    have hz2 : w.heap.size < w2.heap.size := (Array.getElem?_eq_some_iff.1 x2).1
    have S2 := Lib.hid (S1.out.below b2)
    have K2 : Hid (Chg w w2 (fun i => i = wb)) := Lib.hid (K1.out.trans (Chg.of_below b2 (fun _ => False)) (fun _ _ e => e.elim))
    have r0 := cell_of_blk x2 0
    have g0 := frozen_of_blk x2 0
    have r1 := cell_of_blk x2 1
    have g1 := frozen_of_blk x2 1
    have r2 := cell_of_blk x2 2
    have g2 := frozen_of_blk x2 2
    simp at r0 r1 r2
    clear x1 x2 b2 p2 n2 hz
    obtain ⟨y, hy⟩ : ∃ y, y = getV V n := ⟨_, rfl⟩
    obtain ⟨k, hk⟩ : ∃ k, k = (findB Vt.id V n).isSome := ⟨_, rfl⟩
    rw [← hy, ← hk]
    have HY := Lib.hid hy
    have HK := Lib.hid hk
    clear hy hk
    unfold Vt.val
    go_wp2_with fail
    refine bodyPost_ret (v := .tuple #[.agg #[.int .i64 y.id, .string y.label, .slice a2 y.ps.length c2], .bool k]) (by simp [results, Tryz.results115, go_sem, r0, r1, r2]) rfl ⟨a2, c2, by rw [HBB.out, if_pos rfl, ← HY.out, ← HK.out]; rfl, ?_, ?_⟩
    · exact ⟨((S2.out.bel.setCell HL0.out _).setCell HL0.out _).setCell HL0.out _, S2.out.new, by rw [set_ne _ _ _ _ (by have := hlw.out; omega), set_ne _ _ _ _ (by have := hlw.out; omega), set_ne _ _ _ _ (by have := hlw.out; omega)]; exact S2.out.blk, S2.out.small⟩
    · exact ((K2.out.setCell (fun h => absurd h (Nat.lt_irrefl _)) _).setCell (fun h => absurd h (Nat.lt_irrefl _)) _).setCell (fun h => absurd h (Nat.lt_irrefl _)) _
end Go.Proofs.YtonilojjahfboaaGreat
namespace Go.Proofs.YtonilojjahfboaaGreat
open Go.RowKit Go.Maps

def sideP (out : Bool) (n : Int) : Eg → Bool := if out then outP n else inP n
/-- what Edges leaves -/
def WgPost (w0 w : World) (wb gb : Nat) (st : Option Nat) (E : List Eg) (n : Int) (out : Bool) (e : Ending) (w' : World) : Prop :=
  ∃ v, e = .returned v ∧ kI.Own w' w.heap.size v (if (payS st 1).isSome then idsE E (sideP out n) else []) ∧ WkS w0 w' wb gb (payS st 1) ∧ Chg w w' (fun i => i = wb)
set_option maxRecDepth 100000 in
set_option maxHeartbeats 1000000 in
theorem wedges_any (w0 w : World) (wb gb vb eb : Nat) (V : List Vt) (E : List Eg) (st : Option Nat) (n : Int) (out : Bool) (hG : GrC w0 gb vb eb V E) (h : WkS w0 w wb gb st) (hE : E.length ≤ 1000000) :
    Calls Tryz.prog 116 #[.pointer (some ⟨wb, 0, none⟩), .int .i64 n, .bool out] w (WgPost w0 w wb gb st E n out) := by
  have HG := Lib.hid hG
  have H0 := Lib.hid h
  have HE := Lib.hid hE
  clear h hG hE
  go_enter Tryz.func116, Tryz.ntmps116
  go_wp2_with fail
  refine (pay_any w0 _ wb gb st H0.out).mono ?_
  rintro e w1 ⟨rfl, s1, k1⟩
  have S1 := Lib.hid s1
  have K1 := Lib.hid k1
  clear s1 k1
  obtain ⟨b, hb⟩ : ∃ b, (payS st 1).isSome = b := ⟨_, rfl⟩
  unfold WgPost
  rw [hb]
  have HBB := Lib.hid hb
  clear hb
  obtain ⟨c0, _, _, _, _⟩ := S1.out.cells
  have hm := mOut (.pointer (some ⟨gb, 0, none⟩)) w1
  have hm2 := mIn (.pointer (some ⟨gb, 0, none⟩)) w1
  have GW := Lib.hid (HG.out.below S1.out.bel)
  cases b
  · go_wp2_with fail
    go_ret
    exact ⟨_, rfl, by rw [HBB.out]; exact RowK.Own.nil kI _ _, S1.out, K1.out⟩
  · cases out
    · go_wp2_with fail
      refine (gin_any gb vb eb V E n w1 GW.out HE.out).mono ?_
      rintro e w2 ⟨v, rfl, o2, b2⟩
      obtain ⟨a, cap, rfl⟩ := o2.shape
      have HO := Lib.hid o2
      have HB := Lib.hid b2
      clear o2 b2
      go_wp2_with fail
      go_ret
      exact ⟨_, rfl, by rw [HBB.out, if_pos rfl]; exact HO.out.mono K1.out.size, S1.out.below HB.out, K1.out.trans (Chg.of_below HB.out (fun _ => False)) (fun _ _ e => e.elim)⟩
    · go_wp2_with fail
      refine (gout_any gb vb eb V E n w1 GW.out HE.out).mono ?_
      rintro e w2 ⟨v, rfl, o2, b2⟩
      obtain ⟨a, cap, rfl⟩ := o2.shape
      have HO := Lib.hid o2
      have HB := Lib.hid b2
      clear o2 b2
      go_wp2_with fail
      go_ret
      exact ⟨_, rfl, by rw [HBB.out, if_pos rfl]; exact HO.out.mono K1.out.size, S1.out.below HB.out, K1.out.trans (Chg.of_below HB.out (fun _ => False)) (fun _ _ e => e.elim)⟩
end Go.Proofs.YtonilojjahfboaaGreat
namespace Go.Proofs.YtonilojjahfboaaGreat
open Go.RowKit Go.Maps

/-- who is next by an edge -/
def nx (E : List Eg) (out : Bool) (lab : ByteArray) (id : Int) : List Int :=
  if lab.toList = [] ∨ (getE E id).label = lab then [if out then (getE E id).to else (getE E id).fr] else []
/-- .. by the edges of a vertex -/
def nextL (E : List Eg) (out : Bool) (lab : ByteArray) (n : Int) : List Int := setI ((idsE E (sideP out n)).flatMap (nx E out lab))
/-- what Next leaves -/
def NxPost (w0 w : World) (wb gb : Nat) (st : Option Nat) (E : List Eg) (n : Int) (out : Bool) (lab : ByteArray) (e : Ending) (w' : World) : Prop :=
  ∃ v, e = .returned v ∧ kI.Own w' w.heap.size v (if (payS st (1 + (idsE E (sideP out n)).length)).isSome then nextL E out lab n else []) ∧ WkS w0 w' wb gb (payS st (1 + (idsE E (sideP out n)).length)) ∧ Chg w w' (fun i => i = wb)
theorem nx_len (E : List Eg) (out : Bool) (lab : ByteArray) : ∀ l : List Int, (l.flatMap (nx E out lab)).length ≤ l.length
  | [] => Nat.le_refl _
  | x :: l => by
    rw [List.flatMap_cons, List.length_append, List.length_cons]
    have h1 := nx_len E out lab l
    have h2 : (nx E out lab x).length ≤ 1 := by unfold nx; split <;> simp
    omega
theorem take_flat {l : List Int} {k : Nat} {x : Int} (f : Int → List Int) (h : l[k]? = some x) : (l.take (k + 1)).flatMap f = (l.take k).flatMap f ++ f x := by
  rw [List.take_add_one, h, List.flatMap_append]
  simp
theorem ids_found {E : List Eg} (hs : SortB Eg.id E) {p : Eg → Bool} {x : Int} (h : x ∈ idsE E p) : ∃ e, e ∈ E ∧ p e = true ∧ e.id = x ∧ findB Eg.id E x = some e ∧ getE E x = e := by
  unfold idsE at h
  obtain ⟨e, he, rfl⟩ := List.mem_map.1 h
  obtain ⟨h1, h2⟩ := List.mem_filter.1 he
  have h3 := findB_mem hs h1
  exact ⟨e, h1, h2, rfl, h3, by unfold getE; rw [h3]; rfl⟩
def NxRel (w0 w : World) (wb gb : Nat) (st1 : Option Nat) (E : List Eg) (out : Bool) (lab : ByteArray) (L : List Int) (a : Option Addr) (cap : Nat) (v i : Value) (wr : World) : Prop :=
  ∃ k : Nat, k ≤ L.length ∧ i = .int .i64 k ∧ kI.Own wr w.heap.size v ((L.take k).flatMap (nx E out lab)) ∧ WkS w0 wr wb gb (payS st1 k) ∧ (k = 0 ∨ (payS st1 k).isSome = true) ∧ kI.Own wr w.heap.size (.slice a L.length cap) L ∧ Chg w wr (fun i => i = wb) ∧ (∀ j, v.ownBlock = some j → (Value.slice a L.length cap).ownBlock ≠ some j)
theorem ba_ne' {a b : ByteArray} (h : a ≠ b) : (a.toList == b.toList) = false := by
  refine Bool.eq_false_iff.2 fun e => h ?_
  have e2 : a.toList = b.toList := by simpa using e
  cases a; cases b
  simp only [ByteArray.toList_eq] at e2
  congr 1
  exact Array.toList_inj.1 e2
theorem WkS.belowN {w0 w w' : World} {wb gb B : Nat} {st : Option Nat} (h : WkS w0 w wb gb st) (hB : wb < B) (hb : Below B w w') : WkS w0 w' wb gb st :=
  ⟨h.bel.trans (hb.mono (Nat.le_of_lt (Nat.lt_of_le_of_lt h.new hB))), h.new, (hb.block wb hB).trans h.blk, h.small⟩
theorem Chg.andBelow {a b c : World} {S : Nat → Prop} (h : Chg a b S) (hb : Below a.heap.size b c) : Chg a c S :=
  ⟨hb.os.trans h.os, hb.tape.trans h.tape, hb.output.trans h.output, Nat.le_trans h.size hb.size, fun k hk hn => (hb.block k hk).trans (h.block k hk hn)⟩
theorem NxRel.app {w0 w u w8 : World} {wb gb : Nat} {st1 : Option Nat} {E : List Eg} {out : Bool} {lab : ByteArray} {L acc : List Int} {a : Option Addr} {cap k r : Nat} {x f : Int} {va v8 : Value} {X : Obj}
    (hx : L[k]? = some x) (hac : acc = (L.take k).flatMap (nx E out lab)) (hnx : nx E out lab x = [f]) (hok : some r = payS st1 (k + 1)) (hOl : kI.Own u w.heap.size (.slice a L.length cap) L) (hS : WkS w0 u wb gb (some r)) (hK : Chg w u (fun i => i = wb)) (hwb : wb < w.heap.size)
    (hOA : kI.Own (u.alloc X) w.heap.size va acc) (_hz : w.heap.size ≤ (u.alloc X).heap.size) (oA : kI.Own w8 w.heap.size v8 (acc ++ [f])) (gA : (u.alloc X).grownBy w8 va.ownBlock) (hsep : ∀ j, va.ownBlock = some j → (Value.slice a L.length cap).ownBlock ≠ some j) (kA : v8.ownBlock = va.ownBlock ∨ v8.ownBlock = some (u.alloc X).heap.size) :
    NxRel w0 w wb gb st1 E out lab L a cap v8 (.int .i64 ((k : Int) + 1)) w8 := by
  have hw : some wb ≠ va.ownBlock := fun e => by have := (hOA.lt wb e.symm).1; omega
  refine ⟨k + 1, (List.getElem?_eq_some_iff.1 hx).1, by simp, ?_, ?_, .inr (by rw [← hok]; rfl), ?_, ?_, fun j hj e => ?_⟩
  · rw [take_flat _ hx, ← hac, hnx]; exact oA
  · rw [← hok]
    have h1 := hS.below (below_box u X)
    refine ⟨h1.bel.grown gA (Nat.le_trans h1.bel.size (Nat.le_refl _)) (fun j hj => ?_), h1.new, (gA.block wb h1.lt hw).trans h1.blk, h1.small⟩
    have := (hOA.lt j hj).1
    have := hS.new
    have := hK.size
    omega
  · exact (hOl.alloc X).grown gA (fun j hj e => hsep j e.symm hj)
  · exact (hK.alloc X).grown gA (fun m hm hml => by have := (hOA.lt m hm).1; omega)
  · rcases kA with h | h
    · exact hsep j (h ▸ hj) e
    · rw [h] at hj
      injection hj with hj
      have := (hOl.lt j e).2
      simp at hj
      omega
set_option maxRecDepth 100000 in
set_option maxHeartbeats 4000000 in
theorem wnext_any (w0 w : World) (wb gb vb eb : Nat) (V : List Vt) (E : List Eg) (st : Option Nat) (n : Int) (out : Bool) (lab : ByteArray) (hG : GrC w0 gb vb eb V E) (h : WkS w0 w wb gb st) (hE : E.length ≤ 1000000) :
    Calls Tryz.prog 40 #[.pointer (some ⟨wb, 0, none⟩), .int .i64 n, .bool out, .string lab] w (NxPost w0 w wb gb st E n out lab) := by
  have HG := Lib.hid hG
  have HE := Lib.hid hE
  have HWB := Lib.hid h.lt
  have HEG := Lib.hid (wedges_any w0 w wb gb vb eb V E st n out hG h hE)
  clear h hG hE
  go_enter Tryz.func40, Tryz.ntmps40
  go_wp2_with fail
  refine HEG.out.mono ?_
  rintro e w1 ⟨v, rfl, o1, s1, k1⟩
  obtain ⟨ids, hids⟩ : ∃ ids, ids = idsE E (sideP out n) := ⟨_, rfl⟩
  unfold NxPost
  rw [← hids] at o1 ⊢
  obtain ⟨st1, hst1⟩ : ∃ s, s = payS st 1 := ⟨_, rfl⟩
  rw [← hst1] at o1 s1
  obtain ⟨L, hL⟩ : ∃ L : List Int, L = if st1.isSome then ids else [] := ⟨_, rfl⟩
  rw [← hL] at o1
  obtain ⟨a, cap, rfl⟩ := o1.shape
  have hLE : L.length ≤ E.length := by
    rw [hL]
    split
    · rw [hids]; exact idsE_len _ _
    · exact Nat.zero_le _
  have HI := Lib.hid hids
  have HS1 := Lib.hid hst1
  have HL := Lib.hid hL
  have K1 := Lib.hid k1
  have S1 := Lib.hid s1
  have O1 := Lib.hid o1
  have HLE := Lib.hid hLE
  have HFIN : Hid (payS st (1 + ids.length) = payS st1 ids.length) := Lib.hid (by rw [hst1, payS_add])
  have HEL := Lib.hid (Nat.le_trans hLE HE.out)
  clear hids hst1 hL k1 s1 HEG o1 hLE
  go_wp2_with fail
  go_loopw [9, 19] (fun v i wr => NxRel w0 w wb gb st1 E out lab L a cap v i wr) (fun _ i _ => L.length - (intOf i).toNat)
  case atStart => exact ⟨0, Nat.zero_le _, rfl, by rw [List.take_zero]; exact RowK.Own.nil kI _ _, by rw [payS_zero]; exact S1.out, .inl rfl, O1.out, K1.out, fun j hj => by cases hj⟩
  case round =>
    obtain ⟨k, hk, rfl, hacc, hS, hor, hOl, hK, hsep⟩ := hrel
    obtain ⟨va, vc, rfl⟩ := hacc.shape
    obtain ⟨acc, hac⟩ : ∃ acc, acc = (L.take k).flatMap (nx E out lab) := ⟨_, rfl⟩
    rw [← hac] at hacc hsep
    rw [← hac]
    have HAC := Lib.hid hac
    have HACC := Lib.hid hacc
    have HS := Lib.hid hS
    have HOR := Lib.hid hor
    have HOL := Lib.hid hOl
    have HK := Lib.hid hK
    have HSEP := Lib.hid hsep
    have HAL : Hid (acc.length ≤ k) := Lib.hid (by rw [hac]; exact Nat.le_trans (nx_len _ _ _ _) (by rw [List.length_take]; omega))
    clear hac hacc hS hor hOl hK hsep
    have hkb : k ≤ 1000000 := Nat.le_trans hk HEL.out
    by_cases hlt : k < L.length
    · obtain ⟨x, hx⟩ : ∃ x, L[k]? = some x := ⟨_, List.getElem?_eq_getElem hlt⟩
      obtain ⟨lb, lc, hsl, hlb, _, hat⟩ := HOL.out.at' (fun e => by rw [e] at hlt; simp at hlt)
      injection hsl with e1 e2 e3
      subst e1 e3
      have q0 := hat.cells k x hx 0 _ rfl
      have e4 : 0 + k * kI.size + 0 = k := by show 0 + k * 1 + 0 = k; omega
      rw [e4] at q0
      have hlbl := hat.lt
      have hxi : x ∈ ids ∧ L = ids := by
        have h1 := HL.out
        split at h1
        · exact ⟨by rw [← h1]; exact List.mem_of_getElem? hx, h1⟩
        · rw [h1] at hlt; simp at hlt
      have HX := Lib.hid hx
      have HXI := Lib.hid hxi
      clear hx hat hxi hlb
      go_wp2_with fail
      obtain ⟨ed, hed1, _, hed3, hed4, hed5⟩ := ids_found HG.out.ok.se (by rw [← HI.out]; exact HXI.out.1 : x ∈ idsE E (sideP out n))
      refine (wedge_any w0 wr wb gb vb eb V E _ x HG.out HS.out (by rw [← hed3]; exact checkR_ids (HG.out.ok.e ed hed1) (by simp))).mono ?_
      rintro e w3 ⟨a3, c3, rfl, s3, k3⟩
      rw [payS_add] at s3 ⊢
      rw [hed4, hed5]
      have HED := Lib.hid hed5
      have S3 := Lib.hid s3
      have K3 := Lib.hid k3
      clear s3 k3 hed1 hed3 hed4 hed5 q0
      obtain ⟨ok, hok⟩ : ∃ ok, ok = payS st1 (k + 1) := ⟨_, rfl⟩
      rw [← hok] at S3 ⊢
      have HOK := Lib.hid hok
      clear hok
      cases ok with
      | none =>
        simp only [Option.isSome_none, Bool.false_eq_true, if_false, Bool.false_and]
        obtain ⟨_, _, c2, _, _⟩ := S3.out.cells
        have hwl := S3.out.lt
        have HFN : Hid (payS st (1 + (idsE E (sideP out n)).length) = none) := Lib.hid (by
          rw [← HI.out, HFIN.out, show ids.length = (k + 1) + (ids.length - (k + 1)) by rw [← HXI.out.2]; omega, ← payS_add, ← HOK.out]
          rfl)
        have HKF : Hid (Chg w w3 (fun i => i = wb)) := Lib.hid (HK.out.trans K3.out (fun _ _ h => h))
        as_aux_lemma =>
          unfold Eg.val Eg.zero
          go_wp2_with fail
          go_ret
          refine ⟨_, rfl, ?_, ?_, ?_⟩
          · rw [HFN.out]; exact RowK.Own.nil kI _ _
          · rw [HFN.out]; exact S3.out.below (below_box _ _)
          · exact HKF.out.trans (Chg.of_below (below_box _ _) (fun _ => False)) (fun _ _ e => e.elim)
      | some r =>
        simp only [Option.isSome_some, if_true, Bool.true_and]
        obtain ⟨_, _, c2, _, _⟩ := S3.out.cells
        have hwl := S3.out.lt
        have HSB : Hid (∀ j, (Value.slice va acc.length vc).ownBlock = some j → ¬ j = wb) := Lib.hid (fun j hj e => by have := (HACC.out.lt j hj).1; have := HWB.out; omega)
        have HSC : Hid (∀ j, (Value.slice (some ⟨lb, 0, none⟩) L.length cap).ownBlock = some j → ¬ j = wb) := Lib.hid (fun j hj e => by have := (HOL.out.lt j hj).1; have := HWB.out; omega)
        have HU : Hid (kI.Own (w3.alloc (.cells #[.int .i64 ed.id, .string ed.label, .int .i64 ed.fr, .int .i64 ed.to, .slice a3 ed.ps.length c3] 30)) w.heap.size (.slice va acc.length vc) acc ∧ kI.Own (w3.alloc (.cells #[.int .i64 ed.id, .string ed.label, .int .i64 ed.fr, .int .i64 ed.to, .slice a3 ed.ps.length c3] 30)) w.heap.size (.slice (some ⟨lb, 0, none⟩) L.length cap) L ∧ WkS w0 (w3.alloc (.cells #[.int .i64 ed.id, .string ed.label, .int .i64 ed.fr, .int .i64 ed.to, .slice a3 ed.ps.length c3] 30)) wb gb (some r) ∧ Chg w (w3.alloc (.cells #[.int .i64 ed.id, .string ed.label, .int .i64 ed.fr, .int .i64 ed.to, .slice a3 ed.ps.length c3] 30)) (fun i => i = wb)) :=
          Lib.hid ⟨(HACC.out.chg K3.out HSB.out).alloc _, (HOL.out.chg K3.out HSC.out).alloc _, S3.out.below (below_box _ _), (HK.out.trans K3.out (fun _ _ h => h)).alloc _⟩
        have HZW : Hid (w.heap.size ≤ w3.heap.size) := Lib.hid (HK.out.trans K3.out (fun _ _ h => h)).size
        unfold Eg.val
        by_cases hl0 : lab.toList = []
        · have t1 : lab.toList.isEmpty = true := by simp [hl0]
          have HNX : Hid (nx E out lab x = [if out then ed.to else ed.fr]) := Lib.hid (by unfold nx; rw [if_pos (.inl hl0), HED.out])
          have HL0 := Lib.hid hl0
          cases out
          · as_aux_lemma =>
              have HXV := Lib.hid (int_new (w3.alloc (.cells #[.int .i64 ed.id, .string ed.label, .int .i64 ed.fr, .int .i64 ed.to, .slice a3 ed.ps.length c3] 30)) (w3.heap.size + 1) (by simp) ed.fr)
              have HOA := Lib.hid (HU.out.1.alloc (.cells #[.int .i64 ed.fr] 3))
              go_wp2_with (first | (at_builtin; refine RowK.wpList_app (k := kI) rfl (.tmp 51) (.tmp 54) rfl rfl HOA.out (some ⟨w3.heap.size + 1, 0, none⟩) 1 [ed.fr] 1 rfl rfl HXV.out (fun e => by cases e) (by have := HAL.out; have := HEL.out; simp; omega) (by have := HZW.out; simp; omega) ?_; intro v8 w8 hA; have HA8 := Lib.hid hA; clear hA) | fail)
              obtain ⟨oA, gA, kA⟩ := HA8.out
              refine ⟨NxRel.app (f := ed.fr) HX.out HAC.out HNX.out HOK.out HU.out.2.1 HU.out.2.2.1 HU.out.2.2.2 HWB.out HOA.out (by have := HZW.out; simp; omega) oA gA HSEP.out kA, by simp [intOf]; omega⟩
          · as_aux_lemma =>
              have HXV := Lib.hid (int_new (w3.alloc (.cells #[.int .i64 ed.id, .string ed.label, .int .i64 ed.fr, .int .i64 ed.to, .slice a3 ed.ps.length c3] 30)) (w3.heap.size + 1) (by simp) ed.to)
              have HOA := Lib.hid (HU.out.1.alloc (.cells #[.int .i64 ed.to] 3))
              go_wp2_with (first | (at_builtin; refine RowK.wpList_app (k := kI) rfl (.tmp 46) (.tmp 49) rfl rfl HOA.out (some ⟨w3.heap.size + 1, 0, none⟩) 1 [ed.to] 1 rfl rfl HXV.out (fun e => by cases e) (by have := HAL.out; have := HEL.out; simp; omega) (by have := HZW.out; simp; omega) ?_; intro v8 w8 hA; have HA8 := Lib.hid hA; clear hA) | fail)
              obtain ⟨oA, gA, kA⟩ := HA8.out
              refine ⟨NxRel.app (f := ed.to) HX.out HAC.out HNX.out HOK.out HU.out.2.1 HU.out.2.2.1 HU.out.2.2.2 HWB.out HOA.out (by have := HZW.out; simp; omega) oA gA HSEP.out kA, by simp [intOf]; omega⟩
        · have t1 : lab.toList.isEmpty = false := by simpa using hl0
          by_cases hle : ed.label = lab
          · have t2 : (ed.label.toList == lab.toList) = true := by simp [hle]
            have HNX : Hid (nx E out lab x = [if out then ed.to else ed.fr]) := Lib.hid (by unfold nx; rw [if_pos (.inr (by rw [HED.out]; exact hle)), HED.out])
            have HL0 := Lib.hid hl0
            have HLE2 := Lib.hid hle
            clear hle
            cases out
            · as_aux_lemma =>
                have HXV := Lib.hid (int_new (w3.alloc (.cells #[.int .i64 ed.id, .string ed.label, .int .i64 ed.fr, .int .i64 ed.to, .slice a3 ed.ps.length c3] 30)) (w3.heap.size + 1) (by simp) ed.fr)
                have HOA := Lib.hid (HU.out.1.alloc (.cells #[.int .i64 ed.fr] 3))
                go_wp2_with (first | (at_builtin; refine RowK.wpList_app (k := kI) rfl (.tmp 51) (.tmp 54) rfl rfl HOA.out (some ⟨w3.heap.size + 1, 0, none⟩) 1 [ed.fr] 1 rfl rfl HXV.out (fun e => by cases e) (by have := HAL.out; have := HEL.out; simp; omega) (by have := HZW.out; simp; omega) ?_; intro v8 w8 hA; have HA8 := Lib.hid hA; clear hA) | fail)
                obtain ⟨oA, gA, kA⟩ := HA8.out
                refine ⟨NxRel.app (f := ed.fr) HX.out HAC.out HNX.out HOK.out HU.out.2.1 HU.out.2.2.1 HU.out.2.2.2 HWB.out HOA.out (by have := HZW.out; simp; omega) oA gA HSEP.out kA, by simp [intOf]; omega⟩
            · as_aux_lemma =>
                have HXV := Lib.hid (int_new (w3.alloc (.cells #[.int .i64 ed.id, .string ed.label, .int .i64 ed.fr, .int .i64 ed.to, .slice a3 ed.ps.length c3] 30)) (w3.heap.size + 1) (by simp) ed.to)
                have HOA := Lib.hid (HU.out.1.alloc (.cells #[.int .i64 ed.to] 3))
                go_wp2_with (first | (at_builtin; refine RowK.wpList_app (k := kI) rfl (.tmp 46) (.tmp 49) rfl rfl HOA.out (some ⟨w3.heap.size + 1, 0, none⟩) 1 [ed.to] 1 rfl rfl HXV.out (fun e => by cases e) (by have := HAL.out; have := HEL.out; simp; omega) (by have := HZW.out; simp; omega) ?_; intro v8 w8 hA; have HA8 := Lib.hid hA; clear hA) | fail)
                obtain ⟨oA, gA, kA⟩ := HA8.out
                refine ⟨NxRel.app (f := ed.to) HX.out HAC.out HNX.out HOK.out HU.out.2.1 HU.out.2.2.1 HU.out.2.2.2 HWB.out HOA.out (by have := HZW.out; simp; omega) oA gA HSEP.out kA, by simp [intOf]; omega⟩
          · have t2 : (ed.label.toList == lab.toList) = false := ba_ne' hle
            have HNX : Hid (nx E out lab x = []) := Lib.hid (by unfold nx; rw [if_neg (fun h => h.elim hl0 (fun h => hle (by rw [← h, HED.out])))])
            have HLE2 := Lib.hid hle
            clear hle
            as_aux_lemma =>
              go_wp2_with fail
              refine ⟨⟨k + 1, by omega, by go_num, ?_, ?_, ?_, HU.out.2.1, HU.out.2.2.2, HSEP.out⟩, by simp [intOf]; omega⟩
              · rw [take_flat _ HX.out, ← HAC.out, HNX.out, List.append_nil]; exact HU.out.1
              · rw [← HOK.out]; exact HU.out.2.2.1
              · exact .inr (by rw [← HOK.out]; rfl)
    · obtain rfl : k = L.length := by omega
      as_aux_lemma =>
        rw [List.take_length] at HAC
        go_wp2_with fail
        refine (sortI_any HACC.out (by have := HAL.out; have := HEL.out; omega)).mono ?_
        rintro e w2 ⟨rfl, o2, b2⟩
        have O2 := Lib.hid o2
        have S2 := Lib.hid (HS.out.belowN HWB.out b2)
        have HK2 : Hid (Chg w w2 (fun i => i = wb)) := Lib.hid (HK.out.andBelow b2)
        have HSL : Hid ((sortI acc).length = acc.length) := Lib.hid (sortI_perm acc).length_eq
        clear o2 b2
        go_wp2_with fail
        refine (compactI_any O2.out (by rw [HSL.out]; have := HAL.out; have := HEL.out; omega)).mono ?_
        rintro e w5 ⟨v5, rfl, o5, b5⟩
        obtain ⟨a5, c5, rfl⟩ := o5.shape
        have O5 := Lib.hid o5
        have S5 := Lib.hid (S2.out.belowN HWB.out b5)
        have HK5 : Hid (Chg w w5 (fun i => i = wb)) := Lib.hid (HK2.out.andBelow b5)
        clear o5 b5
        go_wp2_with fail
        go_ret
        have hfin : payS st (1 + (idsE E (sideP out n)).length) = payS st1 ids.length := by rw [← HI.out, HFIN.out]
        have hset : Lib.compact (sortI acc) = if (payS st1 ids.length).isSome then nextL E out lab n else [] := by
          have h1 := HL.out
          split at h1
          · rename_i h2
            have h3 : (payS st1 ids.length).isSome = true := by
              rcases HOR.out with h | h
              · rw [← h1, h, payS_zero]; exact h2
              · rw [← h1]; exact h
            rw [if_pos h3]
            unfold nextL setI
            rw [HAC.out, ← HI.out, h1]
          · rename_i h2
            have h3 : st1 = none := by simpa using h2
            rw [HAC.out, h1, h3]
            show Lib.compact (sortI []) = []
            rw [show sortI [] = [] from List.mergeSort_nil]
            rfl
        have hst : payS st1 ids.length = payS st1 L.length := by
          have h1 := HL.out
          split at h1
          · rw [h1]
          · rename_i h2
            have h3 : st1 = none := by simpa using h2
            rw [h3]; rfl
        refine ⟨_, rfl, ?_, ?_, HK5.out⟩
        · rw [hfin, ← hset]; exact O5.out
        · rw [hfin, hst]; exact S5.out
end Go.Proofs.YtonilojjahfboaaGreat
namespace Go.Proofs.YtonilojjahfboaaGreat
open Go.RowKit Go.Maps

/-- is there a vertex of a number? -/
def HasV (V : List Vt) (v : Int) : Prop := ∃ u ∈ V, u.id = v
theorem find_hasV {V : List Vt} {n : Int} : (findB Vt.id V n).isSome = true ↔ HasV V n := by
  cases hf : findB Vt.id V n with
  | none =>
    refine ⟨(fun h => by cases h), fun ⟨u, hu, e⟩ => absurd e (findB_none.1 hf u hu)⟩
  | some u =>
    obtain ⟨h1, h2⟩ := findB_some hf
    exact ⟨fun _ => ⟨u, h1, h2⟩, fun _ => rfl⟩
/-- is there an edge of a label (any, if empty)? -/
def edB (E : List Eg) (lab : ByteArray) (a b : Int) : Prop := ∃ e ∈ E, e.fr = a ∧ e.to = b ∧ (lab.toList = [] ∨ e.label = lab)
theorem mem_nx {E : List Eg} (hs : SortB Eg.id E) {out : Bool} {lab : ByteArray} {n x : Int} : x ∈ (idsE E (sideP out n)).flatMap (nx E out lab) ↔ (if out then edB E lab n x else edB E lab x n) := by
  rw [List.mem_flatMap]
  constructor
  · rintro ⟨i, hi, hx⟩
    obtain ⟨e, he, hp, _, _, hg⟩ := ids_found hs hi
    unfold nx at hx
    rw [hg] at hx
    split at hx
    · rename_i hl
      rw [List.mem_singleton] at hx
      cases out
      · exact ⟨e, he, by simpa using hx.symm, by simpa [sideP, inP] using hp, hl⟩
      · exact ⟨e, he, by simpa [sideP, outP] using hp, by simpa using hx.symm, hl⟩
    · cases hx
  · intro h
    have h' : ∃ e ∈ E, sideP out n e = true ∧ (if out then e.to else e.fr) = x ∧ (lab.toList = [] ∨ e.label = lab) := by
      cases out
      · obtain ⟨e, he, h1, h2, h3⟩ := h
        exact ⟨e, he, by simp [sideP, inP, h2], h1, h3⟩
      · obtain ⟨e, he, h1, h2, h3⟩ := h
        exact ⟨e, he, by simp [sideP, outP, h1], h2, h3⟩
    obtain ⟨e, he, h1, h2, h3⟩ := h'
    have hid : e.id ∈ idsE E (sideP out n) := List.mem_map.2 ⟨e, List.mem_filter.2 ⟨he, h1⟩, rfl⟩
    refine ⟨e.id, hid, ?_⟩
    have hg : getE E e.id = e := by unfold getE; rw [findB_mem hs he]; rfl
    unfold nx
    rw [hg, if_pos h3, h2]
    simp
theorem mem_next {E : List Eg} (hs : SortB Eg.id E) {out : Bool} {lab : ByteArray} {n x : Int} : x ∈ nextL E out lab n ↔ (if out then edB E lab n x else edB E lab x n) := by
  unfold nextL
  rw [(setI_spec _).2, mem_nx hs]
theorem next_inc (E : List Eg) (out : Bool) (lab : ByteArray) (n : Int) : IncI (nextL E out lab n) := (setI_spec _).1
theorem nodup_len {l m : List Int} (h : l.Nodup) (hs : ∀ x ∈ l, x ∈ m) : l.length ≤ m.length := by
  induction l generalizing m with
  | nil => simp
  | cons x l ih =>
    obtain ⟨h1, h2⟩ := List.nodup_cons.1 h
    have hx := hs x (List.mem_cons.2 (.inl rfl))
    have := ih (m := m.erase x) h2 (fun y hy => (List.mem_erase_of_ne (fun e => h1 (by rw [← e]; exact hy))).2 (hs y (List.mem_cons.2 (.inr hy))))
    rw [List.length_erase_of_mem hx] at this
    have := List.length_pos_of_mem hx
    simp; omega
theorem next_len (E : List Eg) (out : Bool) (lab : ByteArray) (n : Int) : (nextL E out lab n).length ≤ E.length := by
  have h1 : (nextL E out lab n).Nodup := (next_inc E out lab n).imp (fun h => by omega)
  have h2 := nodup_len (m := (idsE E (sideP out n)).flatMap (nx E out lab)) h1 (fun x hx => by unfold nextL at hx; exact ((setI_spec _).2 _).1 hx)
  exact Nat.le_trans h2 (Nat.le_trans (nx_len _ _ _ _) (idsE_len _ _))
end Go.Proofs.YtonilojjahfboaaGreat
namespace Go.Proofs.YtonilojjahfboaaGreat
open Go.RowKit Go.Maps

def WnPost (w : World) (gb : Nat) (n : Int) (e : Ending) (w' : World) : Prop :=
  if n < 0 ∨ 1073741824 < n then e = .returned (.tuple #[.pointer none, .int .i64 2]) ∧ w = w'
  else e = .returned (.tuple #[.pointer (some ⟨w.heap.size, 0, none⟩), .int .i64 0]) ∧ WkS w w' w.heap.size gb (some n.toNat)
set_option maxRecDepth 100000 in
set_option maxHeartbeats 1000000 in
theorem wnew_any (gb : Nat) (n : Int) (w : World) : Calls Tryz.prog 39 #[.iface 24 (.pointer (some ⟨gb, 0, none⟩)), .int .i64 n] w (WnPost w gb n) := by
  by_cases h1 : n < 0
  · have HP : Hid (WnPost w gb n (.returned (.tuple #[.pointer none, .int .i64 2])) w) := Lib.hid (by unfold WnPost; rw [if_pos (.inl h1)]; exact ⟨rfl, rfl⟩)
    go_enter Tryz.func39, Tryz.ntmps39
    go_wp2
    go_ret2
    exact HP.out
  · by_cases h2 : 1073741824 < n
    · have HP : Hid (WnPost w gb n (.returned (.tuple #[.pointer none, .int .i64 2])) w) := Lib.hid (by unfold WnPost; rw [if_pos (.inr h2)]; exact ⟨rfl, rfl⟩)
      go_enter Tryz.func39, Tryz.ntmps39
      go_wp2
      go_ret2
      exact HP.out
    · have HP : ∀ w', WkS w w' w.heap.size gb (some n.toNat) → WnPost w gb n (.returned (.tuple #[.pointer (some ⟨w.heap.size, 0, none⟩), .int .i64 0])) w' := fun w' hw => by unfold WnPost; rw [if_neg (by omega)]; exact ⟨rfl, hw⟩
      have HN : Hid (0 ≤ n ∧ n ≤ 1073741824) := Lib.hid ⟨by omega, by omega⟩
      have HQ := Lib.hid HP
      clear HP
      go_enter Tryz.func39, Tryz.ntmps39
      go_wp2
      go_ret2
      refine HQ.out _ ⟨?_, Nat.le_refl _, ?_, ?_⟩
      · exact below_box w _
      · rw [heap_new w _]
        have : ((n.toNat : Nat) : Int) = n := by have := HN.out; omega
        simp [this]
      · have := HN.out
        simp
        omega
end Go.Proofs.YtonilojjahfboaaGreat
