/- The disk. Conditions: each contract's own premises. -/
import Derived.Test.YtcghgnncmnoalaaRcLaw
namespace Go.Proofs.Ytcghgnncmnoalaa
open Go.RowKit Go.Maps

/-- a disk: its block, its room, how much is safe, its bytes -/
structure DkS (w : World) (db room safe B : Nat) (l : List UInt8) : Prop where
  ex : ∃ a cap, w.heap[db]? = some (.cells #[.int .i64 room, .int .i64 safe, .slice a l.length cap] 169) ∧ BsO w B (.slice a l.length cap) l ∧ (Value.slice a l.length cap).ownBlock ≠ some db
  hr : room ≤ 1073741824
  hs : safe ≤ l.length
  hl : l.length ≤ 1000000
theorem DkS.lt {w : World} {db room safe B : Nat} {l : List UInt8} (h : DkS w db room safe B l) : db < w.heap.size := by
  obtain ⟨a, cap, h1, _⟩ := h.ex
  exact (Array.getElem?_eq_some_iff.1 h1).1
theorem DkS.below {w w' : World} {db room safe B : Nat} {l : List UInt8} (h : DkS w db room safe B l) (hb : Below w.heap.size w w') : DkS w' db room safe B l := by
  obtain ⟨a, cap, h1, h2, h3⟩ := h.ex
  exact ⟨⟨a, cap, (hb.block _ h.lt).trans h1, h2.below hb, h3⟩, h.hr, h.hs, h.hl⟩
theorem bs_cap {w : World} {B n cap : Nat} {a : Option Addr} {l : List UInt8} (h : BsO w B (.slice a n cap) l) : n = l.length ∧ l.length ≤ cap ∧ (a = none → l = [] ∧ cap = 0) ∧ (∀ x, a = some x → ∃ g, x = ⟨g, 0, none⟩ ∧ B ≤ g ∧ g < w.heap.size) := by
  rcases h.2 with ⟨h1, h2⟩ | ⟨g, cp, cur, h1, h2, h3, h4, _⟩
  · injection h1 with e1 e2 e3
    subst e1 e2 e3
    exact ⟨h2.symm, by omega, fun _ => ⟨List.eq_nil_of_length_eq_zero h2, rfl⟩, fun x e => by cases e⟩
  · injection h1 with e1 e2 e3
    subst e1 e2 e3
    exact ⟨rfl, h4, fun e => (by cases e), fun x e => ⟨g, (by injection e with e; exact e.symm), h2, (Array.getElem?_eq_some_iff.1 h3).1⟩⟩
theorem bs_take {w : World} {B cap : Nat} {a : Option Addr} {l : List UInt8} (h : BsO w B (.slice a l.length cap) l) {k : Nat} (hk : k ≤ l.length) : BsO w B (.slice a k cap) (l.take k) := by
  have hlen : (l.take k).length = k := by rw [List.length_take]; omega
  refine ⟨by rw [List.length_map]; omega, ?_⟩
  rcases h.2 with ⟨h1, h2⟩ | ⟨g, cp, cur, h1, h2, h3, h4, h5, h6, h7⟩
  · injection h1 with e1 e2 e3
    left
    have : k = 0 := by omega
    subst this e1 e3
    exact ⟨rfl, hlen⟩
  · injection h1 with e1 e2 e3
    right
    refine ⟨g, cp, cur, by rw [hlen, e1, e3], h2, h3, by omega, h5, h6, ?_⟩
    rw [hlen, Nat.mul_one, List.map_take, ← show cur.toList.take (l.length * 1) = l.map bv from h7, List.take_take]
    congr 1; omega
/-- a disk's bytes, taken -/
theorem DkS.cut {w w' : World} {db room safe B k s : Nat} {l : List UInt8} {a : Option Addr} {cap : Nat} (h : DkS w db room safe B l) (e : w.heap[db]? = some (.cells #[.int .i64 room, .int .i64 safe, .slice a l.length cap] 169)) (ho : BsO w B (.slice a l.length cap) l) (hn : (Value.slice a l.length cap).ownBlock ≠ some db)
    (hk : k ≤ l.length) (hs : s ≤ k) (hc : Chg w w' (fun j => j = db)) (e2 : w'.heap[db]? = some (.cells #[.int .i64 room, .int .i64 s, .slice a k cap] 169)) : DkS w' db room s B (l.take k) := by
  have hlen : (l.take k).length = k := by rw [List.length_take]; omega
  have hob : (Value.slice a k cap).ownBlock = (Value.slice a l.length cap).ownBlock := by cases a <;> rfl
  refine ⟨⟨a, cap, by rw [hlen]; exact e2, ?_, by rw [hlen, hob]; exact hn⟩, h.hr, by omega, by have := h.hl; omega⟩
  rw [hlen]
  exact ownsRow_of_block (bs_take ho hk) (fun j hj => by
    rw [hob] at hj
    exact hc.block j (ho.lt j hj).2 (fun e => hn (by rw [hj, e])))
def DkNewPost (w : World) (room : Nat) (e : Ending) (w' : World) : Prop := e = .returned (.tuple #[.pointer (some ⟨w.heap.size, 0, none⟩), .int .i64 0]) ∧ DkS w' w.heap.size room 0 w.heap.size [] ∧ Below w.heap.size w w'
theorem dkNew_any (room : Nat) (hr : room ≤ 1073741824) (w : World) : Calls Try.prog 52 #[.int .i64 room] w (DkNewPost w room) := by
  have t1 : decide ((1073741824 : Int) < (room : Int)) = false := decide_eq_false (by omega)
  obtain ⟨W, hW⟩ : ∃ W, w.alloc (.cells #[.int .i64 room, .int .i64 0, .slice none 0 0] 169) = W := ⟨_, rfl⟩
  have HD : Hid (DkS W w.heap.size room 0 w.heap.size [] ∧ Below w.heap.size w W) := Lib.hid (by
    rw [← hW]
    exact ⟨⟨⟨none, 0, heap_new w _, BsO.nil _ _, fun e => by cases e⟩, hr, Nat.le_refl _, Nat.zero_le _⟩, below_box w _⟩)
  have HW := Lib.hid hW
  clear hW
  go_enter Try.func52, Try.ntmps52
  go_wp2_with fail
  rw [HW.out]
  go_ret2
  exact ⟨rfl, HD.out⟩
theorem dkLen_any {w : World} {db room safe B : Nat} {l : List UInt8} (h : DkS w db room safe B l) : Calls Try.prog 58 #[.pointer (some ⟨db, 0, none⟩)] w fun e w' => e = .returned (.int .i64 l.length) ∧ w = w' := by
  obtain ⟨a, cap, h1, _⟩ := h.ex
  have c2 := cell_of_blk h1 2
  simp at c2
  clear h h1
  go_enter Try.func58, Try.ntmps58
  go_wp2_with fail
  go_ret
  exact ⟨rfl, rfl⟩
theorem dkSafe_any {w : World} {db room safe B : Nat} {l : List UInt8} (h : DkS w db room safe B l) : Calls Try.prog 110 #[.pointer (some ⟨db, 0, none⟩)] w fun e w' => e = .returned (.int .i64 safe) ∧ w = w' := by
  obtain ⟨a, cap, h1, _⟩ := h.ex
  have c2 := cell_of_blk h1 1
  simp at c2
  clear h h1
  go_enter Try.func110, Try.ntmps110
  go_wp2_with fail
  go_ret
  exact ⟨rfl, rfl⟩
def DkPost (w : World) (db room safe B : Nat) (l : List UInt8) (n : Int) (e : Ending) (w' : World) : Prop := e = .returned (.int .i64 n) ∧ DkS w' db room safe B l ∧ Chg w w' (fun j => j = db)
theorem dkFlush_any {w : World} {db room safe B : Nat} {l : List UInt8} (h : DkS w db room safe B l) : Calls Try.prog 109 #[.pointer (some ⟨db, 0, none⟩)] w (DkPost w db room l.length B l l.length) := by
  obtain ⟨a, cap, h1, h2, h3⟩ := h.ex
  have c1 := cell_of_blk h1 1
  have c2 := cell_of_blk h1 2
  have f1 := frozen_of_blk h1 1
  simp at c1 c2
  have HC : Hid (Chg w (w.setCell ⟨db, 1, none⟩ (.int .i64 l.length)) (fun j => j = db)) := Lib.hid ((Chg.refl w (fun j => j = db)).setCell (p := ⟨db, 1, none⟩) (fun _ => rfl) _)
  have HD : Hid (DkS (w.setCell ⟨db, 1, none⟩ (.int .i64 l.length)) db room l.length B l) := Lib.hid (by
    have := h.cut (k := l.length) (s := l.length) h1 h2 h3 (Nat.le_refl _) (Nat.le_refl _) HC.out (by rw [blk_setCell h1]; rfl)
    rw [List.take_length] at this
    exact this)
  obtain ⟨n, hn⟩ : ∃ n, n = l.length := ⟨_, rfl⟩
  rw [← hn] at c2 HC HD ⊢
  clear h h1 h2 h3 hn
  go_enter Try.func109, Try.ntmps109
  go_wp2_with fail
  go_ret
  exact ⟨rfl, HD.out, HC.out⟩
/-- b[:n] of one's own bytes -/
theorem run_sliceBP {w : World} {B cap : Nat} {a : Option Addr} {l : List UInt8} (h : BsO w B (.slice a l.length cap) l) (k : Nat) (hk : k ≤ l.length) (u : World) :
    (Instr.sliceAt 22 (.slice a l.length cap) none (some (.int .i64 k)) none).run Try.prog u = .ok (.slice a k cap) u := by
  obtain ⟨_, h2, h3, h4⟩ := bs_cap h
  have hz : (k : Int) ≤ (cap : Int) := by omega
  cases a with
  | none =>
    obtain ⟨rfl, rfl⟩ := h3 rfl
    have : k = 0 := by simpa using hk
    subst this
    simp [Instr.sliceAt, go_sem, Try.underlying22]
  | some x =>
    obtain ⟨g, rfl, _⟩ := h4 x rfl
    simp [Instr.sliceAt, go_sem, Try.underlying22, hz]
theorem wpList_sliceBP {ops : Array Oper} {rest : List Oper} {o : Oper} {act : Act} {w : World} {Q : Exit → Act → World → Prop} (hgd : o.guard = none) (x i : Operand) (ho : o.op = .slice 22 x none (some i) none)
    (v v' : Value) (k : Int) (hx : act.eval x = v) (hi : act.eval i = .int .i64 k) (hr : (Instr.sliceAt 22 v none (some (.int .i64 k)) none).run Try.prog w = .ok v' w)
    (hK : wpList Try.prog ops Q rest (act.put o.dst v') w) : wpList Try.prog ops Q (o :: rest) act w := by
  refine wpList_plain hgd fun K' hK' => ?_
  unfold Oper.wp execOp
  simp only [ho, Option.map_some, Option.map_none, hx, hi, Sem.run_bind, Sem.run_pure, hr, Result.andThen_ok]
  exact hK' _ _ hK
set_option maxRecDepth 100000 in
set_option maxHeartbeats 1000000 in
theorem dkCut_any {w : World} {db room safe B : Nat} {l : List UInt8} (h : DkS w db room safe B l) (k : Nat) (hk : k ≤ l.length) : Calls Try.prog 107 #[.pointer (some ⟨db, 0, none⟩), .int .i64 k] w (DkPost w db room k B (l.take k) 0) := by
  obtain ⟨a, cap, h1, h2, h3⟩ := h.ex
  have c2 := cell_of_blk h1 2
  have f2 := frozen_of_blk h1 2
  simp at c2
  have hlen : (l.take k).length = k := by rw [List.length_take]; omega
  obtain ⟨V, hV⟩ : ∃ V, w.setCell ⟨db, 2, none⟩ (.slice a k cap) = V := ⟨_, rfl⟩
  have HC : Hid (Chg w V (fun j => j = db)) := Lib.hid (by rw [← hV]; exact (Chg.refl w (fun j => j = db)).setCell (p := ⟨db, 2, none⟩) (fun _ => rfl) _)
  have e2 : V.heap[db]? = some (.cells #[.int .i64 room, .int .i64 safe, .slice a k cap] 169) := by rw [← hV, blk_setCell h1]; rfl
  have hob : (Value.slice a k cap).ownBlock = (Value.slice a l.length cap).ownBlock := by cases a <;> rfl
  have hBk : BsO V B (.slice a k cap) (l.take k) := ownsRow_of_block (bs_take h2 hk) (fun j hj => by
    rw [hob] at hj
    exact HC.out.block j (h2.lt j hj).2 (fun e => h3 (by rw [hj, e])))
  have HR := Lib.hid (fun u => run_sliceBP h2 k hk u)
  have HV := Lib.hid hV
  have HL := Lib.hid hlen
  obtain ⟨n, hn⟩ : ∃ n, n = l.length := ⟨_, rfl⟩
  rw [← hn] at c2 hk HR
  have hroom := h.hr
  have hll := h.hl
  -- the flush behind it: a disk whose safe part may lie behind its end
  have HF : Hid (Calls Try.prog 109 #[.pointer (some ⟨db, 0, none⟩)] V (DkPost V db room k B (l.take k) k)) := Lib.hid (by
    have c1' := cell_of_blk e2 1
    have c2' := cell_of_blk e2 2
    have f1' := frozen_of_blk e2 1
    simp at c1' c2'
    have HC2 : Hid (Chg V (V.setCell ⟨db, 1, none⟩ (.int .i64 k)) (fun j => j = db)) := Lib.hid ((Chg.refl V (fun j => j = db)).setCell (p := ⟨db, 1, none⟩) (fun _ => rfl) _)
    have HD : Hid (DkS (V.setCell ⟨db, 1, none⟩ (.int .i64 k)) db room k B (l.take k)) := Lib.hid (by
      refine ⟨⟨a, cap, by rw [blk_setCell e2, hlen]; rfl, ?_, by rw [hlen, hob]; exact h3⟩, hroom, by omega, by omega⟩
      rw [hlen]
      exact ownsRow_of_block hBk (fun j hj => by
        rw [hob] at hj
        exact HC2.out.block j (Nat.lt_of_lt_of_le (h2.lt j hj).2 HC.out.size) (fun e => h3 (by rw [hj, e]))))
    clear h1 h2 h3 e2 hBk c2 f2 h hV hob hn hlen
    go_enter Try.func109, Try.ntmps109
    go_wp2_with fail
    go_ret
    exact ⟨rfl, HD.out, HC2.out⟩)
  have t1 : decide ((n : Int) < (k : Int)) = false := decide_eq_false (by omega)
  clear h h1 h2 h3 hV e2 hob hBk hlen hn hroom hll
  go_enter Try.func107, Try.ntmps107
  go_upto_region 4 with (first | (refine wpList_sliceBP (o := ⟨some 22, _, _, _, _, _⟩) rfl (.tmp 20) (.tmp 21) rfl _ (.slice a k cap) k rfl rfl (HR.out _) ?_) | fail)
  rw [HV.out]
  go_wp2_with fail
  refine HF.out.mono ?_
  rintro e w3 ⟨rfl, q1, q2⟩
  have HQ := Lib.hid (And.intro q1 q2)
  clear q1 q2
  go_wp2_with fail
  go_ret
  exact ⟨rfl, HQ.out.1, HC.out.trans HQ.out.2 (fun _ _ h => h)⟩
end Go.Proofs.Ytcghgnncmnoalaa
