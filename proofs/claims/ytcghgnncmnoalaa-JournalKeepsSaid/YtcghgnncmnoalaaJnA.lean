/- The disk. Conditions: each contract's own premises. The disk: what is left, Bytes, Append, Crash. Conditions: each contract's own premises. The disk: a crash. Conditions: each contract's own premises. The journal: its state; Open. Conditions: each contract's own premises. The journal: what it tells; Sure, Flush. Conditions: each contract's own premises. The journal: Flush, bytes, Promise. Conditions: each contract's own premises. The journal: Promise, Append. Conditions: each contract's own premises. The journal: Append. Conditions: each contract's own premises. The journal: Mark. Conditions: each contract's own premises. The journal: Mark's walk. Conditions: each contract's own premises. The document's examples of layer 15. Conditions: each contract's own premises. -/
import Derived.Test.YtcghgnncmnoalaaRcLaw
import Derived.Test.YtcghgnncmnoalaaCutPlain
import Derived.BigQuiet
import Derived.StillTailTactics
import Derived.Deep.RegionLaw
import Derived.Test.YtcghgnncmnoalaaAw
namespace Go.Proofs.Ytcghgnncmnoalaa
open Go.RowKit Go.Maps

/-- a disk: its block, its room, how much is safe, its bytes -/
structure DkS (w : World) (db room safe B : Nat) (l : List UInt8) : Prop where
  ex : ∃ a cap, w.heap[db]? = some (.cells #[.int .i64 room, .int .i64 safe, .slice a l.length cap] 169) ∧ BsO w B (.slice a l.length cap) l ∧ (Value.slice a l.length cap).ownBlock ≠ some db
  hr : room ≤ 1073741824
  hs : safe ≤ l.length
  hl : l.length ≤ 1000000
theorem DkS.lt {w : World} {db room safe B : Nat} {l : List UInt8} (h : DkS w db room safe B l) : db < w.heap.size := by
  obtain ⟨a, cap, h1, _⟩ := h.ex
  exact (Array.getElem?_eq_some_iff.1 h1).1
theorem DkS.below {w w' : World} {db room safe B : Nat} {l : List UInt8} (h : DkS w db room safe B l) (hb : Below w.heap.size w w') : DkS w' db room safe B l := by
  obtain ⟨a, cap, h1, h2, h3⟩ := h.ex
  exact ⟨⟨a, cap, (hb.block _ h.lt).trans h1, h2.below hb, h3⟩, h.hr, h.hs, h.hl⟩
theorem bs_cap {w : World} {B n cap : Nat} {a : Option Addr} {l : List UInt8} (h : BsO w B (.slice a n cap) l) : n = l.length ∧ l.length ≤ cap ∧ (a = none → l = [] ∧ cap = 0) ∧ (∀ x, a = some x → ∃ g, x = ⟨g, 0, none⟩ ∧ B ≤ g ∧ g < w.heap.size) := by
  rcases h.2 with ⟨h1, h2⟩ | ⟨g, cp, cur, h1, h2, h3, h4, _⟩
  · injection h1 with e1 e2 e3
    subst e1 e2 e3
    exact ⟨h2.symm, by omega, fun _ => ⟨List.eq_nil_of_length_eq_zero h2, rfl⟩, fun x e => by cases e⟩
  · injection h1 with e1 e2 e3
    subst e1 e2 e3
    exact ⟨rfl, h4, fun e => (by cases e), fun x e => ⟨g, (by injection e with e; exact e.symm), h2, (Array.getElem?_eq_some_iff.1 h3).1⟩⟩
theorem bs_take {w : World} {B cap : Nat} {a : Option Addr} {l : List UInt8} (h : BsO w B (.slice a l.length cap) l) {k : Nat} (hk : k ≤ l.length) : BsO w B (.slice a k cap) (l.take k) := by
  have hlen : (l.take k).length = k := by rw [List.length_take]; omega
  refine ⟨by rw [List.length_map]; omega, ?_⟩
  rcases h.2 with ⟨h1, h2⟩ | ⟨g, cp, cur, h1, h2, h3, h4, h5, h6, h7⟩
  · injection h1 with e1 e2 e3
    left
    have : k = 0 := by omega
    subst this e1 e3
    exact ⟨rfl, hlen⟩
  · injection h1 with e1 e2 e3
    right
    refine ⟨g, cp, cur, by rw [hlen, e1, e3], h2, h3, by omega, h5, h6, ?_⟩
    rw [hlen, Nat.mul_one, List.map_take, ← show cur.toList.take (l.length * 1) = l.map bv from h7, List.take_take]
    congr 1; omega
/-- a disk's bytes, taken -/
theorem DkS.cut {w w' : World} {db room safe B k s : Nat} {l : List UInt8} {a : Option Addr} {cap : Nat} (h : DkS w db room safe B l) (e : w.heap[db]? = some (.cells #[.int .i64 room, .int .i64 safe, .slice a l.length cap] 169)) (ho : BsO w B (.slice a l.length cap) l) (hn : (Value.slice a l.length cap).ownBlock ≠ some db)
    (hk : k ≤ l.length) (hs : s ≤ k) (hc : Chg w w' (fun j => j = db)) (e2 : w'.heap[db]? = some (.cells #[.int .i64 room, .int .i64 s, .slice a k cap] 169)) : DkS w' db room s B (l.take k) := by
  have hlen : (l.take k).length = k := by rw [List.length_take]; omega
  have hob : (Value.slice a k cap).ownBlock = (Value.slice a l.length cap).ownBlock := by cases a <;> rfl
  refine ⟨⟨a, cap, by rw [hlen]; exact e2, ?_, by rw [hlen, hob]; exact hn⟩, h.hr, by omega, by have := h.hl; omega⟩
  rw [hlen]
  exact ownsRow_of_block (bs_take ho hk) (fun j hj => by
    rw [hob] at hj
    exact hc.block j (ho.lt j hj).2 (fun e => hn (by rw [hj, e])))
def DkNewPost (w : World) (room : Nat) (e : Ending) (w' : World) : Prop := e = .returned (.tuple #[.pointer (some ⟨w.heap.size, 0, none⟩), .int .i64 0]) ∧ DkS w' w.heap.size room 0 w.heap.size [] ∧ Below w.heap.size w w'
theorem dkNew_any (room : Nat) (hr : room ≤ 1073741824) (w : World) : Calls Try.prog 52 #[.int .i64 room] w (DkNewPost w room) := by
  have t1 : decide ((1073741824 : Int) < (room : Int)) = false := decide_eq_false (by omega)
  obtain ⟨W, hW⟩ : ∃ W, w.alloc (.cells #[.int .i64 room, .int .i64 0, .slice none 0 0] 169) = W := ⟨_, rfl⟩
  have HD : Hid (DkS W w.heap.size room 0 w.heap.size [] ∧ Below w.heap.size w W) := Lib.hid (by
    rw [← hW]
    exact ⟨⟨⟨none, 0, heap_new w _, BsO.nil _ _, fun e => by cases e⟩, hr, Nat.le_refl _, Nat.zero_le _⟩, below_box w _⟩)
  have HW := Lib.hid hW
  clear hW
  go_enter Try.func52, Try.ntmps52
  go_wp2_with fail
  rw [HW.out]
  go_ret2
  exact ⟨rfl, HD.out⟩
theorem dkLen_any {w : World} {db room safe B : Nat} {l : List UInt8} (h : DkS w db room safe B l) : Calls Try.prog 58 #[.pointer (some ⟨db, 0, none⟩)] w fun e w' => e = .returned (.int .i64 l.length) ∧ w = w' := by
  obtain ⟨a, cap, h1, _⟩ := h.ex
  have c2 := cell_of_blk h1 2
  simp at c2
  clear h h1
  go_enter Try.func58, Try.ntmps58
  go_wp2_with fail
  go_ret
  exact ⟨rfl, rfl⟩
theorem dkSafe_any {w : World} {db room safe B : Nat} {l : List UInt8} (h : DkS w db room safe B l) : Calls Try.prog 110 #[.pointer (some ⟨db, 0, none⟩)] w fun e w' => e = .returned (.int .i64 safe) ∧ w = w' := by
  obtain ⟨a, cap, h1, _⟩ := h.ex
  have c2 := cell_of_blk h1 1
  simp at c2
  clear h h1
  go_enter Try.func110, Try.ntmps110
  go_wp2_with fail
  go_ret
  exact ⟨rfl, rfl⟩
def DkPost (w : World) (db room safe B : Nat) (l : List UInt8) (n : Int) (e : Ending) (w' : World) : Prop := e = .returned (.int .i64 n) ∧ DkS w' db room safe B l ∧ Chg w w' (fun j => j = db)
theorem dkFlush_any {w : World} {db room safe B : Nat} {l : List UInt8} (h : DkS w db room safe B l) : Calls Try.prog 109 #[.pointer (some ⟨db, 0, none⟩)] w (DkPost w db room l.length B l l.length) := by
  obtain ⟨a, cap, h1, h2, h3⟩ := h.ex
  have c1 := cell_of_blk h1 1
  have c2 := cell_of_blk h1 2
  have f1 := frozen_of_blk h1 1
  simp at c1 c2
  have HC : Hid (Chg w (w.setCell ⟨db, 1, none⟩ (.int .i64 l.length)) (fun j => j = db)) := Lib.hid ((Chg.refl w (fun j => j = db)).setCell (p := ⟨db, 1, none⟩) (fun _ => rfl) _)
  have HD : Hid (DkS (w.setCell ⟨db, 1, none⟩ (.int .i64 l.length)) db room l.length B l) := Lib.hid (by
    have := h.cut (k := l.length) (s := l.length) h1 h2 h3 (Nat.le_refl _) (Nat.le_refl _) HC.out (by rw [blk_setCell h1]; rfl)
    rw [List.take_length] at this
    exact this)
  obtain ⟨n, hn⟩ : ∃ n, n = l.length := ⟨_, rfl⟩
  rw [← hn] at c2 HC HD ⊢
  clear h h1 h2 h3 hn
  go_enter Try.func109, Try.ntmps109
  go_wp2_with fail
  go_ret
  exact ⟨rfl, HD.out, HC.out⟩
/-- b[:n] of one's own bytes -/
theorem run_sliceBP {w : World} {B cap : Nat} {a : Option Addr} {l : List UInt8} (h : BsO w B (.slice a l.length cap) l) (k : Nat) (hk : k ≤ l.length) (u : World) :
    (Instr.sliceAt 22 (.slice a l.length cap) none (some (.int .i64 k)) none).run Try.prog u = .ok (.slice a k cap) u := by
  obtain ⟨_, h2, h3, h4⟩ := bs_cap h
  have hz : (k : Int) ≤ (cap : Int) := by omega
  cases a with
  | none =>
    obtain ⟨rfl, rfl⟩ := h3 rfl
    have : k = 0 := by simpa using hk
    subst this
    simp [Instr.sliceAt, go_sem, Try.underlying22]
  | some x =>
    obtain ⟨g, rfl, _⟩ := h4 x rfl
    simp [Instr.sliceAt, go_sem, Try.underlying22, hz]
theorem wpList_sliceBP {ops : Array Oper} {rest : List Oper} {o : Oper} {act : Act} {w : World} {Q : Exit → Act → World → Prop} (hgd : o.guard = none) (x i : Operand) (ho : o.op = .slice 22 x none (some i) none)
    (v v' : Value) (k : Int) (hx : act.eval x = v) (hi : act.eval i = .int .i64 k) (hr : (Instr.sliceAt 22 v none (some (.int .i64 k)) none).run Try.prog w = .ok v' w)
    (hK : wpList Try.prog ops Q rest (act.put o.dst v') w) : wpList Try.prog ops Q (o :: rest) act w := by
  refine wpList_plain hgd fun K' hK' => ?_
  unfold Oper.wp execOp
  simp only [ho, Option.map_some, Option.map_none, hx, hi, Sem.run_bind, Sem.run_pure, hr, Result.andThen_ok]
  exact hK' _ _ hK
set_option maxRecDepth 100000 in
set_option maxHeartbeats 1000000 in
theorem dkCut_any {w : World} {db room safe B : Nat} {l : List UInt8} (h : DkS w db room safe B l) (k : Nat) (hk : k ≤ l.length) : Calls Try.prog 107 #[.pointer (some ⟨db, 0, none⟩), .int .i64 k] w (DkPost w db room k B (l.take k) 0) := by
  obtain ⟨a, cap, h1, h2, h3⟩ := h.ex
  have c2 := cell_of_blk h1 2
  have f2 := frozen_of_blk h1 2
  simp at c2
  have hlen : (l.take k).length = k := by rw [List.length_take]; omega
  obtain ⟨V, hV⟩ : ∃ V, w.setCell ⟨db, 2, none⟩ (.slice a k cap) = V := ⟨_, rfl⟩
  have HC : Hid (Chg w V (fun j => j = db)) := Lib.hid (by rw [← hV]; exact (Chg.refl w (fun j => j = db)).setCell (p := ⟨db, 2, none⟩) (fun _ => rfl) _)
  have e2 : V.heap[db]? = some (.cells #[.int .i64 room, .int .i64 safe, .slice a k cap] 169) := by rw [← hV, blk_setCell h1]; rfl
  have hob : (Value.slice a k cap).ownBlock = (Value.slice a l.length cap).ownBlock := by cases a <;> rfl
  have hBk : BsO V B (.slice a k cap) (l.take k) := ownsRow_of_block (bs_take h2 hk) (fun j hj => by
    rw [hob] at hj
    exact HC.out.block j (h2.lt j hj).2 (fun e => h3 (by rw [hj, e])))
  have HR := Lib.hid (fun u => run_sliceBP h2 k hk u)
  have HV := Lib.hid hV
  have HL := Lib.hid hlen
  obtain ⟨n, hn⟩ : ∃ n, n = l.length := ⟨_, rfl⟩
  rw [← hn] at c2 hk HR
  have hroom := h.hr
  have hll := h.hl
  -- the flush behind it: a disk whose safe part may lie behind its end
  have HF : Hid (Calls Try.prog 109 #[.pointer (some ⟨db, 0, none⟩)] V (DkPost V db room k B (l.take k) k)) := Lib.hid (by
    have c1' := cell_of_blk e2 1
    have c2' := cell_of_blk e2 2
    have f1' := frozen_of_blk e2 1
    simp at c1' c2'
    have HC2 : Hid (Chg V (V.setCell ⟨db, 1, none⟩ (.int .i64 k)) (fun j => j = db)) := Lib.hid ((Chg.refl V (fun j => j = db)).setCell (p := ⟨db, 1, none⟩) (fun _ => rfl) _)
    have HD : Hid (DkS (V.setCell ⟨db, 1, none⟩ (.int .i64 k)) db room k B (l.take k)) := Lib.hid (by
      refine ⟨⟨a, cap, by rw [blk_setCell e2, hlen]; rfl, ?_, by rw [hlen, hob]; exact h3⟩, hroom, by omega, by omega⟩
      rw [hlen]
      exact ownsRow_of_block hBk (fun j hj => by
        rw [hob] at hj
        exact HC2.out.block j (Nat.lt_of_lt_of_le (h2.lt j hj).2 HC.out.size) (fun e => h3 (by rw [hj, e]))))
    clear h1 h2 h3 e2 hBk c2 f2 h hV hob hn hlen
    go_enter Try.func109, Try.ntmps109
    go_wp2_with fail
    go_ret
    exact ⟨rfl, HD.out, HC2.out⟩)
  have t1 : decide ((n : Int) < (k : Int)) = false := decide_eq_false (by omega)
  clear h h1 h2 h3 hV e2 hob hBk hlen hn hroom hll
  go_enter Try.func107, Try.ntmps107
  go_upto_region 4 with (first | (refine wpList_sliceBP (o := ⟨some 22, _, _, _, _, _⟩) rfl (.tmp 20) (.tmp 21) rfl _ (.slice a k cap) k rfl rfl (HR.out _) ?_) | fail)
  rw [HV.out]
  go_wp2_with fail
  refine HF.out.mono ?_
  rintro e w3 ⟨rfl, q1, q2⟩
  have HQ := Lib.hid (And.intro q1 q2)
  clear q1 q2
  go_wp2_with fail
  go_ret
  exact ⟨rfl, HQ.out.1, HC.out.trans HQ.out.2 (fun _ _ h => h)⟩
end Go.Proofs.Ytcghgnncmnoalaa
namespace Go.Proofs.Ytcghgnncmnoalaa
open Go.RowKit Go.Maps

/-- the block of a disk's bytes -/
def dob (w : World) (db : Nat) : Option Nat := match w.heap[db]? with | some (.cells cs _ _) => (match cs[2]? with | some v => v.ownBlock | none => none) | _ => none
theorem dob_eq {w : World} {db : Nat} {a b v : Value} {t : TypeId} {z : Nat × Nat} (h : w.heap[db]? = some (.cells #[a, b, v] t z)) : dob w db = v.ownBlock := by unfold dob; rw [h]; rfl
theorem dob_below {w w' : World} {db room safe B : Nat} {l : List UInt8} (h : DkS w db room safe B l) (hb : Below w.heap.size w w') : dob w' db = dob w db := by unfold dob; rw [hb.block _ h.lt]
theorem dkLeft_any {w : World} {db room safe B : Nat} {l : List UInt8} (h : DkS w db room safe B l) : Calls Try.prog 59 #[.pointer (some ⟨db, 0, none⟩)] w fun e w' => e = .returned (.int .i64 ((room : Int) - l.length)) ∧ Below w.heap.size w w' := by
  obtain ⟨a, cap, h1, _⟩ := h.ex
  have c0 := cell_of_blk h1 0
  have c2 := cell_of_blk h1 2
  simp at c0 c2
  have hr := h.hr
  have hl := h.hl
  obtain ⟨n, hn⟩ : ∃ n, n = l.length := ⟨_, rfl⟩
  rw [← hn] at c2 hl ⊢
  have w1 : IntKind.i64.wrap ((room : Int) - (n : Int)) = (room : Int) - (n : Int) := by rw [IntKind.wrap_i64]; omega
  clear h h1 hn
  go_enter Try.func59, Try.ntmps59
  go_wp2_with fail
  first
    | (go_ret; exact ⟨rfl, Below.refl _ _⟩)
    | (go_quiet (fail); go_wp2_with fail; go_ret; exact ⟨rfl, below_drewN (Below.refl _ _) _⟩)
def DkBytesPost (w : World) (l : List UInt8) (e : Ending) (w' : World) : Prop := ∃ v, e = .returned v ∧ BsO w' w.heap.size v l ∧ Below w.heap.size w w'
theorem dkBytes_any {w : World} {db room safe B : Nat} {l : List UInt8} (h : DkS w db room safe B l) : Calls Try.prog 67 #[.pointer (some ⟨db, 0, none⟩)] w (DkBytesPost w l) := by
  obtain ⟨a, cap, h1, h2, _⟩ := h.ex
  have c2 := cell_of_blk h1 2
  simp at c2
  have hl := h.hl
  obtain ⟨_, g2, g3, g4⟩ := bs_cap h2
  cases a with
  | none =>
    obtain ⟨rfl, rfl⟩ := g3 rfl
    clear h h1 h2 g2 g3 g4
    go_enter Try.func67, Try.ntmps67
    go_wp2_with fail
    refine (clone_nil _).mono ?_
    rintro e w1 ⟨rfl, rfl⟩
    go_wp2_with fail
    go_ret
    exact ⟨_, rfl, BsO.nil _ _, Below.refl _ _⟩
  | some x =>
    obtain ⟨g, rfl, _⟩ := g4 x rfl
    have HV := Lib.hid (BsO.bsV h2)
    obtain ⟨n, hn⟩ : ∃ n, l.length = n := ⟨_, rfl⟩
    rw [hn] at c2
    have HN := Lib.hid hn
    clear h h1 h2 g2 g3 g4 hn
    go_enter Try.func67, Try.ntmps67
    go_wp2_with fail
    refine (clone_any g 0 n cap l _ HV.out HN.out (by omega)).mono ?_
    rintro e w1 ⟨v, rfl, q1, q2⟩
    have HQ := Lib.hid (And.intro q1 q2)
    clear q1 q2
    go_wp2_with fail
    go_ret
    exact ⟨_, rfl, HQ.out⟩
/-- what laying bytes leaves -/
def DkAppPost (w : World) (db room safe B : Nat) (l xl : List UInt8) (e : Ending) (w' : World) : Prop :=
  (l.length + xl.length ≤ room → e = .returned (.int .i64 0) ∧ DkS w' db room safe B (l ++ xl) ∧ Chg w w' (fun j => j = db ∨ dob w db = some j) ∧ (dob w' db = dob w db ∨ ∃ j, w.heap.size ≤ j ∧ dob w' db = some j)) ∧
  (room < l.length + xl.length → e = .returned (.int .i64 50) ∧ Below w.heap.size w w')
/-- the room that is left, through the loop over the slices -/
def DkLf (i : Nat) (lf r x : Int) : Prop := (i = 0 → lf = r) ∧ (i = 1 → x ≤ r)
theorem DkLf.zero (r x : Int) : DkLf 0 r r x := ⟨fun _ => rfl, fun e => absurd e (by decide)⟩
theorem DkLf.one {lf r x : Int} (h : x ≤ r) : DkLf 1 lf r x := ⟨fun e => absurd e (by decide), fun _ => h⟩
/-- the bytes are laid -/
def DkLaid (w wr : World) (db room safe B : Nat) (l : List UInt8) : Prop := DkS wr db room safe B l ∧ Chg w wr (fun j => j = db ∨ dob w db = some j) ∧ (dob wr db = dob w db ∨ ∃ j, w.heap.size ≤ j ∧ dob wr db = some j)
def DkAt (i : Nat) (w w1 wr : World) (db room safe B : Nat) (l : List UInt8) : Prop := (i = 0 → w1 = wr) ∧ (i = 1 → DkLaid w wr db room safe B l)
theorem DkAt.zero (w w1 : World) (db room safe B : Nat) (l : List UInt8) : DkAt 0 w w1 w1 db room safe B l := ⟨fun _ => rfl, fun e => absurd e (by decide)⟩
theorem DkAt.one {w w1 wr : World} {db room safe B : Nat} {l : List UInt8} (h : DkLaid w wr db room safe B l) : DkAt 1 w w1 wr db room safe B l := ⟨fun e => absurd e (by decide), fun _ => h⟩
set_option maxRecDepth 100000 in
set_option maxHeartbeats 4000000 in
theorem dkAppend_any {w : World} {db room safe B : Nat} {l : List UInt8} (h : DkS w db room safe B l) (hB : B ≤ w.heap.size) (sb : Nat) (xa : Option Addr) (xn xc : Nat) (xl : List UInt8) (hs : w.heap[sb]? = some (.cells #[.slice xa xn xc] 22)) (hso : dob w db ≠ some sb)
    (hxn : xn = xl.length) (hx : BsV w xa xl) (hxl : l.length + xl.length ≤ 1000000) :
    Calls Try.prog 66 #[.pointer (some ⟨db, 0, none⟩), .slice (some ⟨sb, 0, none⟩) 1 1] w (DkAppPost w db room safe B l xl) := by
  have HS := Lib.hid h
  have HSB := Lib.hid hs
  have HX := Lib.hid hx
  have HXN := Lib.hid hxn
  have HSO := Lib.hid hso
  obtain ⟨n, hn⟩ : ∃ n, l.length = n := ⟨_, rfl⟩
  have HN := Lib.hid hn
  have hr := h.hr
  have hxn6 : n + xn ≤ 1000000 := by omega
  clear h hs hx hxn hso hn
  go_enter Try.func66, Try.ntmps66
  go_wp2_with fail
  refine (dkLeft_any HS.out).mono ?_
  rintro e w1 ⟨rfl, b1⟩
  rw [HN.out]
  have HS1 := Lib.hid (HS.out.below b1)
  have hs1 := (b1.block _ (Array.getElem?_eq_some_iff.1 HSB.out).1).trans HSB.out
  have HSB1 := Lib.hid hs1
  have HB1 := Lib.hid b1
  have HD1 : Hid (dob w1 db = dob w db) := Lib.hid (dob_below HS.out b1)
  have k0 := cell_of_blk hs1 0
  simp at k0
  clear b1 hs1
  go_wp2_with fail
  go_loopw [5, 7, 14] (fun vl _ vi wr => ∃ (i : Nat) (lf : Int), i ≤ 1 ∧ vi = .int .i64 i ∧ vl = .int .i64 lf ∧ -1000000 ≤ lf ∧ lf ≤ 1073741824 ∧ w1 = wr ∧ Hid (DkLf i lf ((room : Int) - n) (xn : Int))) (fun _ _ vi _ => 1 - (intOf vi).toNat)
  case atStart => exact ⟨0, (room : Int) - n, by omega, rfl, rfl, by omega, by omega, rfl, Lib.hid (DkLf.zero _ _)⟩
  case round =>
    obtain ⟨i, lf, hi, rfl, rfl, hlf1, hlf2, rfl, HI⟩ := hrel
    by_cases hi0 : i = 0
    · subst hi0
      have hlf := HI.out.1 rfl
      by_cases hbig : lf < (xn : Int)
      · have t1 : decide (lf < (xn : Int)) = true := decide_eq_true hbig
        clear hlf
        go_wp2_with fail
        go_ret
        refine ⟨fun hh => ?_, fun _ => ⟨by first | exact trivial | rfl, HB1.out⟩⟩
        have := HI.out.1 rfl
        have := HXN.out
        have := HN.out
        omega
      · have t1 : decide (lf < (xn : Int)) = false := decide_eq_false hbig
        have hfit : (xn : Int) ≤ (room : Int) - n := by omega
        clear hlf
        go_wp2_with fail
        exact ⟨⟨1, lf - xn, by omega, rfl, rfl, by omega, by omega, by first | exact trivial | rfl, Lib.hid (DkLf.one hfit)⟩, by simp [intOf]⟩
    · have hi1 : i = 1 := by omega
      have hfit := HI.out.2 hi1
      have hi2 : (i : Int) = 1 := by omega
      rw [hi2]
      clear HI
      go_wp2_with fail
      go_loopw [9, 29] (fun _ vi wr => ∃ i : Nat, i ≤ 1 ∧ vi = .int .i64 i ∧ Hid (DkAt i w w1 wr db room safe B (l ++ xl))) (fun _ vi _ => 1 - (intOf vi).toNat)
      case atStart => exact ⟨0, by omega, rfl, Lib.hid (DkAt.zero _ _ _ _ _ _ _)⟩
      case round =>
        obtain ⟨i, hi, rfl, HJ⟩ := hrel
        by_cases hi0 : i = 0
        · subst hi0
          obtain rfl := HJ.out.1 rfl
          obtain ⟨a, cap, h1, h2, h3⟩ := HS1.out.ex
          have c2 := cell_of_blk h1 2
          simp at c2
          rw [HN.out] at c2
          have f2 := frozen_of_blk h1 2
          have HO : Hid (BsO w1 B (.slice a n cap) l) := Lib.hid (by rw [← HN.out]; exact h2)
          have HE := Lib.hid h1
          have hob : (Value.slice a l.length cap).ownBlock = (Value.slice a n cap).ownBlock := by cases a <;> rfl
          have HNE : Hid ((Value.slice a n cap).ownBlock ≠ some db) := Lib.hid (by rw [← hob]; exact h3)
          have HDO : Hid (dob w db = (Value.slice a n cap).ownBlock) := Lib.hid (by rw [← HD1.out, dob_eq h1, hob])
          have HSRC : Hid (Src Try.prog 1 22 (.slice xa xn xc) xn (xl.map bv) w1) := Lib.hid (by rw [HXN.out]; exact BsV.src (HX.out.below HB1.out) xc)
          have HF : Hid (∀ v5 w5, AppPost w1 B (.slice a n cap) (l ++ xl) v5 w5 → ∃ a5 c5, v5 = .slice a5 (l ++ xl).length c5 ∧ w5.cell? ⟨db, 2, none⟩ = some (.slice a n cap) ∧ w5.frozen? ⟨db, 2, none⟩ = false ∧ DkLaid w (w5.setCell ⟨db, 2, none⟩ v5) db room safe B (l ++ xl)) := Lib.hid (fun v5 w5 h5 => by
            obtain ⟨o5, b5, g5, r5⟩ := h5
            obtain ⟨a5, c5, hv5⟩ := o5.shape
            have hlt := (Array.getElem?_eq_some_iff.1 HE.out).1
            have e5 : w5.heap[db]? = some (.cells #[.int .i64 room, .int .i64 safe, .slice a n cap] 169) := by
              rw [g5.block db hlt (fun e => HNE.out e.symm), HE.out, HN.out]
            have hne5 : v5.ownBlock ≠ some db := by
              rcases r5 with r | r
              · rw [r]; exact HNE.out
              · rw [r]; intro e; injection e with e; omega
            have e6 : (w5.setCell ⟨db, 2, none⟩ v5).heap[db]? = some (.cells #[.int .i64 room, .int .i64 safe, v5] 169) := by rw [blk_setCell e5]; rfl
            refine ⟨a5, c5, hv5, ?_, frozen_of_blk e5 2, ⟨⟨a5, c5, by rw [e6, hv5], ?_, by rw [← hv5]; exact hne5⟩, hr, by have := HS.out.hs; rw [List.length_append]; omega, by rw [List.length_append]; omega⟩, ?_, ?_⟩
            · have := cell_of_blk e5 2
              simpa using this
            · rw [← hv5]
              exact ownsRow_of_block o5 (fun j hj => Below.heap_setCell _ _ _ _ (fun e => hne5 (by rw [hj]; exact congrArg some (by simpa using e))))
            · have hc1 : Chg w w5 (fun j => j = db ∨ dob w db = some j) := (Chg.of_below HB1.out _).grown g5 (fun m hm _ => .inr (by rw [HDO.out]; exact hm))
              exact hc1.setCell (p := ⟨db, 2, none⟩) (fun _ => .inl rfl) _
            · rw [dob_eq e6, HDO.out]
              rcases r5 with r | r
              · exact .inl r
              · exact .inr ⟨_, HB1.out.size, r⟩)
          clear h1 h2 h3 hob
          go_wp2_with ((at_builtin; refine wpList_appX _ rfl (.tmp 37) (.tmp 38) 22 rfl B _ _ rfl HO.out (.slice xa xn xc) xn xl rfl HXN.out.symm HSRC.out (by omega) (Nat.le_trans hB HB1.out.size) ?_; rintro v5 w5 h5; obtain ⟨a5, c5, rfl, q1, q2, q3⟩ := HF.out v5 w5 h5; have HQ := Lib.hid q3; clear h5 q3))
          exact ⟨⟨1, by omega, rfl, Lib.hid (DkAt.one (by have hq := HQ.out; rw [List.length_append] at hq; exact hq))⟩, by simp [intOf]⟩
        · obtain rfl : i = 1 := by omega
          have hQ := HJ.out.2 rfl
          have HQ := Lib.hid hQ
          clear hQ HJ
          go_wp2_with fail
          go_ret
          refine ⟨fun _ => ⟨by first | rfl | trivial, HQ.out⟩, fun hh => ?_⟩
          have := HXN.out
          have := HN.out
          omega
end Go.Proofs.Ytcghgnncmnoalaa
namespace Go.Proofs.Ytcghgnncmnoalaa
open Go.RowKit Go.Maps

/-- how much a crash leaves -/
def crashN (safe len : Nat) (keep : Int) : Nat := safe + (min (max keep 0) ((len : Int) - safe)).toNat
theorem crashN_le {safe len : Nat} (keep : Int) (h : safe ≤ len) : safe ≤ crashN safe len keep ∧ crashN safe len keep ≤ len := by unfold crashN; omega
theorem crashN_eq {safe len : Nat} (keep : Int) (h : safe ≤ len) : (safe : Int) + min (max keep 0) ((len : Int) - safe) = (crashN safe len keep : Nat) := by unfold crashN; omega
/-- a flush of a disk whose safe part may lie behind its end -/
theorem dkFlush_cell {V : World} {db room safe k B cap : Nat} {a : Option Addr} {l : List UInt8} (e2 : V.heap[db]? = some (.cells #[.int .i64 room, .int .i64 safe, .slice a k cap] 169)) (hk : l.length = k) (hb : BsO V B (.slice a k cap) l) (h3 : (Value.slice a k cap).ownBlock ≠ some db) (hroom : room ≤ 1073741824) (hll : k ≤ 1000000) :
    Calls Try.prog 109 #[.pointer (some ⟨db, 0, none⟩)] V (DkPost V db room k B l k) := by
  have c1' := cell_of_blk e2 1
  have c2' := cell_of_blk e2 2
  have f1' := frozen_of_blk e2 1
  simp at c1' c2'
  have HC2 : Hid (Chg V (V.setCell ⟨db, 1, none⟩ (.int .i64 k)) (fun j => j = db)) := Lib.hid ((Chg.refl V (fun j => j = db)).setCell (p := ⟨db, 1, none⟩) (fun _ => rfl) _)
  have HD : Hid (DkS (V.setCell ⟨db, 1, none⟩ (.int .i64 k)) db room k B l) := Lib.hid (by
    refine ⟨⟨a, cap, by rw [blk_setCell e2, hk]; rfl, ?_, by rw [hk]; exact h3⟩, hroom, by omega, by omega⟩
    rw [hk]
    exact ownsRow_of_block hb (fun j hj => HC2.out.block j (hb.lt j hj).2 (fun e => h3 (by rw [hj, e]))))
  clear e2 hb h3 hk
  go_enter Try.func109, Try.ntmps109
  go_wp2_with fail
  go_ret
  exact ⟨rfl, HD.out, HC2.out⟩
set_option maxRecDepth 100000 in
set_option maxHeartbeats 4000000 in
theorem dkCrash_any {w : World} {db room safe B : Nat} {l : List UInt8} (h : DkS w db room safe B l) (keep : Int) : Calls Try.prog 63 #[.pointer (some ⟨db, 0, none⟩), .int .i64 keep] w (DkPost w db room (crashN safe l.length keep) B (l.take (crashN safe l.length keep)) (crashN safe l.length keep)) := by
  obtain ⟨a, cap, h1, h2, h3⟩ := h.ex
  have c1 := cell_of_blk h1 1
  have c2 := cell_of_blk h1 2
  have f2 := frozen_of_blk h1 2
  simp at c1 c2
  obtain ⟨hm1, hm2⟩ := crashN_le keep h.hs
  have hm3 := crashN_eq keep h.hs
  obtain ⟨m, hm⟩ : ∃ m, crashN safe l.length keep = m := ⟨_, rfl⟩
  rw [hm] at hm1 hm2 hm3 ⊢
  have hlen : (l.take m).length = m := by rw [List.length_take]; omega
  obtain ⟨V, hV⟩ : ∃ V, w.setCell ⟨db, 2, none⟩ (.slice a m cap) = V := ⟨_, rfl⟩
  have HC : Hid (Chg w V (fun j => j = db)) := Lib.hid (by rw [← hV]; exact (Chg.refl w (fun j => j = db)).setCell (p := ⟨db, 2, none⟩) (fun _ => rfl) _)
  have HC2 : Hid (Chg w V.drew (fun j => j = db)) := Lib.hid (HC.out.trans (Chg.of_below (below_drewN (Below.refl _ _) 1) _) (fun _ _ h => h))
  have e2 : V.heap[db]? = some (.cells #[.int .i64 room, .int .i64 safe, .slice a m cap] 169) := by rw [← hV, blk_setCell h1]; rfl
  have hob : (Value.slice a m cap).ownBlock = (Value.slice a l.length cap).ownBlock := by cases a <;> rfl
  have hBm : BsO V B (.slice a m cap) (l.take m) := ownsRow_of_block (bs_take h2 hm2) (fun j hj => by
    rw [hob] at hj
    exact HC.out.block j (h2.lt j hj).2 (fun e => h3 (by rw [hj, e])))
  have HF := Lib.hid (dkFlush_cell (V := V.drew) e2 hlen (hBm.below (below_drewN (Below.refl _ _) 1)) (by rw [hob]; exact h3) h.hr (by have := h.hl; omega))
  have HR := Lib.hid (fun u => run_sliceBP h2 m hm2 u)
  have HV := Lib.hid hV
  obtain ⟨n, hn⟩ : ∃ n, n = l.length := ⟨_, rfl⟩
  have hs := h.hs
  have hl := h.hl
  rw [← hn] at c2 hm2 hm3 HR hs hl
  have w1 : IntKind.i64.wrap ((n : Int) - (safe : Int)) = (n : Int) - safe := by rw [IntKind.wrap_i64]; omega
  have w2 : wrap64 ((safe : Int) + if (n : Int) - (safe : Int) < (if keep < 0 then 0 else keep) then (n : Int) - (safe : Int) else if keep < 0 then 0 else keep) = (m : Int) := by
    unfold wrap64
    by_cases hk : keep < 0 <;> simp only [hk, if_true, if_false] <;> split <;> omega
  obtain ⟨_, g2, g3, g4⟩ := bs_cap h2
  have hz : (m : Int) ≤ (cap : Int) := by omega
  have HW1 := Lib.hid (And.intro hm1 (And.intro hm2 hm3))
  have G3 := Lib.hid g3
  have G4 := Lib.hid g4
  clear g2 g3 g4
  clear h h1 h2 h3 hV e2 hBm hob hlen hn hm hm1 hm2 hm3 hs hl
  go_enter Try.func63, Try.ntmps63
  go_upto_region 1 with fail
  cases a with
  | none =>
    obtain ⟨r1, r2⟩ := G3.out rfl
    subst r1 r2
    go_big_region
    rw [HV.out]
    go_wp2_with fail
    all_goals (
      refine HF.out.mono ?_
      rintro e w3 ⟨rfl, q1, q2⟩
      have HQ := Lib.hid (And.intro q1 q2)
      clear q1 q2
      go_wp2_with fail
      go_ret
      exact ⟨rfl, HQ.out.1, HC2.out.trans HQ.out.2 (fun _ _ h => h)⟩)
  | some x =>
    obtain ⟨g, rfl, _⟩ := G4.out x rfl
    go_big_region
    rw [HV.out]
    go_wp2_with fail
    all_goals (
      refine HF.out.mono ?_
      rintro e w3 ⟨rfl, q1, q2⟩
      have HQ := Lib.hid (And.intro q1 q2)
      clear q1 q2
      go_wp2_with fail
      go_ret
      exact ⟨rfl, HQ.out.1, HC2.out.trans HQ.out.2 (fun _ _ h => h)⟩)
end Go.Proofs.Ytcghgnncmnoalaa
namespace Go.Proofs.Ytcghgnncmnoalaa
open Go.RowKit Go.Maps

theorem infoSpot : (Try.prog.info? 171).map (fun i => (i.zero, i.size, i.bytes)) = some (some (.agg #[.int .i64 0, .int .i64 0]), 2, 16) := by kernel_rfl
/-- marks, as elements -/
def kS : RowK Try.prog (Int × Int) where
  t := 172
  e := 171
  size := 2
  bytes := 16
  z := .agg #[.int .i64 0, .int .i64 0]
  enc := fun p => [.int .i64 p.1, .int .i64 p.2]
  ht := Try.underlying172
  info := infoSpot
  hz := rfl
  pos := by decide
  small := by decide
  len := fun _ => rfl
  one := fun x u hu => by
    simp at hu
    rcases hu with rfl | rfl <;> rfl
/-- a journal: its block, its disk's, what is promised, the last mark, the marks -/
def JnS (w : World) (jb db : Nat) (prom last : Int) (B : Nat) (ms : List (Int × Int)) : Prop :=
  ∃ a cap, w.heap[jb]? = some (.cells #[.pointer (some ⟨db, 0, none⟩), .int .i64 prom, .int .i64 last, .slice a ms.length cap] 174) ∧ kS.Own w B (.slice a ms.length cap) ms ∧ (Value.slice a ms.length cap).ownBlock ≠ some jb ∧ ∀ j, (Value.slice a ms.length cap).ownBlock = some j → j ≠ db
/-- the block of a journal's marks -/
def job (w : World) (jb : Nat) : Option Nat := match w.heap[jb]? with | some (.cells cs _ _) => (match cs[3]? with | some v => v.ownBlock | none => none) | _ => none
theorem job_eq {w : World} {jb : Nat} {a b c v : Value} {t : TypeId} {z : Nat × Nat} (h : w.heap[jb]? = some (.cells #[a, b, c, v] t z)) : job w jb = v.ownBlock := by unfold job; rw [h]; rfl
theorem JnS.lt {w : World} {jb db B : Nat} {prom last : Int} {ms : List (Int × Int)} (h : JnS w jb db prom last B ms) : jb < w.heap.size := by
  obtain ⟨a, cap, h1, _⟩ := h
  exact (Array.getElem?_eq_some_iff.1 h1).1
theorem JnS.chg {w w' : World} {jb db B : Nat} {prom last : Int} {ms : List (Int × Int)} (h : JnS w jb db prom last B ms) {S : Nat → Prop} (hc : Chg w w' S) (h1 : ¬ S jb) (h2 : ∀ j, job w jb = some j → ¬ S j) : JnS w' jb db prom last B ms := by
  obtain ⟨a, cap, e, o, n, d⟩ := h
  refine ⟨a, cap, (hc.block _ (Array.getElem?_eq_some_iff.1 e).1 h1).trans e, o.chg hc (fun j hj => h2 j ((job_eq e).trans hj)), n, d⟩
theorem JnS.below {w w' : World} {jb db B : Nat} {prom last : Int} {ms : List (Int × Int)} (h : JnS w jb db prom last B ms) (hb : Below w.heap.size w w') : JnS w' jb db prom last B ms :=
  h.chg (Chg.of_below hb (fun _ => False)) (fun e => e) (fun _ _ e => e)
/-- what is read of records hangs on no disk's own cells -/
theorem cell_disk {w : World} {db room safe B : Nat} {l : List UInt8} (h : DkS w db room safe B l) {i : Nat} {v : Value} (hc : w.cell? ⟨db, i, none⟩ = some v) : (∃ n, v = .int .i64 n) ∨ (∃ a n c, v = .slice a n c ∧ i = 2) := by
  obtain ⟨a, cap, h1, _⟩ := h.ex
  rw [cell_of_blk h1] at hc
  match i, hc with
  | 0, hc => injection hc with hc; exact .inl ⟨_, hc.symm⟩
  | 1, hc => injection hc with hc; exact .inl ⟨_, hc.symm⟩
  | 2, hc => injection hc with hc; exact .inr ⟨_, _, _, hc.symm, rfl⟩
  | i + 3, hc => exact absurd hc (by simp)
theorem WsV.off {w w' : World} {db room safe B : Nat} {l : List UInt8} {a : Option Addr} {ws : List Wr} (h : WsV w a ws) (hd : DkS w db room safe B l) (hc : Chg w w' (fun j => j = db)) : WsV w' a ws := fun hn => by
  obtain ⟨b, off, e, hat⟩ := h hn
  refine ⟨b, off, e, hat.of_block (hc.block b hat.lt (fun hb => ?_))⟩
  subst hb
  obtain ⟨x, t, rfl⟩ := List.exists_cons_of_ne_nil hn
  obtain ⟨_, _, _, h4, _⟩ := hat.six (i := 0) (x := x) rfl
  rcases cell_disk hd h4 with ⟨n, e⟩ | ⟨a, n, c, e, _⟩ <;> cases e
theorem Rv.Ok.off {w w' : World} {db room safe B : Nat} {l : List UInt8} {r : Rv} (h : r.Ok w) (hd : DkS w db room safe B l) (hc : Chg w w' (fun j => j = db)) : r.Ok w' := ⟨h.stamp, h.ws.off hd hc, h.len⟩
theorem RsV.off {w w' : World} {db room safe B : Nat} {l : List UInt8} {a : Option Addr} {rs : List Rv} (h : RsV w a rs) (hd : DkS w db room safe B l) (hc : Chg w w' (fun j => j = db)) : RsV w' a rs := fun hn => by
  obtain ⟨b, off, e, hat⟩ := h hn
  have hb : b ≠ db := fun hb => by
    subst hb
    obtain ⟨x, t, rfl⟩ := List.exists_cons_of_ne_nil hn
    obtain ⟨_, h4, _⟩ := hat.cells 0 x rfl
    rcases cell_disk hd h4 with ⟨n, e⟩ | ⟨a, n, c, e, _⟩ <;> cases e
  have hbl := hc.block b hat.lt hb
  exact ⟨b, off, e, ⟨fun i x hx => by
    obtain ⟨h1, h2, h3⟩ := hat.cells i x hx
    exact ⟨h1.off hd hc, (World.cell?_of_block (a := ⟨b, off + i * 2, none⟩) hbl).trans h2, (World.cell?_of_block (a := ⟨b, off + i * 2 + 1, none⟩) hbl).trans h3⟩, Nat.lt_of_lt_of_le hat.lt hc.size⟩⟩
theorem DkS.ob {w : World} {db room safe B j : Nat} {l : List UInt8} (h : DkS w db room safe B l) (hj : dob w db = some j) : B ≤ j ∧ j < w.heap.size ∧ j ≠ db := by
  obtain ⟨a, cap, h1, h2, h3⟩ := h.ex
  rw [dob_eq h1] at hj
  exact ⟨(h2.lt j hj).1, (h2.lt j hj).2, fun e => h3 (by rw [hj, e])⟩
theorem JnS.ob {w : World} {jb db B j : Nat} {prom last : Int} {ms : List (Int × Int)} (h : JnS w jb db prom last B ms) (hj : job w jb = some j) : B ≤ j ∧ j < w.heap.size ∧ j ≠ jb ∧ j ≠ db := by
  obtain ⟨a, cap, h1, h2, h3, h4⟩ := h
  rw [job_eq h1] at hj
  exact ⟨(h2.lt j hj).1, (h2.lt j hj).2, fun e => h3 (by rw [hj, e]), h4 j hj⟩
theorem JnS.ne {w : World} {jb db room safe B B' : Nat} {prom last : Int} {ms : List (Int × Int)} {l : List UInt8} (h : JnS w jb db prom last B ms) (hd : DkS w db room safe B' l) : jb ≠ db := fun e => by
  obtain ⟨a, cap, h1, _⟩ := h
  obtain ⟨a2, cap2, d1, _⟩ := hd.ex
  rw [e, d1] at h1
  simp at h1
theorem DkS.chg {w w' : World} {db room safe B : Nat} {l : List UInt8} (h : DkS w db room safe B l) {S : Nat → Prop} (hc : Chg w w' S) (h1 : ¬ S db) (h2 : ∀ j, dob w db = some j → ¬ S j) : DkS w' db room safe B l := by
  obtain ⟨a, cap, e, o, n⟩ := h.ex
  exact ⟨⟨a, cap, (hc.block _ h.lt h1).trans e, ownsRow_of_block o (fun j hj => hc.block j (o.lt j hj).2 (h2 j ((dob_eq e).trans hj))), n⟩, h.hr, h.hs, h.hl⟩
theorem dob_chg {w w' : World} {db room safe B : Nat} {l : List UInt8} (h : DkS w db room safe B l) {S : Nat → Prop} (hc : Chg w w' S) (h1 : ¬ S db) : dob w' db = dob w db := by unfold dob; rw [hc.block _ h.lt h1]
theorem job_chg {w w' : World} {jb db B : Nat} {prom last : Int} {ms : List (Int × Int)} (h : JnS w jb db prom last B ms) {S : Nat → Prop} (hc : Chg w w' S) (h1 : ¬ S jb) : job w' jb = job w jb := by unfold job; rw [hc.block _ h.lt h1]
/-- a journal and its disk, apart from each other -/
structure JS (w : World) (jb db room safe : Nat) (prom last : Int) (B : Nat) (l : List UInt8) (ms : List (Int × Int)) : Prop where
  d : DkS w db room safe B l
  j : JnS w jb db prom last B ms
  n1 : dob w db ≠ some jb
  n2 : ∀ i, job w jb = some i → dob w db ≠ some i
theorem JS.chg {w w' : World} {jb db room safe B : Nat} {prom last : Int} {l : List UInt8} {ms : List (Int × Int)} (h : JS w jb db room safe prom last B l ms) {S : Nat → Prop} (hc : Chg w w' S) (h1 : ¬ S db) (h2 : ¬ S jb) (h3 : ∀ j, dob w db = some j → ¬ S j) (h4 : ∀ j, job w jb = some j → ¬ S j) : JS w' jb db room safe prom last B l ms :=
  ⟨h.d.chg hc h1 h3, h.j.chg hc h2 h4, by rw [dob_chg h.d hc h1]; exact h.n1, fun i hi => by rw [job_chg h.j hc h2] at hi; rw [dob_chg h.d hc h1]; exact h.n2 i hi⟩
theorem JS.below {w w' : World} {jb db room safe B : Nat} {prom last : Int} {l : List UInt8} {ms : List (Int × Int)} (h : JS w jb db room safe prom last B l ms) (hb : Below w.heap.size w w') : JS w' jb db room safe prom last B l ms :=
  h.chg (Chg.of_below hb (fun _ => False)) (fun e => e) (fun e => e) (fun _ _ e => e) (fun _ _ e => e)
/-- the disk alone turned -/
theorem JS.disk {w w' : World} {jb db room safe safe' B : Nat} {prom last : Int} {l l' : List UInt8} {ms : List (Int × Int)} (h : JS w jb db room safe prom last B l ms) (hd : DkS w' db room safe' B l') (hc : Chg w w' (fun j => j = db ∨ dob w db = some j)) (ho : dob w' db = dob w db ∨ ∃ j, w.heap.size ≤ j ∧ dob w' db = some j) : JS w' jb db room safe' prom last B l' ms := by
  have hj1 : ¬ (jb = db ∨ dob w db = some jb) := fun e => e.elim (h.j.ne h.d) h.n1
  refine ⟨hd, h.j.chg hc hj1 (fun j hj e => e.elim (h.j.ob hj).2.2.2 (h.n2 j hj)), fun e => ?_, fun i hi e => ?_⟩
  · rcases ho with ho | ⟨j, hj, ho⟩
    · exact h.n1 (ho.symm.trans e)
    · have := h.j.lt
      rw [ho] at e
      injection e with e
      omega
  · rw [job_chg h.j hc hj1] at hi
    have h2 := h.j.ob hi
    rcases ho with ho | ⟨j, hj, ho⟩
    · exact h.n2 i hi (ho.symm.trans e)
    · rw [ho] at e
      injection e with e
      omega
theorem jOpen_nil (w : World) : Calls Try.prog 53 #[.pointer none] w (fun e w' => e = .returned (.tuple #[.pointer none, .slice none 0 0, .int .i64 1]) ∧ w = w') := by
  go_enter Try.func53, Try.ntmps53
  go_wp2_with fail
  go_ret3
  exact ⟨rfl, rfl⟩
/-- what opening a disk leaves -/
def OpenPost (w : World) (db room B : Nat) (l : List UInt8) (e : Ending) (w' : World) : Prop :=
  ∃ jb a c rs, e = .returned (.tuple #[.pointer (some ⟨jb, 0, none⟩), .slice a rs.length c, .int .i64 0]) ∧ RsV w' a rs ∧ (∀ x ∈ rs, x.Ok w') ∧ rs.map Rv.rc = lgOut (lgN l) ∧ rs.length ≤ 1000000 ∧
    w.heap.size ≤ jb ∧ JS w' jb db room (lgN l).cut 0 (lgN l).last B (l.take (lgN l).cut) [((lgN l).last, ((lgN l).cut : Nat))] ∧ Chg w w' (fun j => j = db)
set_option maxRecDepth 100000 in
set_option maxHeartbeats 2000000 in
theorem jOpen_any {w : World} {db room safe B : Nat} {l : List UInt8} (h : DkS w db room safe B l) (hB : B ≤ w.heap.size) : Calls Try.prog 53 #[.pointer (some ⟨db, 0, none⟩)] w (OpenPost w db room B l) := by
  have HS := Lib.hid h
  clear h
  go_enter Try.func53, Try.ntmps53
  go_wp2_with fail
  refine (dkBytes_any HS.out).mono ?_
  rintro e w1 ⟨v1, rfl, o1, b1⟩
  obtain ⟨a1, c1, rfl⟩ := o1.shape
  obtain ⟨n, hn⟩ : ∃ n, n = l.length := ⟨_, rfl⟩
  rw [← hn] at o1 ⊢
  have HN := Lib.hid hn
  have H1 := Lib.hid (And.intro (show BsV w1 a1 l from BsO.bsV o1) b1)
  have HCP : Hid (n ≤ c1) := Lib.hid (by have := (bs_cap o1).2.1; omega)
  have HDS1 := Lib.hid (HS.out.below b1)
  clear o1 b1 hn
  go_wp2_with fail
  refine (recover_at a1 c1 n l _ HN.out H1.out.1 HCP.out HS.out.hl).mono ?_
  rintro e w2 ⟨v2, rs, rfl, o2, k2, m2, b2⟩
  obtain ⟨a2, c2, hv2, hz2⟩ := o2.shape
  subst hv2
  have HZ2 := Lib.hid (hz2 k2)
  have HM2 := Lib.hid m2
  have HB2 := Lib.hid b2
  have HDS2 := Lib.hid (HDS1.out.below b2)
  have HSL : Hid (rs.length ≤ 1000000) := Lib.hid (by
    have h1 := congrArg List.length m2
    rw [List.length_map] at h1
    have h2 := out_len (lgN l)
    have h3 := sure_len l
    have := HS.out.hl
    omega)
  have HCL := Lib.hid (cut_le l)
  obtain ⟨la, hla⟩ : ∃ x, (lgN l).last = x := ⟨_, rfl⟩
  obtain ⟨cu, hcu⟩ : ∃ x, (lgN l).cut = x := ⟨_, rfl⟩
  rw [hla, hcu]
  have HLA := Lib.hid hla
  have HCU := Lib.hid hcu
  have HCK : Hid (cu ≤ l.length) := Lib.hid (by rw [← hcu]; exact HCL.out)
  obtain ⟨rn, hrn⟩ : ∃ rn, rs.length = rn := ⟨_, rfl⟩
  rw [hrn]
  have HRN := Lib.hid hrn
  clear o2 k2 m2 b2 hz2 hla hcu hrn
  go_wp2_with fail
  refine (dkCut_any HDS2.out cu HCK.out).mono ?_
  rintro e w3 ⟨rfl, d3, g3⟩
  have HD3 := Lib.hid d3
  have HG3 := Lib.hid g3
  clear d3 g3
  go_wp2_with fail
  go_ret3
  rw [← HRN.out]
  have W1 := Below.heap_alloc (w3.alloc (.cells #[.int .i64 la, .int .i64 cu] 171)) (.cells #[.pointer (some ⟨db, 0, none⟩), .int .i64 0, .int .i64 la, .slice (some ⟨w3.heap.size, 0, none⟩) 1 1] 174) w3.heap.size (by simp)
  have e1 := W1.trans (heap_new w3 (.cells #[.int .i64 la, .int .i64 cu] 171))
  have e2 := heap_new (w3.alloc (.cells #[.int .i64 la, .int .i64 cu] 171)) (.cells #[.pointer (some ⟨db, 0, none⟩), .int .i64 0, .int .i64 la, .slice (some ⟨w3.heap.size, 0, none⟩) 1 1] 174)
  rw [size_alloc] at e2
  have hb : Below w3.heap.size w3 ((w3.alloc (.cells #[.int .i64 la, .int .i64 cu] 171)).alloc (.cells #[.pointer (some ⟨db, 0, none⟩), .int .i64 0, .int .i64 la, .slice (some ⟨w3.heap.size, 0, none⟩) 1 1] 174)) := (below_box w3 _).alloc (by rw [size_alloc]; omega) _
  have hg : Chg w w3 (fun j => j = db) := ((Chg.of_below H1.out.2 _).trans (Chg.of_below HB2.out _) (fun _ _ h => h)).trans HG3.out (fun _ _ h => h)
  have hok : ∀ x ∈ rs, x.Ok w2 := HZ2.out.ok
  refine ⟨w3.heap.size + 1, a2, c2, rs, rfl, (HZ2.out.off HDS2.out HG3.out).below hb, fun x hx => ((hok x hx).off HDS2.out HG3.out).below hb, HM2.out, HSL.out, by have := hg.size; omega, ?_, hg.trans (Chg.of_below hb _) (fun _ _ h => h)⟩
  rw [HLA.out, HCU.out]
  have hlt3 : ∀ j, dob w3 db = some j → j < w3.heap.size := fun j hj => (HD3.out.ob hj).2.1
  refine ⟨HD3.out.below hb, ⟨some ⟨w3.heap.size, 0, none⟩, 1, e2, ?_, fun e => ?_, fun j hj => ?_⟩, fun e => ?_, fun i hi e => ?_⟩
  · exact RowK.Own.new (k := kS) (l := [(la, (cu : Int))]) e1 (Nat.le_trans hB hg.size) rfl (by simp; decide)
  · simp [Value.ownBlock] at e
  · have : w3.heap.size = j := by simpa [Value.ownBlock] using hj
    have := HD3.out.lt
    omega
  · rw [dob_below HD3.out hb] at e
    have := hlt3 _ e
    omega
  · rw [dob_below HD3.out hb] at e
    rw [job_eq e2] at hi
    have : w3.heap.size = i := by simpa [Value.ownBlock] using hi
    have := hlt3 _ e
    omega
end Go.Proofs.Ytcghgnncmnoalaa
namespace Go.Proofs.Ytcghgnncmnoalaa
open Go.RowKit Go.Maps

theorem dkLeft_q {w : World} {db room safe B : Nat} {l : List UInt8} (h : DkS w db room safe B l) : Quiet Try.prog 59 #[.pointer (some ⟨db, 0, none⟩)] w (.int .i64 ((room : Int) - l.length)) := by
  obtain ⟨a, cap, h1, _⟩ := h.ex
  have c0 := cell_of_blk h1 0
  have c2 := cell_of_blk h1 2
  simp at c0 c2
  have hr := h.hr
  have hl := h.hl
  obtain ⟨n, hn⟩ : ∃ n, n = l.length := ⟨_, rfl⟩
  rw [← hn] at c2 hl ⊢
  have w1 : IntKind.i64.wrap ((room : Int) - (n : Int)) = (room : Int) - (n : Int) := by rw [IntKind.wrap_i64]; omega
  clear h h1 hn
  go_enter Try.func59, Try.ntmps59
  go_wp2_with fail
  go_quiet (fail)
  go_wp2_with fail
  go_ret
  exact ⟨rfl, _, rfl⟩
theorem jLast_any {w : World} {jb db B : Nat} {prom last : Int} {ms : List (Int × Int)} (h : JnS w jb db prom last B ms) : Calls Try.prog 65 #[.pointer (some ⟨jb, 0, none⟩)] w fun e w' => e = .returned (.int .i64 last) ∧ w = w' := by
  obtain ⟨a, cap, h1, _⟩ := h
  have c2 := cell_of_blk h1 2
  simp at c2
  clear h1
  go_enter Try.func65, Try.ntmps65
  go_wp2_with fail
  go_ret
  exact ⟨rfl, rfl⟩
theorem jPromised_any {w : World} {jb db B : Nat} {prom last : Int} {ms : List (Int × Int)} (h : JnS w jb db prom last B ms) : Calls Try.prog 60 #[.pointer (some ⟨jb, 0, none⟩)] w fun e w' => e = .returned (.int .i64 prom) ∧ w = w' := by
  obtain ⟨a, cap, h1, _⟩ := h
  have c2 := cell_of_blk h1 1
  simp at c2
  clear h1
  go_enter Try.func60, Try.ntmps60
  go_wp2_with fail
  go_ret
  exact ⟨rfl, rfl⟩
/-- the last mark that is safe -/
def sureOf (safe : Int) (s0 : Int) (ms : List (Int × Int)) : Int := ms.foldl (fun s m => if m.2 ≤ safe then m.1 else s) s0
theorem sureOf_snoc (safe s0 : Int) (ms : List (Int × Int)) (m : Int × Int) : sureOf safe s0 (ms ++ [m]) = if m.2 ≤ safe then m.1 else sureOf safe s0 ms := by simp [sureOf]
theorem sureOf_take (safe s0 : Int) {ms : List (Int × Int)} {i : Nat} {m : Int × Int} (h : ms[i]? = some m) : sureOf safe s0 (ms.take (i + 1)) = if m.2 ≤ safe then m.1 else sureOf safe s0 (ms.take i) := by
  rw [List.take_add_one, h]
  exact sureOf_snoc _ _ _ _
set_option maxRecDepth 100000 in
set_option maxHeartbeats 2000000 in
theorem jSure_any {w : World} {jb db room safe B B' : Nat} {prom last : Int} {ms : List (Int × Int)} {l : List UInt8} (h : JnS w jb db prom last B ms) (hd : DkS w db room safe B' l) (hms : ms.length ≤ 1000000) : Calls Try.prog 64 #[.pointer (some ⟨jb, 0, none⟩)] w (IntPost w (sureOf safe (-1) ms)) := by
  have HJ := Lib.hid h
  have HD := Lib.hid hd
  obtain ⟨a, cap, h1, h2, _⟩ := h
  have c0 := cell_of_blk h1 0
  have c3 := cell_of_blk h1 3
  simp at c0 c3
  obtain ⟨n, hn⟩ : ∃ n, n = ms.length := ⟨_, rfl⟩
  rw [← hn] at c3 hms
  have HJL := Lib.hid (Array.getElem?_eq_some_iff.1 h1).1
  have HC0 := Lib.hid c0
  have HR : Hid (ms ≠ [] → ∃ b, a = some ⟨b, 0, none⟩ ∧ kS.At w b 0 ms) := Lib.hid (fun hne => by
    obtain ⟨b, cp, e, _, _, hat⟩ := h2.at' hne
    injection e with e1 e2 e3
    exact ⟨b, e1, hat⟩)
  have HN := Lib.hid hn
  clear hd h1 h2 hn
  go_enter Try.func64, Try.ntmps64
  go_wp2_with fail
  go_loopw [3, 5, 11] (fun vs _ vi wr => ∃ i : Nat, i ≤ n ∧ vi = .int .i64 i ∧ vs = .int .i64 (sureOf safe (-1) (ms.take i)) ∧ Hid (Below w.heap.size w wr)) (fun _ _ vi _ => n - (intOf vi).toNat)
  case atStart => exact ⟨0, by omega, rfl, rfl, Lib.hid (Below.refl _ _)⟩
  case round =>
    obtain ⟨i, hi, rfl, rfl, HB⟩ := hrel
    by_cases hin : i < n
    · have hin' : (i : Int) < (n : Int) := by omega
      have hne : ms ≠ [] := fun e => by have := HN.out; rw [e] at this; simp at this; omega
      obtain ⟨b, rfl, hat⟩ := HR.out hne
      obtain ⟨m, hm⟩ : ∃ m, ms[i]? = some m := ⟨_, List.getElem?_eq_getElem (by have := HN.out; omega)⟩
      have hat' := hat.below HB.out
      have k0 := hat'.cells i m hm 0 _ rfl
      have k1 := hat'.cells i m hm 1 _ rfl
      simp [kS] at k0 k1
      have HS1 := Lib.hid (sureOf_take safe (-1) hm)
      have c0r := HB.out.cell HJL.out |>.trans HC0.out
      obtain ⟨V, hV⟩ : ∃ V, wr.alloc (.cells #[.int .i64 m.1, .int .i64 m.2] 171) = V := ⟨_, rfl⟩
      have bV : Below w.heap.size w V := by rw [← hV]; exact HB.out.alloc HB.out.size _
      have HDW : Hid (∀ n : Nat, DkS (V.drewN n) db room safe B' l) := Lib.hid (fun n => HD.out.below (below_drewN bV n))
      have HB2 : Hid (∀ n : Nat, Below w.heap.size w (V.drewN n)) := Lib.hid (fun n => below_drewN bV n)
      have eV : V.heap[wr.heap.size]? = some (.cells #[.int .i64 m.1, .int .i64 m.2] 171) := by rw [← hV]; exact heap_new _ _
      have v0 := cell_of_blk eV 0
      have v1 := cell_of_blk eV 1
      simp at v0 v1
      have v2 : V.cell? ⟨jb, 0, none⟩ = some (.pointer (some ⟨db, 0, none⟩)) := (bV.cell (p := ⟨jb, 0, none⟩) HJL.out).trans HC0.out
      have HV := Lib.hid hV
      clear hV bV eV c0r
      clear hm hat hat' hne
      by_cases hq : m.2 ≤ (safe : Int)
      · have t1 : decide (m.2 ≤ (safe : Int)) = true := decide_eq_true hq
        have hs1 := HS1.out
        rw [if_pos hq] at hs1
        have HS2 := Lib.hid hs1
        clear hs1
        go_wp2_with fail
        rw [HV.out]
        go_quiet ((go_at_call 110; first | exact quiet_at (quiet_same (dkSafe_any (HDW.out _))) | exact quiet_at2 (quiet_same (dkSafe_any (HDW.out _)))))
        go_wp2_with fail
        exact ⟨⟨i + 1, by omega, by go_num, by rw [HS2.out], Lib.hid (HB2.out _)⟩, by simp [intOf]; omega⟩
      · have t1 : decide (m.2 ≤ (safe : Int)) = false := decide_eq_false hq
        have hs1 := HS1.out
        rw [if_neg hq] at hs1
        have HS2 := Lib.hid hs1
        clear hs1
        go_wp2_with fail
        rw [HV.out]
        go_quiet ((go_at_call 110; first | exact quiet_at (quiet_same (dkSafe_any (HDW.out _))) | exact quiet_at2 (quiet_same (dkSafe_any (HDW.out _)))))
        go_wp2_with fail
        exact ⟨⟨i + 1, by omega, by go_num, by rw [HS2.out], Lib.hid (HB2.out _)⟩, by simp [intOf]; omega⟩
    · obtain rfl : i = n := by omega
      have ht : ms.take i = ms := by rw [HN.out]; exact List.take_length
      rw [ht]
      go_wp2_with fail
      go_ret
      exact ⟨rfl, HB.out⟩
end Go.Proofs.Ytcghgnncmnoalaa
namespace Go.Proofs.Ytcghgnncmnoalaa
open Go.RowKit Go.Maps

theorem DkS.obt {w : World} {db room safe B j : Nat} {l : List UInt8} (h : DkS w db room safe B l) (hj : dob w db = some j) : ∃ cs, w.heap[j]? = some (.cells cs 5) := by
  obtain ⟨a, cap, h1, h2, h3⟩ := h.ex
  rw [dob_eq h1] at hj
  rcases h2.2 with ⟨e, _⟩ | ⟨g, cp, cur, e, _, q, _⟩
  · rw [e] at hj; cases hj
  · rw [e] at hj; injection hj with hj; subst hj; exact ⟨cur, q⟩
theorem JnS.obt {w : World} {jb db B j : Nat} {prom last : Int} {ms : List (Int × Int)} (h : JnS w jb db prom last B ms) (hj : job w jb = some j) : ∃ cs, w.heap[j]? = some (.cells cs 171) := by
  obtain ⟨a, cap, h1, h2, h3⟩ := h
  rw [job_eq h1] at hj
  rcases h2.2 with ⟨e, _⟩ | ⟨g, cp, cur, e, _, q, _⟩
  · rw [e] at hj; cases hj
  · rw [e] at hj; injection hj with hj; subst hj; exact ⟨cur, q⟩
theorem JS.mk' {w : World} {jb db room safe B : Nat} {prom last : Int} {l : List UInt8} {ms : List (Int × Int)} (hd : DkS w db room safe B l) (hj : JnS w jb db prom last B ms) : JS w jb db room safe prom last B l ms := by
  refine ⟨hd, hj, fun e => ?_, fun i hi e => ?_⟩
  · obtain ⟨cs, hc⟩ := hd.obt e
    obtain ⟨a, cap, h1, _⟩ := hj
    rw [h1] at hc
    injection hc with hc
    injection hc with _ hc
    exact absurd hc (by decide)
  · obtain ⟨cs, hc⟩ := hd.obt e
    obtain ⟨c2, h1⟩ := hj.obt hi
    rw [h1] at hc
    injection hc with hc
    injection hc with _ hc
    exact absurd hc (by decide)
/-- the disk's own block alone turned -/
theorem JS.disk1 {w w' : World} {jb db room safe safe' B : Nat} {prom last : Int} {l l' : List UInt8} {ms : List (Int × Int)} (h : JS w jb db room safe prom last B l ms) (hd : DkS w' db room safe' B l') (hc : Chg w w' (fun j => j = db)) : JS w' jb db room safe' prom last B l' ms :=
  JS.mk' hd (h.j.chg hc (h.j.ne h.d) (fun _ hj => (h.j.ob hj).2.2.2))
/-- the disk and its bytes' block turned -/
theorem JS.disk2 {w w' : World} {jb db room safe safe' B : Nat} {prom last : Int} {l l' : List UInt8} {ms : List (Int × Int)} (h : JS w jb db room safe prom last B l ms) (hd : DkS w' db room safe' B l') (hc : Chg w w' (fun j => j = db ∨ dob w db = some j)) : JS w' jb db room safe' prom last B l' ms :=
  JS.mk' hd (h.j.chg hc (fun e => e.elim (h.j.ne h.d) h.n1) (fun j hj e => e.elim (h.j.ob hj).2.2.2 (h.n2 j hj)))
/-- a cell of the journal turned -/
theorem JS.prom {w : World} {jb db room safe B : Nat} {prom last : Int} {l : List UInt8} {ms : List (Int × Int)} (h : JS w jb db room safe prom last B l ms) (p : Int) : JS (w.setCell ⟨jb, 1, none⟩ (.int .i64 p)) jb db room safe p last B l ms := by
  have hc : Chg w (w.setCell ⟨jb, 1, none⟩ (.int .i64 p)) (fun j => j = jb) := (Chg.refl w (fun j => j = jb)).setCell (p := ⟨jb, 1, none⟩) (fun _ => rfl) _
  obtain ⟨a, cap, h1, h2, h3, h4⟩ := h.j
  refine JS.mk' (h.d.chg hc (fun e => (h.j.ne h.d) e.symm) (fun j hj e => h.n1 (by rw [hj, e]))) ⟨a, cap, by rw [blk_setCell h1]; rfl, h2.chg hc (fun j hj e => h3 (by rw [hj, e])), h3, h4⟩
theorem JS.last {w : World} {jb db room safe B : Nat} {prom last : Int} {l : List UInt8} {ms : List (Int × Int)} (h : JS w jb db room safe prom last B l ms) (p : Int) : JS (w.setCell ⟨jb, 2, none⟩ (.int .i64 p)) jb db room safe prom p B l ms := by
  have hc : Chg w (w.setCell ⟨jb, 2, none⟩ (.int .i64 p)) (fun j => j = jb) := (Chg.refl w (fun j => j = jb)).setCell (p := ⟨jb, 2, none⟩) (fun _ => rfl) _
  obtain ⟨a, cap, h1, h2, h3, h4⟩ := h.j
  refine JS.mk' (h.d.chg hc (fun e => (h.j.ne h.d) e.symm) (fun j hj e => h.n1 (by rw [hj, e]))) ⟨a, cap, by rw [blk_setCell h1]; rfl, h2.chg hc (fun j hj e => h3 (by rw [hj, e])), h3, h4⟩
/-- what a journal may turn -/
def JChg (w w' : World) (jb db : Nat) : Prop := Chg w w' (fun j => j = jb ∨ j = db ∨ dob w db = some j ∨ job w jb = some j)
def JFlushPost (w : World) (jb db room : Nat) (prom last : Int) (B : Nat) (l : List UInt8) (ms : List (Int × Int)) (e : Ending) (w' : World) : Prop :=
  e = .returned (.int .i64 (sureOf l.length (-1) ms)) ∧ JS w' jb db room l.length prom last B l ms ∧ Chg w w' (fun j => j = db)
theorem jFlush_any {w : World} {jb db room safe B : Nat} {prom last : Int} {l : List UInt8} {ms : List (Int × Int)} (h : JS w jb db room safe prom last B l ms) (hms : ms.length ≤ 1000000) : Calls Try.prog 62 #[.pointer (some ⟨jb, 0, none⟩)] w (JFlushPost w jb db room prom last B l ms) := by
  obtain ⟨a, cap, h1, _⟩ := h.j
  have c0 := cell_of_blk h1 0
  simp at c0
  have HS := Lib.hid h
  clear h h1
  go_enter Try.func62, Try.ntmps62
  go_wp2_with fail
  refine (dkFlush_any HS.out.d).mono ?_
  rintro e w1 ⟨rfl, d1, g1⟩
  have HJ := Lib.hid (HS.out.disk1 d1 g1)
  have HG := Lib.hid g1
  clear d1 g1
  go_wp2_with fail
  refine (jSure_any HJ.out.j HJ.out.d hms).mono ?_
  rintro e w2 ⟨rfl, b2⟩
  have HB2 := Lib.hid b2
  clear b2
  go_wp2_with fail
  go_ret
  exact ⟨rfl, HJ.out.below HB2.out, HG.out.trans (Chg.of_below HB2.out _) (fun _ _ h => h)⟩
theorem jbytes_end {w W w' : World} {r : Rc} {e : Ending} (hb : Below w.heap.size w W) (h : CommitPost W r e w') : CommitPost w r e w' := by
  obtain ⟨b, h⟩ := h
  refine ⟨below_then hb b, ?_⟩
  rcases h with h | ⟨h1, v, h2, h3⟩
  · exact .inl h
  · exact .inr ⟨h1, v, h2, BsO.mono h3 hb.size⟩
set_option maxRecDepth 100000 in
set_option maxHeartbeats 1000000 in
theorem jbytes_any (st : Nat) (a : Option Addr) (cap n : Nat) (ws : List Wr) (w : World) (hn : n = ws.length) (h : WsV w a ws) (hs : st < 18446744073709551616) (hl : ws.length ≤ 1000000) (hlen : (bodyL (max st 1) ws).length ≤ 1000000) :
    Calls Try.prog 108 #[.agg #[.int .u64 st, .slice a n cap]] w (CommitPost w ⟨max st 1, ws⟩) := by
  obtain ⟨m, hm⟩ : ∃ m, max st 1 = m := ⟨_, rfl⟩
  obtain ⟨M, hM⟩ : ∃ M : Int, M = m := ⟨_, rfl⟩
  rw [hm] at hlen ⊢
  obtain ⟨W, hW⟩ : ∃ W, (w.alloc (.cells #[.int .u64 M, .slice a n cap] 35)) = W := ⟨_, rfl⟩
  have bW : Below w.heap.size w W := by rw [← hW]; exact below_box w _
  have HC : Hid (Calls Try.prog 20 #[.agg #[.int .u64 M, .slice a n cap]] W (CommitPost W ⟨m, ws⟩)) := Lib.hid (by rw [hn, hM]; exact commit_any m a cap ws W (h.below bW) (by omega) hl hlen)
  have HB := Lib.hid bW
  clear bW h hl hlen hn
  by_cases h0 : st = 0
  · obtain rfl : M = 1 := by omega
    subst h0
    have HW := Lib.hid hW
    clear hm hM hW hs
    go_enter Try.func108, Try.ntmps108
    go_wp2_with fail
    rw [HW.out]
    refine HC.out.mono ?_
    rintro e w1 h1
    have h2 := jbytes_end HB.out h1
    clear h1
    rcases h2.2 with ⟨_, rfl⟩ | ⟨_, v, rfl, _⟩
    · have H2 := Lib.hid h2
      clear h2
      go_wp2_with fail
      go_ret2
      exact H2.out
    · have H2 := Lib.hid h2
      clear h2
      go_wp2_with fail
      go_ret2
      exact H2.out
  · obtain rfl : M = st := by omega
    have HW := Lib.hid hW
    have h1 : ¬ ((st : Int) < 1) := by omega
    clear hm hM hW hs h0
    go_enter Try.func108, Try.ntmps108
    go_wp2_with fail
    rw [HW.out]
    refine HC.out.mono ?_
    rintro e w1 h1
    have h2 := jbytes_end HB.out h1
    clear h1
    rcases h2.2 with ⟨_, rfl⟩ | ⟨_, v, rfl, _⟩
    · have H2 := Lib.hid h2
      clear h2
      go_wp2_with fail
      go_ret2
      exact H2.out
    · have H2 := Lib.hid h2
      clear h2
      go_wp2_with fail
      go_ret2
      exact H2.out
end Go.Proofs.Ytcghgnncmnoalaa
namespace Go.Proofs.Ytcghgnncmnoalaa
open Go.RowKit Go.Maps

/-- the block of a disk's bytes is the old one, or new -/
def DFr (w w' : World) (db : Nat) : Prop := dob w' db = dob w db ∨ ∃ j, w.heap.size ≤ j ∧ dob w' db = some j
theorem DFr.below {w w' : World} {db room safe B : Nat} {l : List UInt8} (h : DkS w db room safe B l) (hb : Below w.heap.size w w') : DFr w w' db := .inl (dob_below h hb)
theorem DFr.chg {w w' : World} {db room safe B : Nat} {l : List UInt8} {S : Nat → Prop} (h : DkS w db room safe B l) (hc : Chg w w' S) (hn : ¬ S db) : DFr w w' db := .inl (dob_chg h hc hn)
theorem DFr.trans {w u v : World} {db : Nat} (h : DFr w u db) (k : DFr u v db) (hs : w.heap.size ≤ u.heap.size) : DFr w v db := by
  rcases k with k | ⟨j, k1, k2⟩
  · rcases h with h | ⟨j, h1, h2⟩
    · exact .inl (k.trans h)
    · exact .inr ⟨j, h1, k.trans h2⟩
  · exact .inr ⟨j, Nat.le_trans hs k1, k2⟩
/-- what a promise answers: how many bytes, the errno, what is promised then -/
def promR (room len : Nat) (prom : Int) (r : Rc) : Int × Int × Int :=
  if r.wrong = true then (0, 2, prom) else if (room : Int) - len - prom - 14 < ((packL 1 (bodyL r.stamp r.ws)).length : Nat) then (0, 50, prom) else ((packL 1 (bodyL r.stamp r.ws)).length, 0, prom + (packL 1 (bodyL r.stamp r.ws)).length)
def PromPost (w : World) (jb db room safe : Nat) (prom last : Int) (B : Nat) (l : List UInt8) (ms : List (Int × Int)) (r : Rc) (e : Ending) (w' : World) : Prop :=
  e = .returned (.tuple #[.int .i64 (promR room l.length prom r).1, .int .i64 (promR room l.length prom r).2.1]) ∧ JS w' jb db room safe (promR room l.length prom r).2.2 last B l ms ∧ Chg w w' (fun j => j = jb)
set_option maxRecDepth 100000 in
set_option maxHeartbeats 2000000 in
theorem jPromise_any {w : World} {jb db room safe B : Nat} {prom last : Int} {l : List UInt8} {ms : List (Int × Int)} (h : JS w jb db room safe prom last B l ms) (hp0 : 0 ≤ prom) (hp1 : prom ≤ 2147483648)
    (st : Nat) (a : Option Addr) (cap n : Nat) (ws : List Wr) (hn : n = ws.length) (hw : WsV w a ws) (hs : st < 18446744073709551616) (hl : ws.length ≤ 1000000) (hlen : (bodyL (max st 1) ws).length ≤ 1000000) :
    Calls Try.prog 55 #[.pointer (some ⟨jb, 0, none⟩), .agg #[.int .u64 st, .slice a n cap]] w (PromPost w jb db room safe prom last B l ms ⟨max st 1, ws⟩) := by
  obtain ⟨r, hr⟩ : ∃ r : Rc, r = ⟨max st 1, ws⟩ := ⟨_, rfl⟩
  rw [← hr]
  obtain ⟨W, hW⟩ : ∃ W, (w.alloc (.cells #[.int .u64 st, .slice a n cap] 35)) = W := ⟨_, rfl⟩
  have bW : Below w.heap.size w W := by rw [← hW]; exact below_box w _
  have eW : W.heap[w.heap.size]? = some (.cells #[.int .u64 st, .slice a n cap] 35) := by rw [← hW]; exact heap_new _ _
  have v0 := cell_of_blk eW 0
  have v1 := cell_of_blk eW 1
  simp at v0 v1
  have HC : Hid (Calls Try.prog 108 #[.agg #[.int .u64 st, .slice a n cap]] W (CommitPost W r)) := Lib.hid (by rw [hr]; exact jbytes_any st a cap n ws W hn (hw.below bW) hs hl hlen)
  have HS := Lib.hid (h.below bW)
  have HB := Lib.hid bW
  have HW := Lib.hid hW
  have HLEN : Hid ((bodyL r.stamp r.ws).length ≤ 1000000) := Lib.hid (by rw [hr]; exact hlen)
  obtain ⟨ln, hln⟩ : ∃ ln, ln = l.length := ⟨_, rfl⟩
  have HLN := Lib.hid hln
  have hl6 := h.d.hl
  have hr6 := h.d.hr
  rw [← hln] at hl6
  clear hW bW eW h hw hs hl hlen hn hr hln
  go_enter Try.func55, Try.ntmps55
  go_upto_region 1 with fail
  rw [HW.out]
  go_wp2_with fail
  refine HC.out.mono ?_
  rintro e w1 ⟨b1, h1⟩
  have HB1 := Lib.hid (below_then HB.out b1)
  have HS1 := Lib.hid (HS.out.below b1)
  clear b1
  rcases h1 with ⟨hwr, rfl⟩ | ⟨hwr, v, rfl, o1⟩
  · have HR : Hid (promR room l.length prom r = (0, 2, prom)) := Lib.hid (by unfold promR; rw [if_pos hwr])
    clear hwr
    go_wp2_with fail
    go_ret2
    refine ⟨by rw [HR.out]; rfl, by rw [HR.out]; exact HS1.out, Chg.of_below HB1.out _⟩
  · obtain ⟨a1, c1, rfl⟩ := o1.shape
    obtain ⟨pn, hpn⟩ : ∃ pn, pn = (packL 1 (bodyL r.stamp r.ws)).length := ⟨_, rfl⟩
    rw [← hpn]
    have hpl : pn ≤ 1000100 := by rw [hpn, pack_len]; have := HLEN.out; omega
    obtain ⟨aj, cj, e1, _⟩ := HS1.out.j
    have k0 := cell_of_blk e1 0
    have k1 := cell_of_blk e1 1
    have f1 := frozen_of_blk e1 1
    simp at k0 k1
    have HQ : Hid (∀ n : Nat, Quiet Try.prog 59 #[.pointer (some ⟨db, 0, none⟩)] (w1.drewN n) (.int .i64 ((room : Int) - ln))) := Lib.hid (fun n => by rw [HLN.out]; exact dkLeft_q (HS1.out.d.below (below_drewN (Below.refl _ _) n)))
    have w2 : IntKind.i64.wrap ((room : Int) - (ln : Int) - prom) = (room : Int) - (ln : Int) - prom := by rw [IntKind.wrap_i64]; omega
    have w3 : IntKind.i64.wrap ((room : Int) - (ln : Int) - prom - 14) = (room : Int) - (ln : Int) - prom - 14 := by rw [IntKind.wrap_i64]; omega
    have w4 : IntKind.i64.wrap (prom + (pn : Int)) = prom + (pn : Int) := by rw [IntKind.wrap_i64]; omega
    by_cases hf : (room : Int) - ln - prom - 14 < (pn : Int)
    · have t1 : decide ((room : Int) - (ln : Int) - prom - 14 < (pn : Int)) = true := decide_eq_true hf
      have HR : Hid (promR room l.length prom r = (0, 50, prom)) := Lib.hid (by unfold promR; rw [if_neg (by rw [hwr]; decide), ← hpn, ← HLN.out, if_pos hf])
      clear hwr hpn o1 e1 hf
      go_wp2_with fail
      go_quiet ((go_at_call 59; first | exact quiet_at (HQ.out _) | exact quiet_at2 (HQ.out _)))
      go_wp2_with fail
      go_ret2
      refine ⟨by rw [HR.out]; rfl, by rw [HR.out]; exact HS1.out.below (below_drewN (Below.refl _ _) _), Chg.of_below (below_drewN HB1.out _) _⟩
    · have t1 : decide ((room : Int) - (ln : Int) - prom - 14 < (pn : Int)) = false := decide_eq_false hf
      have HR : Hid (promR room l.length prom r = ((pn : Int), (0 : Int), prom + (pn : Int))) := Lib.hid (by unfold promR; rw [if_neg (by rw [hwr]; decide), ← hpn, ← HLN.out, if_neg hf])
      clear hwr hpn o1 e1 hf
      go_wp2_with fail
      go_quiet ((go_at_call 59; first | exact quiet_at (HQ.out _) | exact quiet_at2 (HQ.out _)))
      go_wp2_with fail
      go_ret2
      refine ⟨by rw [HR.out]; rfl, by rw [HR.out]; exact (HS1.out.below (below_drewN (Below.refl _ _) _)).prom _, (Chg.of_below (below_drewN HB1.out _) (fun j => j = jb)).setCell (p := ⟨jb, 1, none⟩) (fun _ => rfl) _⟩
end Go.Proofs.Ytcghgnncmnoalaa
namespace Go.Proofs.Ytcghgnncmnoalaa
open Go.RowKit Go.Maps

/-- what an append answers: the errno, what is promised then, what is laid -/
def appR (room len : Nat) (prom : Int) (r : Rc) : Int × Int × List UInt8 :=
  if r.wrong = true then (2, prom, []) else if prom < ((packL 1 (bodyL r.stamp r.ws)).length : Nat) then (50, prom, [])
  else if len + (packL 1 (bodyL r.stamp r.ws)).length ≤ room then (0, prom - (packL 1 (bodyL r.stamp r.ws)).length, packL 1 (bodyL r.stamp r.ws)) else (50, prom - (packL 1 (bodyL r.stamp r.ws)).length, [])
def JAppPost (w : World) (jb db room safe : Nat) (prom last : Int) (B : Nat) (l : List UInt8) (ms : List (Int × Int)) (r : Rc) (e : Ending) (w' : World) : Prop :=
  e = .returned (.int .i64 (appR room l.length prom r).1) ∧ JS w' jb db room safe (appR room l.length prom r).2.1 last B (l ++ (appR room l.length prom r).2.2) ms ∧ Chg w w' (fun j => j = jb ∨ j = db ∨ dob w db = some j) ∧ DFr w w' db
set_option maxRecDepth 100000 in
set_option maxHeartbeats 2000000 in
theorem jAppend_any {w : World} {jb db room safe B : Nat} {prom last : Int} {l : List UInt8} {ms : List (Int × Int)} (h : JS w jb db room safe prom last B l ms) (hB : B ≤ w.heap.size) (hp0 : 0 ≤ prom) (hp1 : prom ≤ 2147483648)
    (st : Nat) (a : Option Addr) (cap n : Nat) (ws : List Wr) (hn : n = ws.length) (hw : WsV w a ws) (hs : st < 18446744073709551616) (hl : ws.length ≤ 1000000) (hlen : l.length + (packL 1 (bodyL st ws)).length ≤ 1000000) :
    Calls Try.prog 56 #[.pointer (some ⟨jb, 0, none⟩), .agg #[.int .u64 st, .slice a n cap]] w (JAppPost w jb db room safe prom last B l ms ⟨st, ws⟩) := by
  obtain ⟨r, hr⟩ : ∃ r : Rc, r = ⟨st, ws⟩ := ⟨_, rfl⟩
  rw [← hr]
  obtain ⟨W, hW⟩ : ∃ W, (w.alloc (.cells #[.int .u64 st, .slice a n cap] 35)) = W := ⟨_, rfl⟩
  have bW : Below w.heap.size w W := by rw [← hW]; exact below_box w _
  have eW : W.heap[w.heap.size]? = some (.cells #[.int .u64 st, .slice a n cap] 35) := by rw [← hW]; exact heap_new _ _
  have v0 := cell_of_blk eW 0
  have v1 := cell_of_blk eW 1
  simp at v0 v1
  have HC : Hid (Calls Try.prog 20 #[.agg #[.int .u64 st, .slice a n cap]] W (CommitPost W r)) := Lib.hid (by rw [hr, hn]; exact commit_any st a cap ws W (hw.below bW) hs hl (by rw [pack_len] at hlen; omega))
  have HS := Lib.hid (h.below bW)
  have HS0 := Lib.hid h
  have HB := Lib.hid bW
  have HBB := Lib.hid hB
  have HW := Lib.hid hW
  have HLEN : Hid (l.length + (packL 1 (bodyL r.stamp r.ws)).length ≤ 1000000) := Lib.hid (by rw [hr]; exact hlen)
  clear hW bW eW h hw hs hl hlen hn hr hB
  go_enter Try.func56, Try.ntmps56
  go_upto_region 1 with fail
  rw [HW.out]
  go_wp2_with fail
  refine HC.out.mono ?_
  rintro e w1 ⟨b1, h1⟩
  have HB1 := Lib.hid (below_then HB.out b1)
  have HS1 := Lib.hid (HS.out.below b1)
  clear b1
  rcases h1 with ⟨hwr, rfl⟩ | ⟨hwr, v, rfl, o1⟩
  · have HR : Hid (appR room l.length prom r = (2, prom, [])) := Lib.hid (by unfold appR; rw [if_pos hwr])
    clear hwr
    go_wp2_with fail
    go_ret
    refine ⟨by rw [HR.out]; rfl, by rw [HR.out, List.append_nil]; exact HS1.out, Chg.of_below HB1.out _, DFr.below HS0.out.d HB1.out⟩
  · obtain ⟨a1, c1, rfl⟩ := o1.shape
    obtain ⟨p, hp⟩ : ∃ p, p = packL 1 (bodyL r.stamp r.ws) := ⟨_, rfl⟩
    rw [← hp] at o1 ⊢
    obtain ⟨pn, hpn⟩ : ∃ pn, pn = p.length := ⟨_, rfl⟩
    rw [← hpn] at o1 ⊢
    have hpl : pn ≤ 1000000 := by rw [hpn, hp]; have := HLEN.out; omega
    obtain ⟨aj, cj, e1, _⟩ := HS1.out.j
    have k0 := cell_of_blk e1 0
    have k1 := cell_of_blk e1 1
    have f1 := frozen_of_blk e1 1
    simp at k0 k1
    have w4 : IntKind.i64.wrap (prom - (pn : Int)) = prom - (pn : Int) := by rw [IntKind.wrap_i64]; omega
    by_cases hf : prom < (pn : Int)
    · have t1 : decide (prom < (pn : Int)) = true := decide_eq_true hf
      have HR : Hid (appR room l.length prom r = (50, prom, [])) := Lib.hid (by unfold appR; rw [if_neg (by rw [hwr]; decide), ← hp, ← hpn, if_pos hf])
      clear hwr hpn o1 e1 hp
      go_wp2_with fail
      go_ret
      refine ⟨by rw [HR.out]; rfl, by rw [HR.out, List.append_nil]; exact HS1.out, Chg.of_below HB1.out _, DFr.below HS0.out.d HB1.out⟩
    · have t1 : decide (prom < (pn : Int)) = false := decide_eq_false hf
      obtain ⟨W2, hW2⟩ : ∃ W2, w1.setCell ⟨jb, 1, none⟩ (.int .i64 (prom - (pn : Int))) = W2 := ⟨_, rfl⟩
      have s2 : JS W2 jb db room safe (prom - pn) last B l ms := by rw [← hW2]; exact HS1.out.prom _
      have g2 : Chg w W2 (fun j => j = jb ∨ j = db ∨ dob w db = some j) := by rw [← hW2]; exact (Chg.of_below HB1.out (fun j => j = jb ∨ j = db ∨ dob w db = some j)).setCell (p := ⟨jb, 1, none⟩) (fun _ => .inl rfl) _
      have g12 : Chg w1 W2 (fun j => j = jb) := by rw [← hW2]; exact (Chg.refl w1 (fun j => j = jb)).setCell (p := ⟨jb, 1, none⟩) (fun _ => rfl) _
      obtain ⟨a2, c2, e2, _⟩ := s2.j
      have q0 := cell_of_blk e2 0
      simp at q0
      have hxv : BsV W2 a1 p := by
        have ho : BsO W2 W.heap.size (.slice a1 p.length c1) p := by
          rw [hpn] at o1
          exact ownsRow_of_block o1 (fun j hj => g12.block j (o1.lt j hj).2 (fun e => by
            have h1 := (o1.lt j hj).1
            have h2 := HS.out.j.lt
            omega))
        exact BsO.bsV ho
      obtain ⟨W3, hW3⟩ : ∃ W3, W2.alloc (.cells #[.slice a1 pn c1] 22) = W3 := ⟨_, rfl⟩
      have b3 : Below W2.heap.size W2 W3 := by rw [← hW3]; exact below_box _ _
      have e3 : W3.heap[W2.heap.size]? = some (.cells #[.slice a1 pn c1] 22) := by rw [← hW3]; exact heap_new _ _
      have HS3 := Lib.hid (s2.below b3)
      have HG3 : Hid (Chg w W3 (fun j => j = jb ∨ j = db ∨ dob w db = some j)) := Lib.hid (g2.trans (Chg.of_below b3 _) (fun _ _ h => h))
      have hdob : dob W3 db = dob w db := by rw [dob_below s2.d b3, dob_chg HS1.out.d g12 (fun e => (HS1.out.j.ne HS1.out.d) e.symm)]; exact dob_below HS0.out.d HB1.out
      have HDOB := Lib.hid hdob
      have HCA : Hid (Calls Try.prog 66 #[.pointer (some ⟨db, 0, none⟩), .slice (some ⟨W2.heap.size, 0, none⟩) 1 1] W3 (DkAppPost W3 db room safe B l p)) := Lib.hid (dkAppend_any HS3.out.d (Nat.le_trans HBB.out HG3.out.size) W2.heap.size a1 pn c1 p e3 (fun e => by
        rw [hdob] at e
        have h1 := (HS0.out.d.ob e).2.1
        have h2 := g2.size
        omega) hpn (hxv.below b3) (by have := HLEN.out; rw [hp]; omega))
      have HW2 := Lib.hid hW2
      have HW3 := Lib.hid hW3
      have HWR := Lib.hid hwr
      have HPN := Lib.hid hpn
      have HP := Lib.hid hp
      have HF := Lib.hid hf
      clear hW2 hW3 e2 e3 b3 g2 g12 s2 hxv hdob hwr hpn hp o1 e1 hf
      go_upto_region 7 with fail
      rw [HW2.out]
      go_wp2_with fail
      rw [HW3.out]
      refine HCA.out.mono ?_
      rintro e w4 ⟨hy, hz⟩
      by_cases hfit : l.length + p.length ≤ room
      · obtain ⟨rfl, d4, g4, r4⟩ := hy hfit
        have HR : Hid (appR room l.length prom r = (0, prom - (pn : Int), p)) := Lib.hid (by unfold appR; rw [if_neg (by rw [HWR.out]; decide), ← HP.out, ← HPN.out, if_neg (Int.not_lt.2 HF.out), if_pos (by rw [HPN.out]; exact hfit)])
        have H4 := Lib.hid (And.intro d4 g4)
        have HR4 : Hid (DFr w w4 db) := Lib.hid (DFr.trans (.inl HDOB.out) r4 HG3.out.size)
        clear hy hz d4 g4 r4
        go_wp2_with fail
        go_ret
        refine ⟨by rw [HR.out]; rfl, by rw [HR.out]; exact HS3.out.disk2 H4.out.1 H4.out.2, HG3.out.trans H4.out.2 (fun j _ hj => by rw [HDOB.out] at hj; exact .inr hj), HR4.out⟩
      · obtain ⟨rfl, b4⟩ := hz (by omega)
        have HR : Hid (appR room l.length prom r = (50, prom - (pn : Int), [])) := Lib.hid (by unfold appR; rw [if_neg (by rw [HWR.out]; decide), ← HP.out, ← HPN.out, if_neg (Int.not_lt.2 HF.out), if_neg (by rw [HPN.out]; exact hfit)])
        have H4 := Lib.hid b4
        clear hy hz b4
        go_wp2_with fail
        go_ret
        refine ⟨by rw [HR.out]; rfl, by rw [HR.out, List.append_nil]; exact HS3.out.below H4.out, HG3.out.trans (Chg.of_below H4.out _) (fun _ _ h => h), .inl ((dob_below HS3.out.d H4.out).trans HDOB.out)⟩
end Go.Proofs.Ytcghgnncmnoalaa
namespace Go.Proofs.Ytcghgnncmnoalaa
open Go.RowKit Go.Maps

/-- what a mark answers -/
def mkE (room len : Nat) (prom last n : Int) : Int := if epB n = false then 2 else if n ≤ last then 51 else if (room : Int) - len - prom < 28 then 50 else 0
def JMarkPost (w : World) (jb db room safe : Nat) (prom last : Int) (B : Nat) (l : List UInt8) (ms : List (Int × Int)) (n : Int) (e : Ending) (w' : World) : Prop :=
  e = .returned (.int .i64 (mkE room l.length prom last n)) ∧ (mkE room l.length prom last n ≠ 0 → JS w' jb db room safe prom last B l ms) ∧
  (mkE room l.length prom last n = 0 → JS w' jb db room safe prom n B (l ++ packL 2 (fourL n.toNat)) (ms ++ [(n, ((l.length + 14 : Nat) : Int))])) ∧ Chg w w' (fun j => j = jb ∨ j = db ∨ dob w db = some j ∨ job w jb = some j) ∧ DFr w w' db
/-- the mark is laid -/
theorem JS.marked {w w1 w2 : World} {jb db room safe B : Nat} {prom last : Int} {l : List UInt8} {ms : List (Int × Int)} (h : JS w jb db room safe prom last B l ms) {a : Option Addr} {cap : Nat} {v' : Value} {m : Int × Int}
    (e : w.heap[jb]? = some (.cells #[.pointer (some ⟨db, 0, none⟩), .int .i64 prom, .int .i64 last, .slice a ms.length cap] 174)) (hb : Below w.heap.size w w1) (hA : kS.App w1 B (.slice a ms.length cap) (ms ++ [m]) v' w2) :
    JS (w2.setCell ⟨jb, 3, none⟩ v') jb db room safe prom last B l (ms ++ [m]) ∧ w2.cell? ⟨jb, 3, none⟩ = some (.slice a ms.length cap) ∧ w2.frozen? ⟨jb, 3, none⟩ = false ∧ Chg w (w2.setCell ⟨jb, 3, none⟩ v') (fun j => j = jb ∨ job w jb = some j) ∧ ∃ a2 c2, v' = .slice a2 (ms ++ [m]).length c2 := by
  obtain ⟨o2, g2, l2⟩ := hA
  obtain ⟨a2, c2, hv⟩ := o2.shape
  have hjo : job w jb = (Value.slice a ms.length cap).ownBlock := job_eq e
  have hjn : (Value.slice a ms.length cap).ownBlock ≠ some jb := fun hh => (h.j.ob (hjo.trans hh)).2.2.1 rfl
  have h1 := h.below hb
  have e1 := (hb.block _ h.j.lt).trans e
  have e2 := (g2.block _ h1.j.lt (fun hh => hjn hh.symm)).trans e1
  have c1 : Chg w w2 (fun j => j = jb ∨ job w jb = some j) := (Chg.of_below hb _).grown g2 (fun m hm _ => .inr (by rw [hjo]; exact hm))
  have c2' : Chg w (w2.setCell ⟨jb, 3, none⟩ v') (fun j => j = jb ∨ job w jb = some j) := c1.setCell (p := ⟨jb, 3, none⟩) (fun _ => .inl rfl) _
  have hvn : v'.ownBlock ≠ some jb := by
    rcases l2 with r | r
    · rw [r]; exact hjn
    · rw [r]; intro hh; injection hh with hh; have := h1.j.lt; omega
  refine ⟨JS.mk' (h.d.chg c2' (fun hh => hh.elim (fun q => (h.j.ne h.d) q.symm) (fun q => (h.j.ob q).2.2.2 rfl)) (fun j hj hh => hh.elim (fun q => h.n1 (by rw [hj, q])) (fun q => h.n2 j q hj))) ⟨a2, c2, by rw [blk_setCell e2, ← hv]; rfl, ?_, by rw [← hv]; exact hvn, fun j hj => ?_⟩, ?_, frozen_of_blk e2 3, c2', a2, c2, hv⟩
  · rw [← hv]
    exact o2.chg (((Chg.refl w2 (fun j => j = jb)).setCell (p := ⟨jb, 3, none⟩) (fun _ => rfl) v')) (fun j hj hh => hvn (by rw [hj, hh]))
  · rw [← hv] at hj
    rcases l2 with r | r
    · rw [r, ← hjo] at hj; exact (h.j.ob hj).2.2.2
    · rw [r] at hj; injection hj with hj; have := h1.d.lt; omega
  · have := cell_of_blk e2 3
    simpa using this
end Go.Proofs.Ytcghgnncmnoalaa
namespace Go.Proofs.Ytcghgnncmnoalaa
open Go.RowKit Go.Maps

theorem JMarkPost.kept {w w1 : World} {jb db room safe B : Nat} {prom last n : Int} {l : List UInt8} {ms : List (Int × Int)} (h0 : JS w jb db room safe prom last B l ms) (hs : JS w1 jb db room safe prom last B l ms) (hc : Below w.heap.size w w1) {x : Int} (hx : x ≠ 0) (hm : mkE room l.length prom last n = x) : JMarkPost w jb db room safe prom last B l ms n (.returned (.int .i64 x)) w1 :=
  ⟨by rw [hm], fun _ => hs, fun h => absurd (hm.symm.trans h) hx, Chg.of_below hc _, DFr.below h0.d hc⟩
set_option maxRecDepth 100000 in
set_option maxHeartbeats 4000000 in
theorem jMark_any {w : World} {jb db room safe B : Nat} {prom last : Int} {l : List UInt8} {ms : List (Int × Int)} (h : JS w jb db room safe prom last B l ms) (hB : B ≤ w.heap.size) (hp0 : 0 ≤ prom) (hp1 : prom ≤ 2147483648) (hms : ms.length ≤ 1000000) (hlen : l.length + 14 ≤ 1000000) (n : Int) :
    Calls Try.prog 57 #[.pointer (some ⟨jb, 0, none⟩), .int .i64 n] w (JMarkPost w jb db room safe prom last B l ms n) := by
  have HS := Lib.hid h
  have HBB := Lib.hid hB
  obtain ⟨ln, hln⟩ : ∃ ln, ln = l.length := ⟨_, rfl⟩
  have HLN := Lib.hid hln
  have HLEN := Lib.hid hlen
  have HMS := Lib.hid hms
  have hl6 := h.d.hl
  have hr6 := h.d.hr
  rw [← hln] at hl6
  clear h hln hlen hms hB
  go_enter Try.func57, Try.ntmps57
  go_wp2_with fail
  refine (mark_any n _).mono ?_
  rintro e w1 ⟨b1, h1⟩
  have HB1 := Lib.hid b1
  have HS1 := Lib.hid (HS.out.below b1)
  clear b1
  rcases h1 with ⟨hwr, rfl⟩ | ⟨hwr, v, rfl, o1⟩
  · have HR : Hid (mkE room l.length prom last n = 2) := Lib.hid (by unfold mkE; rw [if_pos hwr])
    clear hwr
    go_wp2_with fail
    go_ret
    exact JMarkPost.kept HS.out HS1.out HB1.out (by decide) HR.out
  · obtain ⟨a1, c1, rfl⟩ := o1.shape
    obtain ⟨p, hp⟩ : ∃ p, p = packL 2 (fourL n.toNat) := ⟨_, rfl⟩
    rw [← hp] at o1 ⊢
    have hpl : p.length = 14 := by rw [hp, pack_len]; simp [fourL]
    rw [hpl] at o1 ⊢
    have hwr2 : ¬ (epB n = false) := by rw [hwr]; decide
    obtain ⟨aj, cj, e1, _⟩ := HS1.out.j
    have k0 := cell_of_blk e1 0
    have k1 := cell_of_blk e1 1
    have k2 := cell_of_blk e1 2
    simp at k0 k1 k2
    have HQ : Hid (∀ n : Nat, Quiet Try.prog 59 #[.pointer (some ⟨db, 0, none⟩)] (w1.drewN n) (.int .i64 ((room : Int) - ln))) := Lib.hid (fun n => by rw [HLN.out]; exact dkLeft_q (HS1.out.d.below (below_drewN (Below.refl _ _) n)))
    have w2 : IntKind.i64.wrap ((room : Int) - (ln : Int) - prom) = (room : Int) - (ln : Int) - prom := by rw [IntKind.wrap_i64]; omega
    by_cases hst : n ≤ last
    · have t1 : decide (n ≤ last) = true := decide_eq_true hst
      have HR : Hid (mkE room l.length prom last n = 51) := Lib.hid (by unfold mkE; rw [if_neg hwr2, if_pos hst])
      clear hwr hwr2 o1 e1 hst hp
      go_wp2_with fail
      go_ret
      exact JMarkPost.kept HS.out HS1.out HB1.out (by decide) HR.out
    · have t1 : decide (n ≤ last) = false := decide_eq_false hst
      by_cases hf : (room : Int) - ln - prom < 28
      · have t2 : decide ((room : Int) - (ln : Int) - prom < 28) = true := decide_eq_true hf
        have HR : Hid (mkE room l.length prom last n = 50) := Lib.hid (by unfold mkE; rw [if_neg hwr2, if_neg hst, ← HLN.out, if_pos hf])
        clear hwr hwr2 o1 e1 hst hp hf
        go_wp2_with fail
        go_quiet ((go_at_call 59; first | exact quiet_at (HQ.out _) | exact quiet_at2 (HQ.out _)))
        go_wp2_with fail
        go_ret
        exact JMarkPost.kept HS.out (HS1.out.below (below_drewN (Below.refl _ _) _)) (below_drewN HB1.out _) (by decide) HR.out
      · have t2 : decide ((room : Int) - (ln : Int) - prom < 28) = false := decide_eq_false hf
        have HR : Hid (mkE room l.length prom last n = 0) := Lib.hid (by unfold mkE; rw [if_neg hwr2, if_neg hst, ← HLN.out, if_neg hf])
        have HFT : Hid (l.length + p.length ≤ room) := Lib.hid (by rw [hpl, ← HLN.out]; omega)
        have HP := Lib.hid hp
        have HPL := Lib.hid hpl
        have HO1 := Lib.hid o1
        clear hwr hwr2 o1 e1 hst hp hf hpl
        go_wp2_with fail
        go_quiet ((go_at_call 59; first | exact quiet_at (HQ.out _) | exact quiet_at2 (HQ.out _)))
        obtain ⟨W2, hW2⟩ : ∃ W2, w1.drewN nq = W2 := ⟨_, rfl⟩
        rw [hW2]
        have kk : W2.cell? ⟨jb, 0, none⟩ = some (.pointer (some ⟨db, 0, none⟩)) := by rw [← hW2]; exact k0
        have b2 : Below w1.heap.size w1 W2 := by rw [← hW2]; exact below_drewN (Below.refl _ _) _
        obtain ⟨W3, hW3⟩ : ∃ W3, W2.alloc (.cells #[.slice a1 14 c1] 22) = W3 := ⟨_, rfl⟩
        have b3 : Below W2.heap.size W2 W3 := by rw [← hW3]; exact below_box _ _
        have b13 := below_then b2 b3
        have e3 : W3.heap[W2.heap.size]? = some (.cells #[.slice a1 14 c1] 22) := by rw [← hW3]; exact heap_new _ _
        have HS3 := Lib.hid (HS1.out.below b13)
        have HB3 := Lib.hid (below_then HB1.out b13)
        have HCA : Hid (Calls Try.prog 66 #[.pointer (some ⟨db, 0, none⟩), .slice (some ⟨W2.heap.size, 0, none⟩) 1 1] W3 (DkAppPost W3 db room safe B l p)) := Lib.hid (dkAppend_any HS3.out.d (Nat.le_trans HBB.out HB3.out.size) W2.heap.size a1 14 c1 p e3 (fun e => by
          rw [dob_below HS1.out.d b13] at e
          have h1 := (HS1.out.d.ob e).2.1
          have h2 := b2.size
          omega) HPL.out.symm ((BsO.bsV HO1.out).below b13) (by rw [HPL.out]; exact HLEN.out))
        have HW3 := Lib.hid hW3
        clear hW2 hW3 e3 b2 b3 b13
        clear k0 k1 k2
        go_upto_region 8 with fail
        go_wp2_with fail
        rw [HW3.out]
        refine HCA.out.mono ?_
        rintro e w4 ⟨hy, _⟩
        obtain ⟨rfl, d4, g4, r4⟩ := hy HFT.out
        have HS4 := Lib.hid (HS3.out.disk2 d4 g4)
        have HG4 := Lib.hid (show Chg w w4 (fun j => j = jb ∨ j = db ∨ dob w db = some j ∨ job w jb = some j) from (Chg.of_below HB3.out _).trans g4 (fun j _ hj => by rw [dob_below HS.out.d HB3.out] at hj; exact hj.elim (fun q => .inr (.inl q)) (fun q => .inr (.inr (.inl q)))))
        have HR4 : Hid (DFr w w4 db) := Lib.hid (DFr.trans (DFr.below HS.out.d HB3.out) r4 HB3.out.size)
        have HJO : Hid (job w4 jb = job w jb) := Lib.hid ((job_chg HS3.out.j g4 (fun e => e.elim (HS3.out.j.ne HS3.out.d) HS3.out.n1)).trans (job_chg HS.out.j (Chg.of_below HB3.out (fun _ => False)) (fun e => e)))
        obtain ⟨a4, c4, e4, _⟩ := HS4.out.j
        have f2 := frozen_of_blk e4 2
        obtain ⟨W5, hW5⟩ : ∃ W5, w4.setCell ⟨jb, 2, none⟩ (.int .i64 n) = W5 := ⟨_, rfl⟩
        have e5 : W5.heap[jb]? = some (.cells #[.pointer (some ⟨db, 0, none⟩), .int .i64 prom, .int .i64 n, .slice a4 ms.length c4] 174) := by rw [← hW5, blk_setCell e4]; rfl
        have k3 := cell_of_blk e4 2
        have k30 := cell_of_blk e4 0
        have HS5 : Hid (JS W5 jb db room safe prom n B (l ++ p) ms) := Lib.hid (by rw [← hW5]; exact HS4.out.last n)
        have HG5 : Hid (Chg w W5 (fun j => j = jb ∨ j = db ∨ dob w db = some j ∨ job w jb = some j)) := Lib.hid (by rw [← hW5]; exact HG4.out.setCell (p := ⟨jb, 2, none⟩) (fun _ => .inl rfl) _)
        have HR5 : Hid (DFr w W5 db) := Lib.hid (DFr.trans HR4.out (by rw [← hW5]; exact DFr.chg HS4.out.d ((Chg.refl w4 (fun j => j = jb)).setCell (p := ⟨jb, 2, none⟩) (fun _ => rfl) _) (fun e => (HS4.out.j.ne HS4.out.d) e.symm)) HG4.out.size)
        have HJ5 : Hid (job W5 jb = job w jb) := Lib.hid (by rw [← HJO.out, job_eq e5, job_eq e4])
        have HW5 := Lib.hid hW5
        have HE5 := Lib.hid e5
        clear hW5 e4 e5 hy d4 g4 r4 kk
        simp at k3 k30
        go_upto_region 10 with fail
        rw [HW5.out]
        clear k3 k30 f2
        obtain ⟨mz, hmz⟩ : ∃ mz : Nat, mz = (l ++ p).length := ⟨_, rfl⟩
        have hmz2 : mz = l.length + 14 := by rw [hmz, List.length_append, HPL.out]
        have q0 := cell_of_blk HE5.out 0
        have q3 := cell_of_blk HE5.out 3
        simp at q0 q3
        obtain ⟨W6, hW6⟩ : ∃ W6, (W5.alloc (.cells #[.int .i64 n, .int .i64 mz] 171)).drew = W6 := ⟨_, rfl⟩
        have b6 : Below W5.heap.size W5 W6 := by rw [← hW6]; exact below_drewN (below_box W5 _) 1
        have e6 : W6.heap[W5.heap.size]? = some (.cells #[.int .i64 n, .int .i64 mz] 171) := by rw [← hW6]; exact heap_new W5 _
        have q3a : (W5.alloc (.cells #[.int .i64 n, .int .i64 mz] 171)).cell? ⟨jb, 3, none⟩ = some (.slice a4 ms.length c4) := ((below_box W5 _).cell (p := ⟨jb, 3, none⟩) HS5.out.j.lt).trans q3
        have HV6 : Hid (kS.V W6 (some ⟨W5.heap.size, 0, none⟩) [(n, (mz : Int))]) := Lib.hid (fun _ => ⟨_, 0, rfl, RowK.new_at (k := kS) (l := [(n, (mz : Int))]) e6 rfl⟩)
        have HO6 : Hid (kS.Own W6 B (.slice a4 ms.length c4) ms) := Lib.hid (by
          obtain ⟨a7, c7, e7, o7, _⟩ := HS5.out.j
          rw [HE5.out] at e7
          injection e7 with e7
          injection e7 with e7
          simp at e7
          obtain ⟨rfl, rfl⟩ := e7
          exact o7.below b6)
        have HLC : Hid (Calls Try.prog 58 #[.pointer (some ⟨db, 0, none⟩)] W5.drew (fun e w'' => e = .returned (.int .i64 (mz : Int)) ∧ w'' = W5.drew)) := Lib.hid (by
          rw [hmz]
          exact (dkLen_any (HS5.out.d.below (below_drewN (Below.refl _ _) 1))).mono (fun _ _ h => ⟨h.1, h.2.symm⟩))
        have HMK : Hid (∀ v' w7, kS.App W6 B (.slice a4 ms.length c4) (ms ++ [(n, (mz : Int))]) v' w7 → _) := Lib.hid (fun v' w7 hA => HS5.out.marked HE5.out b6 hA)
        have HW6 := Lib.hid hW6
        have HB6 : Hid (B ≤ W6.heap.size) := Lib.hid (Nat.le_trans HBB.out (Nat.le_trans HG5.out.size b6.size))
        have HMZ := Lib.hid hmz2
        clear hW6 b6 e6 hmz hmz2
        go_region_law (first
          | (rw [HW6.out]; refine RowK.step_app (k := kS) (B := B) (v := .slice a4 ms.length c4) (l := ms) rfl (.tmp 50) (.tmp 58) rfl rfl HO6.out (some ⟨W5.heap.size, 0, none⟩) 1 [(n, (mz : Int))] 1 rfl rfl HV6.out (by simp) ?hlx HB6.out ?_
             case hlx => (have := HMS.out; simp; omega)
             intro v' w7 hA
             obtain ⟨q4, q5, q6, q7, a7, c7, rfl⟩ := HMK.out _ _ hA
             have HQ4 := Lib.hid (And.intro q4 q7)
             clear hA q4 q7)
          | (go_simp; refine HLC.out.mono ?_; rintro e w'' ⟨rfl, rfl⟩; dsimp only))
        all_goals (
          go_wp2_with fail
          go_ret
          obtain ⟨h4, h7⟩ := HQ4.out
          rw [show (ms ++ [(n, (mz : Int))]).length = ms.length + 1 by simp] at h4 h7
          refine ⟨by rw [HR.out]; rfl, fun h => absurd HR.out h, fun _ => ?_, ?_, DFr.trans HR5.out (DFr.chg HS5.out.d h7 (fun e => e.elim (fun q => (HS5.out.j.ne HS5.out.d) q.symm) (fun q => (HS5.out.j.ob q).2.2.2 rfl))) HG5.out.size⟩
          · rw [← HP.out, ← HMZ.out]
            exact h4
          · exact HG5.out.trans h7 (fun j _ hj => by
              rw [HJ5.out] at hj
              exact hj.elim (fun q => .inl q) (fun q => .inr (.inr (.inr q)))))
end Go.Proofs.Ytcghgnncmnoalaa
namespace Go.Proofs.Ytcghgnncmnoalaa
open Go.RowKit Go.Maps

set_option maxRecDepth 100000 in
theorem record15_any (e s st : Nat) (he : e < 100) (hs : s < 100) (hst : e * 2147483648 + s = st) (w : World) : Calls Try.prog 61 #[.int .i64 e, .int .i64 s] w (ExPost w st s) := by
  obtain ⟨b, hb⟩ : ∃ b, w.heap.size + 1 = b := ⟨_, rfl⟩
  obtain ⟨W, hW⟩ : ∃ W, ((w.alloc (.cells #[.int .u64 ((e : Int) * 2147483648 + s), .slice (some ⟨b, 0, none⟩) 1 1] 35)).alloc (.cells #[.int .i64 0, .int .i64 s, .int .i64 0, .string ⟨#[]⟩, .string ⟨#[120]⟩, .bool true] 80)) = W := ⟨_, rfl⟩
  have hB : Below w.heap.size w W := by rw [← hW]; exact (below_box w _).alloc (by (try simp only [size_alloc]); omega) _
  have e1 : W.heap[w.heap.size]? = some (.cells #[.int .u64 ((e : Int) * 2147483648 + s), .slice (some ⟨b, 0, none⟩) 1 1] 35) := by rw [← hW, Below.heap_alloc _ _ _ (by (try simp only [size_alloc]); omega)]; exact heap_new w _
  have e2 : W.heap[b]? = some (.cells #[.int .i64 0, .int .i64 s, .int .i64 0, .string ⟨#[]⟩, .string ⟨#[120]⟩, .bool true] 80) := by
    have := heap_new (w.alloc (.cells #[.int .u64 ((e : Int) * 2147483648 + s), .slice (some ⟨b, 0, none⟩) 1 1] 35)) (.cells #[.int .i64 0, .int .i64 s, .int .i64 0, .string ⟨#[]⟩, .string ⟨#[120]⟩, .bool true] 80)
    rw [size_alloc, hb, hW] at this; exact this
  have c0 : W.cell? ⟨w.heap.size, 0, none⟩ = some (.int .u64 ((e : Int) * 2147483648 + s)) := cell_of_blk e1 0
  have c1 : W.cell? ⟨w.heap.size, 1, none⟩ = some (.slice (some ⟨b, 0, none⟩) 1 1) := cell_of_blk e1 1
  have hx : (exW s).Ok := by
    constructor
    · constructor <;> simp [exW, I64, maxLen, ByteArray.size] <;> omega
    · show 1 ≤ maxLen
      unfold maxLen; omega
  have HWS : Hid (WsV W (some ⟨b, 0, none⟩) [exW s]) := Lib.hid (fun _ => ⟨b, 0, rfl, ⟨fun i x hi => by
    obtain ⟨hi2, rfl⟩ := List.getElem?_eq_some_iff.1 hi
    have hi0 : i = 0 := by simpa using hi2
    subst hi0
    refine ⟨hx, fun j v hv => ?_⟩
    rw [cell_of_blk e2, ← hv]
    simp [exW, Wr.cells], (Array.getElem?_eq_some_iff.1 e2).1⟩⟩)
  have hbz : w.heap.size ≤ b := by omega
  have HBW := Lib.hid hB
  have HW := Lib.hid hW
  have HB := Lib.hid hb
  have HST := Lib.hid hst
  clear hW hB hb e1 e2 hx hst
  go_enter Try.func61, Try.ntmps61
  go_upto_region 1 with fail
  go_wp2_with fail
  rw [HB.out, HW.out]
  refine bodyPost_ret (v := .agg #[.int .u64 ((e : Int) * 2147483648 + s), .slice (some ⟨b, 0, none⟩) 1 1]) ?_ rfl ⟨b, hbz, ?_, HWS.out, HBW.out⟩
  · simp [results, Try.results61, go_sem, c0, c1]
  · rw [← HST.out]; simp
theorem ex1_pack : (packL 1 (bodyL ex1.stamp ex1.ws)).length = 37 := by rw [pack_len, ex1_len]
theorem ex1_prom : promR 500 0 0 ex1 = (37, 0, 37) := by
  unfold promR
  rw [if_neg (by rw [ex1_ok]; decide), ex1_pack]
  decide
theorem ex1_app : appR 500 0 37 ex1 = (0, 0, packL 1 (bodyL ex1.stamp ex1.ws)) := by
  unfold appR
  rw [if_neg (by rw [ex1_ok]; decide), ex1_pack, if_neg (by decide), if_pos (by decide)]
  exact Prod.ext rfl (Prod.ext (by decide) rfl)
theorem mk1_e : mkE 500 37 0 (-1) 1 = 0 := by
  unfold mkE
  rw [if_neg (by unfold epB inB; decide)]
  decide
theorem JS.ge {w : World} {jb db room safe B j : Nat} {prom last : Int} {l : List UInt8} {ms : List (Int × Int)} (h : JS w jb db room safe prom last B l ms) (h1 : B ≤ jb) (h2 : B ≤ db) (hj : j = jb ∨ j = db ∨ dob w db = some j ∨ job w jb = some j) : B ≤ j := by
  rcases hj with rfl | rfl | hj | hj
  · exact h1
  · exact h2
  · exact (h.d.ob hj).1
  · exact (h.j.ob hj).1
set_option maxRecDepth 100000 in
set_option maxHeartbeats 4000000 in
theorem awake15_any (w : World) : Calls Try.prog 51 #[] w (BoolPost w true) := by
  go_enter Try.func51, Try.ntmps51
  go_wp2_with fail
  refine (dkNew_any 500 (by omega) w).mono ?_
  rintro e w1 ⟨rfl, d1, b1⟩
  have HD1 := Lib.hid d1
  have HB1 := Lib.hid b1
  clear d1 b1
  go_wp2_with fail
  refine (jOpen_any HD1.out HB1.out.size).mono ?_
  rintro e w2 ⟨jb, a2, c2, rs, rfl, _, _, m2, _, hjb, s2, g2⟩
  have hcut : (lgN []).cut = 0 := by have := cut_le []; simpa using this
  obtain ⟨hla, hou⟩ := cut_none [] hcut
  rw [hou] at m2
  have hrs : rs = [] := List.map_eq_nil_iff.1 m2
  subst hrs
  rw [hla, hcut] at s2
  have HS2 : Hid (JS w2 jb w.heap.size 500 0 0 (-1) w.heap.size [] [(-1, 0)]) := Lib.hid s2
  have HJB : Hid (w.heap.size ≤ jb) := Lib.hid (Nat.le_trans HB1.out.size hjb)
  have HB2 : Hid (Below w.heap.size w w2) := Lib.hid (HB1.out.trans (g2.below HB1.out.size (fun i hi => by rw [hi]; exact Nat.le_refl _)))
  clear m2 hjb s2 g2 hcut hla hou
  go_wp2_with fail
  refine (record15_any 1 1 2147483649 (by omega) (by omega) rfl w2).mono ?_
  rintro e w3 ⟨b3, _, rfl, k3, q3⟩
  have HS3 := Lib.hid (HS2.out.below q3)
  have HB3 := Lib.hid (below_then HB2.out q3)
  have HP : Hid (Calls Try.prog 55 #[.pointer (some ⟨jb, 0, none⟩), .agg #[.int .u64 2147483649, .slice (some ⟨b3, 0, none⟩) 1 1]] w3 (PromPost w3 jb w.heap.size 500 0 0 (-1) w.heap.size [] [(-1, 0)] ex1)) :=
    Lib.hid (jPromise_any HS3.out (by omega) (by omega) 2147483649 (some ⟨b3, 0, none⟩) 1 1 [exW 1] rfl k3 (by omega) (by simp) (by rw [show (bodyL (max 2147483649 1) [exW 1]).length = 27 from ex1_len]; omega))
  clear k3 q3
  go_wp2_with fail
  refine HP.out.mono ?_
  rintro e w4 ⟨rfl, s4, g4⟩
  rw [show promR 500 ([] : List UInt8).length 0 ex1 = (37, 0, 37) from ex1_prom] at s4 ⊢
  have HS4 : Hid (JS w4 jb w.heap.size 500 0 37 (-1) w.heap.size [] [(-1, 0)]) := Lib.hid s4
  have HB4 : Hid (Below w.heap.size w w4) := Lib.hid (HB3.out.trans (g4.below HB3.out.size (fun i hi => by rw [hi]; exact HJB.out)))
  clear s4 g4
  dsimp only
  go_wp2_with fail
  refine (record15_any 1 1 2147483649 (by omega) (by omega) rfl w4).mono ?_
  rintro e w5 ⟨b5, _, rfl, k5, q5⟩
  have HS5 := Lib.hid (HS4.out.below q5)
  have HB5 := Lib.hid (below_then HB4.out q5)
  have HA : Hid (Calls Try.prog 56 #[.pointer (some ⟨jb, 0, none⟩), .agg #[.int .u64 2147483649, .slice (some ⟨b5, 0, none⟩) 1 1]] w5 (JAppPost w5 jb w.heap.size 500 0 37 (-1) w.heap.size [] [(-1, 0)] ex1)) :=
    Lib.hid (jAppend_any HS5.out HB5.out.size (by omega) (by omega) 2147483649 (some ⟨b5, 0, none⟩) 1 1 [exW 1] rfl k5 (by omega) (by simp) (by rw [show (packL 1 (bodyL 2147483649 [exW 1])).length = 37 from ex1_pack]; simp))
  clear k5 q5
  go_wp2_with fail
  refine HA.out.mono ?_
  rintro e w6 ⟨rfl, s6, g6, _⟩
  rw [show appR 500 ([] : List UInt8).length 37 ex1 = (0, 0, packL 1 (bodyL ex1.stamp ex1.ws)) from ex1_app] at s6 ⊢
  obtain ⟨P, hP⟩ : ∃ P, P = packL 1 (bodyL ex1.stamp ex1.ws) := ⟨_, rfl⟩
  have hPl : P.length = 37 := by rw [hP]; exact ex1_pack
  rw [← hP] at s6
  have HS6 : Hid (JS w6 jb w.heap.size 500 0 0 (-1) w.heap.size P [(-1, 0)]) := Lib.hid s6
  have HB6 : Hid (Below w.heap.size w w6) := Lib.hid (HB5.out.trans (g6.below HB5.out.size (fun i hi => HS5.out.ge HJB.out (Nat.le_refl _) (hi.elim .inl (fun q => q.elim (fun r => .inr (.inl r)) (fun r => .inr (.inr (.inl r))))))))
  have HM : Hid (Calls Try.prog 57 #[.pointer (some ⟨jb, 0, none⟩), .int .i64 1] w6 (JMarkPost w6 jb w.heap.size 500 0 0 (-1) w.heap.size P [(-1, 0)] 1)) :=
    Lib.hid (jMark_any HS6.out HB6.out.size (by omega) (by omega) (by simp) (by omega) 1)
  have HPL := Lib.hid hPl
  clear s6 g6 hP hPl
  dsimp only
  go_wp2_with fail
  refine HM.out.mono ?_
  rintro e w7 ⟨rfl, _, s7, g7, _⟩
  rw [show mkE 500 P.length 0 (-1) 1 = 0 by rw [HPL.out]; exact mk1_e] at s7 ⊢
  obtain ⟨R, hR⟩ : ∃ R, R = P ++ packL 2 (fourL (1 : Int).toNat) := ⟨_, rfl⟩
  have hRl : R.length = 51 := by rw [hR, List.length_append, HPL.out, pack_len]; simp [fourL]
  rw [← hR] at s7
  have HS7 : Hid (JS w7 jb w.heap.size 500 0 0 1 w.heap.size R [(-1, 0), (1, 51)]) := Lib.hid (by
    have := s7 rfl
    rw [HPL.out] at this
    exact this)
  have HB7 : Hid (Below w.heap.size w w7) := Lib.hid (HB6.out.trans (g7.below HB6.out.size (fun i hi => HS6.out.ge HJB.out (Nat.le_refl _) hi)))
  have HRL := Lib.hid hRl
  clear s7 g7 hR hRl
  go_wp2_with fail
  refine (jSure_any HS7.out.j HS7.out.d (by simp)).mono ?_
  rintro e w8 ⟨rfl, b8⟩
  rw [show sureOf ((0 : Nat) : Int) (-1) [(-1, 0), (1, 51)] = -1 by decide]
  have HS8 := Lib.hid (HS7.out.below b8)
  have HB8 := Lib.hid (below_then HB7.out b8)
  clear b8
  go_wp2_with fail
  refine (jFlush_any HS8.out (by simp)).mono ?_
  rintro e w9 ⟨rfl, _, g9⟩
  rw [show sureOf (R.length : Int) (-1) [(-1, 0), (1, 51)] = 1 by rw [HRL.out]; decide]
  have HB9 : Hid (Below w.heap.size w w9) := Lib.hid (HB8.out.trans (g9.below HB8.out.size (fun i hi => by rw [hi]; exact Nat.le_refl _)))
  clear g9
  go_wp2_with fail
  go_ret
  exact ⟨rfl, HB9.out⟩
end Go.Proofs.Ytcghgnncmnoalaa
