/- redo.lay; cobwebref14.num. Conditions: each contract's own premises. redo.body. Conditions: each contract's own premises. cobwebref14.Body. Conditions: each contract's own premises. redo.Commit, redo.Mark; cobwebref14.Mark. Conditions: each contract's own premises. -/
import Derived.Test.YtonilojjahfboaaRdA
namespace Go.Proofs.Ytonilojjahfboaa
open Go.RowKit Go.Maps

/-- a number's last bytes, the great ones first -/
def beL (n : Nat) : Nat → List UInt8
  | 0 => []
  | k + 1 => UInt8.ofNat (n / 256 ^ k) :: beL n k
theorem beL_len (n : Nat) : ∀ k, (beL n k).length = k
  | 0 => rfl
  | k + 1 => by unfold beL; rw [List.length_cons, beL_len n k]
theorem beL_four (n : Nat) : beL n 4 = fourL n := by simp [beL, fourL]
/-- a step of one's own bytes, seen from an earlier world -/
def OwnR (V : World) (r0 : Option Nat) (v : Value) : Prop := v.ownBlock = r0 ∨ ∃ g, v.ownBlock = some g ∧ V.heap.size ≤ g
theorem grw_refl (w : World) (r : Option Nat) : w.grownBy w r := ⟨rfl, rfl, rfl, Nat.le_refl _, fun _ _ _ => rfl⟩
theorem grw_below {w w' : World} (h : Below w.heap.size w w') (r : Option Nat) : w.grownBy w' r := ⟨h.os, h.tape, h.output, h.size, fun k hk _ => h.block k hk⟩
theorem grw_step {V w1 w2 : World} {r0 : Option Nat} {v : Value} (h : V.grownBy w1 r0) (hr : OwnR V r0 v) (k : w1.grownBy w2 v.ownBlock) : V.grownBy w2 r0 :=
  ⟨k.os.trans h.os, k.tape.trans h.tape, k.output.trans h.output, Nat.le_trans h.size k.size, fun i hi hn => (k.block i (Nat.lt_of_lt_of_le hi h.size) (fun e => by
    rcases hr with hr | ⟨g, hg, hl⟩
    · exact hn (e.trans hr)
    · rw [hg] at e; injection e with e; omega)).trans (h.block i hi hn)⟩
theorem grw_below2 {V w1 w2 : World} {r0 : Option Nat} (h : V.grownBy w1 r0) (k : Below w1.heap.size w1 w2) : V.grownBy w2 r0 :=
  ⟨k.os.trans h.os, k.tape.trans h.tape, k.output.trans h.output, Nat.le_trans h.size k.size, fun i hi hn => (k.block i (Nat.lt_of_lt_of_le hi h.size)).trans (h.block i hi hn)⟩
theorem OwnR.step {V w1 : World} {r0 : Option Nat} {v v' : Value} (h : OwnR V r0 v) (hs : V.heap.size ≤ w1.heap.size) (k : v'.ownBlock = v.ownBlock ∨ ∃ g, v'.ownBlock = some g ∧ w1.heap.size ≤ g) : OwnR V r0 v' := by
  rcases k with k | ⟨g, k, hl⟩
  · rcases h with h | ⟨g, h, hg⟩
    · exact .inl (k.trans h)
    · exact .inr ⟨g, k.trans h, hg⟩
  · exact .inr ⟨g, k, by omega⟩
theorem grw_from {B : Nat} {w w' : World} {v : Value} {l : List UInt8} (h : BsO w B v l) (hg : w.grownBy w' v.ownBlock) (hB : B ≤ w.heap.size) : Below B w w' := below_grown h hg hB
def LayPost (w : World) (B : Nat) (r : Option Nat) (l : List UInt8) (e : Ending) (w' : World) : Prop := ∃ v', e = .returned v' ∧ BsO w' B v' l ∧ w.grownBy w' r ∧ OwnR w r v'
end Go.Proofs.Ytonilojjahfboaa
namespace Go.Proofs.Ytonilojjahfboaa
open Go.RowKit Go.Maps

theorem baL (s : ByteArray) : s.data.toList.length = s.size := rfl
/-- a write's bytes -/
def wrB (x : Wr) : List UInt8 := UInt8.ofNat x.k.kind.toNat :: (beL x.k.a.toNat 5 ++ (beL x.k.b.toNat 5 ++ (beL x.k.s.size 2 ++ (x.k.s.data.toList ++ ((if x.has = true then 1 else 0) :: (beL x.val.size 2 ++ x.val.data.toList))))))
/-- a record's bytes -/
def headB (st n : Nat) : List UInt8 := beL st 8 ++ beL n 2
def bodyL (st : Nat) (ws : List Wr) : List UInt8 := headB st ws.length ++ ws.flatMap wrB
theorem headB_len (st n : Nat) : (headB st n).length = 10 := by simp [headB, beL_len]
theorem wrB_len (x : Wr) : (wrB x).length = x.k.s.size + x.val.size + 16 := by
  have h1 : x.k.s.data.toList.length = x.k.s.size := rfl
  have h2 : x.val.data.toList.length = x.val.size := rfl
  simp only [wrB, List.length_cons, List.length_append, beL_len, h1, h2]
  omega
theorem badWs_mem : ∀ {ws : List Wr} {o : Option Ky} {x : Wr}, badWs ws o = false → x ∈ ws → x.odd = false
  | y :: r, o, x, h, hx => by
    unfold badWs at h
    simp at h
    rcases List.mem_cons.1 hx with rfl | hx
    · exact h.1.1
    · exact badWs_mem h.2 hx
/-- what a write that may be is -/
structure Wr.Fine (x : Wr) : Prop where
  kind : ∃ n : Nat, x.k.kind = n ∧ n < 256
  a : ∃ n : Nat, x.k.a = n ∧ n < 1099511627776
  b : ∃ n : Nat, x.k.b = n ∧ n < 1099511627776
  s : x.k.s.size < 65536
  val : x.val.size < 65536
theorem Wr.fine {x : Wr} (h : x.odd = false) : x.Fine := by
  unfold Wr.odd Wr.big inB at h
  simp at h
  obtain ⟨⟨⟨h1, h2⟩, ⟨h3, h4⟩, ⟨h5, h6⟩, h7, h8⟩, _⟩ := h
  exact ⟨⟨x.k.kind.toNat, by omega, by omega⟩, ⟨x.k.a.toNat, by omega, by omega⟩, ⟨x.k.b.toNat, by omega, by omega⟩, by omega, by omega⟩
theorem flat_take {ws : List Wr} {k : Nat} {x : Wr} (hx : ws[k]? = some x) : (ws.take (k + 1)).flatMap wrB = (ws.take k).flatMap wrB ++ wrB x := by
  obtain ⟨hk, rfl⟩ := List.getElem?_eq_some_iff.1 hx
  rw [List.take_succ_eq_append_getElem hk, List.flatMap_append]
  simp
theorem flat_len {ws : List Wr} {k : Nat} {x : Wr} (hx : ws[k]? = some x) : ((ws.take k).flatMap wrB).length + (wrB x).length ≤ (ws.flatMap wrB).length := by
  have h := flat_take hx
  have e : ws = ws.take (k + 1) ++ ws.drop (k + 1) := (List.take_append_drop _ _).symm
  conv => rhs; rw [e, List.flatMap_append, h]
  simp
theorem grw_drew {V w : World} {r : Option Nat} (h : V.grownBy w r) : V.grownBy w.drew r := ⟨h.os, h.tape, h.output, h.size, h.block⟩
theorem grw_none {V w : World} (h : V.grownBy w none) : Below V.heap.size V w := ⟨h.os, h.tape, h.output, h.size, fun k hk => h.block k hk (fun e => by cases e)⟩
def OutPost (w : World) (l : List UInt8) (e : Ending) (w' : World) : Prop := ∃ v, e = .returned v ∧ BsO w' w.heap.size v l ∧ Below w.heap.size w w'
theorem newX {w : World} {b : UInt8} {v : Value} (h : v = bv b) : BsV (w.alloc (.cells #[v] 5)) (some ⟨w.heap.size, 0, none⟩) [b] := fun _ => ⟨_, 0, rfl, new_at (by rw [h]; rfl)⟩
theorem BsO.grown {w w' : World} {B : Nat} {v : Value} {l : List UInt8} {r : Option Nat} (h : BsO w B v l) (hg : w.grownBy w' r) (hn : ∀ k, v.ownBlock = some k → some k ≠ r) : BsO w' B v l :=
  ownsRow_of_block h (fun k hk => hg.block k (h.lt k hk).2 (hn k hk))
theorem OwnR.next {V w1 : World} {r0 : Option Nat} {v v' : Value} (h : OwnR V r0 v) (hs : V.heap.size ≤ w1.heap.size) (k : v'.ownBlock = v.ownBlock ∨ v'.ownBlock = some w1.heap.size) : OwnR V r0 v' := h.step hs (k.imp id (fun e => ⟨_, e, Nat.le_refl _⟩))
end Go.Proofs.Ytonilojjahfboaa
namespace Go.Proofs.Ytonilojjahfboaa
open Go.RowKit Go.Maps

theorem own_ge {W w : World} {v : Value} {l : List UInt8} (h : BsO w W.heap.size v l) : OwnR W none v := by
  rcases h.2 with ⟨rfl, _⟩ | ⟨g, cap, cur, rfl, hg, _⟩
  · exact .inl rfl
  · exact .inr ⟨g, rfl, hg⟩
end Go.Proofs.Ytonilojjahfboaa
namespace Go.Proofs.Ytonilojjahfboaa
open Go.RowKit Go.Maps

theorem BsO.bsV {w : World} {B : Nat} {a : Option Addr} {n cap : Nat} {l : List UInt8} (h : BsO w B (.slice a n cap) l) : BsV w a l := fun hn => by
  obtain ⟨g, c, hv, _, hat⟩ := h.at' hn
  injection hv with h1 h2 h3
  exact ⟨g, 0, h1, hat⟩
def CommitPost (w : World) (r : Rc) (e : Ending) (w' : World) : Prop :=
  Below w.heap.size w w' ∧ ((r.wrong = true ∧ e = .returned (.tuple #[.slice none 0 0, .int .i64 2])) ∨ (r.wrong = false ∧ ∃ v, e = .returned (.tuple #[v, .int .i64 0]) ∧ BsO w' w.heap.size v (packL 1 (bodyL r.stamp r.ws))))
/-- is a number an epoch? -/
def epB (n : Int) : Bool := inB n 2147483647
def MarkPost (w : World) (n : Int) (e : Ending) (w' : World) : Prop :=
  Below w.heap.size w w' ∧ ((epB n = false ∧ e = .returned (.tuple #[.slice none 0 0, .int .i64 2])) ∨ (epB n = true ∧ ∃ v, e = .returned (.tuple #[v, .int .i64 0]) ∧ BsO w' w.heap.size v (packL 2 (fourL n.toNat))))
theorem epB_nat {n : Int} (h : epB n = true) : ∃ k : Nat, n = k ∧ k < 2147483648 := by
  unfold epB inB at h
  simp at h
  exact ⟨n.toNat, by omega, by omega⟩
end Go.Proofs.Ytonilojjahfboaa
