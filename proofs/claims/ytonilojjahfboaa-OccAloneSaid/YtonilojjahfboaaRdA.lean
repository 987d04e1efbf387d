/- Records and writes in plain form and in memory; redo.in, odd; cobwebref14.in. Conditions: each contract's own premises. redo.wrong. Conditions: each contract's own premises. cobwebref14.Right; redo.Right; what is small. Conditions: each contract's own premises. Records in memory; redo.Right; what is small. Conditions: each contract's own premises. -/
import Derived.Test.YtonilojjahfboaaBkB
import Derived.Test.YtonilojjahfboaaKyA
namespace Go.Proofs.Ytonilojjahfboaa
open Go.RowKit Go.Maps

/-- a write -/
structure Wr where
  k : Ky
  val : ByteArray
  has : Bool
def Wr.cells (w : Wr) : List Value := [.int .i64 w.k.kind, .int .i64 w.k.a, .int .i64 w.k.b, .string w.k.s, .string w.val, .bool w.has]
structure Wr.Ok (w : Wr) : Prop where
  k : w.k.Ok
  val : w.val.size ≤ maxLen
/-- writes in memory, one behind the other -/
structure WsAt (w : World) (b off : Nat) (ws : List Wr) : Prop where
  cells : ∀ (i : Nat) (x : Wr), ws[i]? = some x → x.Ok ∧ ∀ (j : Nat) (v : Value), x.cells[j]? = some v → w.cell? ⟨b, off + i * 6 + j, none⟩ = some v
  lt : b < w.heap.size
def WsV (w : World) (a : Option Addr) (ws : List Wr) : Prop := ws ≠ [] → ∃ b off, a = some ⟨b, off, none⟩ ∧ WsAt w b off ws
theorem WsAt.of_block {w w' : World} {b off : Nat} {ws : List Wr} (h : WsAt w b off ws) (hb : w'.heap[b]? = w.heap[b]?) : WsAt w' b off ws :=
  ⟨fun i x hx => ⟨(h.cells i x hx).1, fun j v hv => (World.cell?_of_block (a := ⟨b, off + i * 6 + j, none⟩) hb).trans ((h.cells i x hx).2 j v hv)⟩, (Array.getElem?_eq_some_iff.1 (hb.trans (Array.getElem?_eq_getElem h.lt))).1⟩
theorem WsAt.below {w w' : World} {b off : Nat} {ws : List Wr} (h : WsAt w b off ws) (hb : Below w.heap.size w w') : WsAt w' b off ws := h.of_block (hb.block b h.lt)
theorem WsV.below {w w' : World} {a : Option Addr} {ws : List Wr} (h : WsV w a ws) (hb : Below w.heap.size w w') : WsV w' a ws := fun hn => by
  obtain ⟨b, off, e, hat⟩ := h hn
  exact ⟨b, off, e, hat.below hb⟩
/-- the cells of one write -/
theorem WsAt.six {w : World} {b off : Nat} {ws : List Wr} (h : WsAt w b off ws) {i : Nat} {x : Wr} (hx : ws[i]? = some x) :
    w.cell? ⟨b, off + i * 6, none⟩ = some (.int .i64 x.k.kind) ∧ w.cell? ⟨b, off + i * 6 + 1, none⟩ = some (.int .i64 x.k.a) ∧ w.cell? ⟨b, off + i * 6 + 2, none⟩ = some (.int .i64 x.k.b) ∧
    w.cell? ⟨b, off + i * 6 + 3, none⟩ = some (.string x.k.s) ∧ w.cell? ⟨b, off + i * 6 + 4, none⟩ = some (.string x.val) ∧ w.cell? ⟨b, off + i * 6 + 5, none⟩ = some (.bool x.has) := by
  have e := (h.cells i x hx).2
  exact ⟨e 0 _ rfl, e 1 _ rfl, e 2 _ rfl, e 3 _ rfl, e 4 _ rfl, e 5 _ rfl⟩

def inB (n t : Int) : Bool := decide (0 ≤ n) && decide (n ≤ t)
/-- a write's numbers or texts are too great -/
def Wr.big (w : Wr) : Bool := !inB w.k.kind 255 || (!inB w.k.a 1099511627775 || (!inB w.k.b 1099511627775 || (decide (65535 < w.k.s.size) || decide (65535 < w.val.size))))
/-- a text where there is none -/
def Wr.mute (w : Wr) : Bool := !w.has && decide (w.val.size ≠ 0)
def Wr.odd (w : Wr) : Bool := w.big || w.mute
def OddPost (w : World) (x : Wr) (e : Ending) (w' : World) : Prop := e = .returned (.bool x.odd) ∧ Below w.heap.size w w'
theorem size0 {s : ByteArray} : (s.toList == ([] : List UInt8)) = decide (s.size = 0) := by
  rw [ByteArray.toList_eq]
  cases hd : s.data.toList with
  | nil =>
    have h2 : s.size = 0 := by rw [show s.size = s.data.toList.length from rfl, hd]; rfl
    rw [h2]; rfl
  | cons a t =>
    have h2 : s.size ≠ 0 := by rw [show s.size = s.data.toList.length from rfl, hd]; simp
    simp [h2]
theorem ba_empty {s : ByteArray} (h : s.size = 0) : s = ⟨#[]⟩ := by
  apply ByteArray.ext
  apply Array.ext'
  exact List.eq_nil_of_length_eq_zero h
end Go.Proofs.Ytonilojjahfboaa
namespace Go.Proofs.Ytonilojjahfboaa
open Go.RowKit Go.Maps

/-- a record -/
structure Rc where
  stamp : Nat
  ws : List Wr
/-- is a write wrong, behind a key? -/
def lateW (o : Option Ky) (k : Ky) : Bool := match o with | none => false | some p => decide (0 ≤ p.cmp k)
def badWs : List Wr → Option Ky → Bool
  | [], _ => false
  | x :: r, o => (x.odd || lateW o x.k) || badWs r (some x.k)
def prevK (ws : List Wr) (k : Nat) : Option Ky := if k = 0 then none else (ws[k - 1]?).map (·.k)
def Rc.wrong (r : Rc) : Bool := badWs r.ws none || (decide (r.stamp = 0) || decide (4611686018427387904 ≤ r.stamp) || decide (65535 < r.ws.length))
theorem badWs_drop {ws : List Wr} {k : Nat} {x : Wr} (hx : ws[k]? = some x) : badWs (ws.drop k) (prevK ws k) = ((x.odd || lateW (prevK ws k) x.k) || badWs (ws.drop (k + 1)) (prevK ws (k + 1))) := by
  obtain ⟨hk, rfl⟩ := List.getElem?_eq_some_iff.1 hx
  rw [List.drop_eq_getElem_cons hk]
  show (_ || badWs _ (some _)) = _
  congr 2
  unfold prevK
  rw [if_neg (by omega), Nat.add_sub_cancel, hx]
  rfl
theorem stamp_num' (n : Nat) (w : World) (h : n < 18446744073709551616) : Calls Try.prog 46 #[.int .u64 n] w fun e w' => e = .returned (.int .u64 ((n % 4611686018427387904 : Nat) : Int)) ∧ w' = w := by
  have hb := Lib.hid (bits_stamp n h)
  clear h
  go_enter Try.func46, Try.ntmps46
  go_wp2
  go_ret
  exact ⟨by rw [hb.out]; rfl, rfl⟩
def BoolPost (w : World) (b : Bool) (e : Ending) (w' : World) : Prop := e = .returned (.bool b) ∧ Below w.heap.size w w'
end Go.Proofs.Ytonilojjahfboaa
namespace Go.Proofs.Ytonilojjahfboaa
open Go.RowKit Go.Maps

/-- the order in which the reference asks -/
def badWs2 : List Wr → Option Ky → Bool
  | [], _ => false
  | x :: r, o => (x.big || (x.mute || lateW o x.k)) || badWs2 r (some x.k)
theorem badWs2_eq : ∀ (ws : List Wr) (o : Option Ky), badWs2 ws o = badWs ws o
  | [], _ => rfl
  | x :: r, o => by
    unfold badWs2 badWs Wr.odd
    rw [badWs2_eq r]
    cases x.big <;> cases x.mute <;> rfl
theorem badWs2_drop {ws : List Wr} {k : Nat} {x : Wr} (hx : ws[k]? = some x) : badWs2 (ws.drop k) (prevK ws k) = ((x.big || (x.mute || lateW (prevK ws k) x.k)) || badWs2 (ws.drop (k + 1)) (prevK ws (k + 1))) := by
  rw [badWs2_eq, badWs2_eq, badWs_drop hx]
  unfold Wr.odd
  rw [Bool.or_assoc x.big]
def Rc.right (r : Rc) : Bool := !((decide (r.stamp = 0) || (decide (4611686018427387904 ≤ r.stamp) || decide (65535 < r.ws.length))) || badWs2 r.ws none)
theorem right_eq (r : Rc) : r.right = !r.wrong := by
  unfold Rc.right Rc.wrong
  rw [badWs2_eq, Bool.or_comm]
  congr 2
  rw [Bool.or_assoc]
end Go.Proofs.Ytonilojjahfboaa
namespace Go.Proofs.Ytonilojjahfboaa
open Go.RowKit Go.Maps

/-- a record as it lies: its stamp, where its writes are, its writes -/
structure Rv where
  stamp : Nat
  a : Option Addr
  cap : Nat
  ws : List Wr
def Rv.rc (r : Rv) : Rc := ⟨r.stamp, r.ws⟩
def Rv.val (r : Rv) : Value := .agg #[.int .u64 r.stamp, .slice r.a r.ws.length r.cap]
structure Rv.Ok (w : World) (r : Rv) : Prop where
  stamp : r.stamp < 18446744073709551616
  ws : WsV w r.a r.ws
  len : r.ws.length ≤ 1000000
theorem Rv.Ok.below {w w' : World} {r : Rv} (h : r.Ok w) (hb : Below w.heap.size w w') : r.Ok w' := ⟨h.stamp, h.ws.below hb, h.len⟩
/-- records in memory, one behind the other -/
structure RsAt (w : World) (b off : Nat) (l : List Rv) : Prop where
  cells : ∀ (i : Nat) (x : Rv), l[i]? = some x → x.Ok w ∧ w.cell? ⟨b, off + i * 2, none⟩ = some (.int .u64 x.stamp) ∧ w.cell? ⟨b, off + i * 2 + 1, none⟩ = some (.slice x.a x.ws.length x.cap)
  lt : b < w.heap.size
theorem RsAt.below {w w' : World} {b off : Nat} {l : List Rv} (h : RsAt w b off l) (hb : Below w.heap.size w w') : RsAt w' b off l :=
  ⟨fun i x hx => by
    obtain ⟨h1, h2, h3⟩ := h.cells i x hx
    exact ⟨h1.below hb, below_cell hb _ h.lt h2, below_cell hb _ h.lt h3⟩, Nat.lt_of_lt_of_le h.lt hb.size⟩
def RsV (w : World) (a : Option Addr) (l : List Rv) : Prop := l ≠ [] → ∃ b off, a = some ⟨b, off, none⟩ ∧ RsAt w b off l
theorem RsV.below {w w' : World} {a : Option Addr} {l : List Rv} (h : RsV w a l) (hb : Below w.heap.size w w') : RsV w' a l := fun hn => by
  obtain ⟨b, off, e, hat⟩ := h hn
  exact ⟨b, off, e, hat.below hb⟩

/-- the first wrong one's place -/
def idxW : List Rv → Int → Int
  | [], _ => -1
  | r :: l, i => if r.rc.wrong = true then i else idxW l (i + 1)
theorem idxW_drop {l : List Rv} {k : Nat} {x : Rv} (hx : l[k]? = some x) : idxW (l.drop k) k = if x.rc.wrong = true then (k : Int) else idxW (l.drop (k + 1)) (k + 1) := by
  obtain ⟨hk, rfl⟩ := List.getElem?_eq_some_iff.1 hx
  rw [List.drop_eq_getElem_cons hk]
  rfl
theorem idxW_any : ∀ (l : List Rv) (i : Int), 0 ≤ i → decide (0 ≤ idxW l i) = l.any (·.rc.wrong)
  | [], _, _ => rfl
  | r :: l, i, hi => by
    unfold idxW
    cases h : r.rc.wrong
    · rw [if_neg (by decide), idxW_any l (i + 1) (by omega)]; simp [h]
    · rw [if_pos rfl]; simp [h, hi]
def IntPost (w : World) (n : Int) (e : Ending) (w' : World) : Prop := e = .returned (.int .i64 n) ∧ Below w.heap.size w w'
/-- not too great -/
def smallW (n m : Nat) (ws : List Wr) : Bool := decide (ws.length ≤ n) && ws.all (fun x => decide (x.k.s.size ≤ m) && decide (x.val.size ≤ m))
end Go.Proofs.Ytonilojjahfboaa
