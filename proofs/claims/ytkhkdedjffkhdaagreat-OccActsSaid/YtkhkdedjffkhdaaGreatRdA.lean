/- Records and writes in plain form and in memory; redo.in, odd; cobwebref14.in. Conditions: each contract's own premises. redo.wrong. Conditions: each contract's own premises. cobwebref14.Right; redo.Right; what is small. Conditions: each contract's own premises. Records in memory; redo.Right; what is small. Conditions: each contract's own premises. -/
import Derived.Test.YtkhkdedjffkhdaaGreatBkB
import Derived.Test.YtkhkdedjffkhdaaGreatKyA
namespace Go.Proofs.YtkhkdedjffkhdaaGreat
open Go.RowKit Go.Maps

/-- a write -/
structure Wr where
  k : Ky
  val : ByteArray
  has : Bool
def Wr.cells (w : Wr) : List Value := [.int .i64 w.k.kind, .int .i64 w.k.a, .int .i64 w.k.b, .string w.k.s, .string w.val, .bool w.has]
structure Wr.Ok (w : Wr) : Prop where
  k : w.k.Ok
  val : w.val.size ≤ maxLen
/-- writes in memory, one behind the other -/
structure WsAt (w : World) (b off : Nat) (ws : List Wr) : Prop where
  cells : ∀ (i : Nat) (x : Wr), ws[i]? = some x → x.Ok ∧ ∀ (j : Nat) (v : Value), x.cells[j]? = some v → w.cell? ⟨b, off + i * 6 + j, none⟩ = some v
  lt : b < w.heap.size
def WsV (w : World) (a : Option Addr) (ws : List Wr) : Prop := ws ≠ [] → ∃ b off, a = some ⟨b, off, none⟩ ∧ WsAt w b off ws
theorem WsAt.of_block {w w' : World} {b off : Nat} {ws : List Wr} (h : WsAt w b off ws) (hb : w'.heap[b]? = w.heap[b]?) : WsAt w' b off ws :=
  ⟨fun i x hx => ⟨(h.cells i x hx).1, fun j v hv => (World.cell?_of_block (a := ⟨b, off + i * 6 + j, none⟩) hb).trans ((h.cells i x hx).2 j v hv)⟩, (Array.getElem?_eq_some_iff.1 (hb.trans (Array.getElem?_eq_getElem h.lt))).1⟩
theorem WsAt.below {w w' : World} {b off : Nat} {ws : List Wr} (h : WsAt w b off ws) (hb : Below w.heap.size w w') : WsAt w' b off ws := h.of_block (hb.block b h.lt)
theorem WsV.below {w w' : World} {a : Option Addr} {ws : List Wr} (h : WsV w a ws) (hb : Below w.heap.size w w') : WsV w' a ws := fun hn => by
  obtain ⟨b, off, e, hat⟩ := h hn
  exact ⟨b, off, e, hat.below hb⟩
/-- the cells of one write -/
theorem WsAt.six {w : World} {b off : Nat} {ws : List Wr} (h : WsAt w b off ws) {i : Nat} {x : Wr} (hx : ws[i]? = some x) :
    w.cell? ⟨b, off + i * 6, none⟩ = some (.int .i64 x.k.kind) ∧ w.cell? ⟨b, off + i * 6 + 1, none⟩ = some (.int .i64 x.k.a) ∧ w.cell? ⟨b, off + i * 6 + 2, none⟩ = some (.int .i64 x.k.b) ∧
    w.cell? ⟨b, off + i * 6 + 3, none⟩ = some (.string x.k.s) ∧ w.cell? ⟨b, off + i * 6 + 4, none⟩ = some (.string x.val) ∧ w.cell? ⟨b, off + i * 6 + 5, none⟩ = some (.bool x.has) := by
  have e := (h.cells i x hx).2
  exact ⟨e 0 _ rfl, e 1 _ rfl, e 2 _ rfl, e 3 _ rfl, e 4 _ rfl, e 5 _ rfl⟩

def inB (n t : Int) : Bool := decide (0 ≤ n) && decide (n ≤ t)
/-- a write's numbers or texts are too great -/
def Wr.big (w : Wr) : Bool := !inB w.k.kind 255 || (!inB w.k.a 1099511627775 || (!inB w.k.b 1099511627775 || (decide (65535 < w.k.s.size) || decide (65535 < w.val.size))))
/-- a text where there is none -/
def Wr.mute (w : Wr) : Bool := !w.has && decide (w.val.size ≠ 0)
def Wr.odd (w : Wr) : Bool := w.big || w.mute
end Go.Proofs.YtkhkdedjffkhdaaGreat
namespace Go.Proofs.YtkhkdedjffkhdaaGreat
open Go.RowKit Go.Maps

/-- a record -/
structure Rc where
  stamp : Nat
  ws : List Wr
/-- is a write wrong, behind a key? -/
def lateW (o : Option Ky) (k : Ky) : Bool := match o with | none => false | some p => decide (0 ≤ p.cmp k)
def badWs : List Wr → Option Ky → Bool
  | [], _ => false
  | x :: r, o => (x.odd || lateW o x.k) || badWs r (some x.k)
def Rc.wrong (r : Rc) : Bool := badWs r.ws none || (decide (r.stamp = 0) || decide (4611686018427387904 ≤ r.stamp) || decide (65535 < r.ws.length))
def BoolPost (w : World) (b : Bool) (e : Ending) (w' : World) : Prop := e = .returned (.bool b) ∧ Below w.heap.size w w'
end Go.Proofs.YtkhkdedjffkhdaaGreat
namespace Go.Proofs.YtkhkdedjffkhdaaGreat
open Go.RowKit Go.Maps

end Go.Proofs.YtkhkdedjffkhdaaGreat
namespace Go.Proofs.YtkhkdedjffkhdaaGreat
open Go.RowKit Go.Maps

/-- a record as it lies: its stamp, where its writes are, its writes -/
structure Rv where
  stamp : Nat
  a : Option Addr
  cap : Nat
  ws : List Wr
def Rv.rc (r : Rv) : Rc := ⟨r.stamp, r.ws⟩
def Rv.val (r : Rv) : Value := .agg #[.int .u64 r.stamp, .slice r.a r.ws.length r.cap]
structure Rv.Ok (w : World) (r : Rv) : Prop where
  stamp : r.stamp < 18446744073709551616
  ws : WsV w r.a r.ws
  len : r.ws.length ≤ 1000000
theorem Rv.Ok.below {w w' : World} {r : Rv} (h : r.Ok w) (hb : Below w.heap.size w w') : r.Ok w' := ⟨h.stamp, h.ws.below hb, h.len⟩
/-- records in memory, one behind the other -/
structure RsAt (w : World) (b off : Nat) (l : List Rv) : Prop where
  cells : ∀ (i : Nat) (x : Rv), l[i]? = some x → x.Ok w ∧ w.cell? ⟨b, off + i * 2, none⟩ = some (.int .u64 x.stamp) ∧ w.cell? ⟨b, off + i * 2 + 1, none⟩ = some (.slice x.a x.ws.length x.cap)
  lt : b < w.heap.size
theorem RsAt.below {w w' : World} {b off : Nat} {l : List Rv} (h : RsAt w b off l) (hb : Below w.heap.size w w') : RsAt w' b off l :=
  ⟨fun i x hx => by
    obtain ⟨h1, h2, h3⟩ := h.cells i x hx
    exact ⟨h1.below hb, below_cell hb _ h.lt h2, below_cell hb _ h.lt h3⟩, Nat.lt_of_lt_of_le h.lt hb.size⟩
def RsV (w : World) (a : Option Addr) (l : List Rv) : Prop := l ≠ [] → ∃ b off, a = some ⟨b, off, none⟩ ∧ RsAt w b off l
theorem RsV.below {w w' : World} {a : Option Addr} {l : List Rv} (h : RsV w a l) (hb : Below w.heap.size w w') : RsV w' a l := fun hn => by
  obtain ⟨b, off, e, hat⟩ := h hn
  exact ⟨b, off, e, hat.below hb⟩

def IntPost (w : World) (n : Int) (e : Ending) (w' : World) : Prop := e = .returned (.int .i64 n) ∧ Below w.heap.size w w'
end Go.Proofs.YtkhkdedjffkhdaaGreat
