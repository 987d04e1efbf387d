/- Reference 16: a graph as two rows in memory. Conditions: each lemma's own premises. -/
import Derived.Test.YtaanohgkdpohhaaGr5
import Derived.Test.YtaanohgkdpohhaaGr6
import Derived.Test.YtaanohgkdpohhaaRowL
namespace Go.Proofs.Ytaanohgkdpohhaa
open Go.RowKit Go.Maps

theorem infoVt : (Try.prog.info? 83).map (fun i => (i.zero, i.size, i.bytes)) = some (some (.agg #[.int .i64 0, .string ByteArray.empty, .slice none 0 0]), 3, 48) := by kernel_rfl
theorem infoEg : (Try.prog.info? 86).map (fun i => (i.zero, i.size, i.bytes)) = some (some (.agg #[.int .i64 0, .string ByteArray.empty, .int .i64 0, .int .i64 0, .slice none 0 0]), 5, 64) := by kernel_rfl
/-- a vertex, an edge as it lies in a row: with the slice of its properties -/
structure Vr where
  v : Vt
  a : Option Addr
  c : Nat
structure Er where
  e : Eg
  a : Option Addr
  c : Nat
def Vr.enc (x : Vr) : List Value := [.int .i64 x.v.id, .string x.v.label, .slice x.a x.v.ps.length x.c]
def Er.enc (x : Er) : List Value := [.int .i64 x.e.id, .string x.e.label, .int .i64 x.e.fr, .int .i64 x.e.to, .slice x.a x.e.ps.length x.c]
def kVr : RowK Try.prog Vr where
  t := 78
  e := 83
  size := 3
  bytes := 48
  z := .agg #[.int .i64 0, .string ByteArray.empty, .slice none 0 0]
  enc := Vr.enc
  ht := Try.underlying78
  info := infoVt
  hz := rfl
  pos := by decide
  small := by decide
  len := fun _ => rfl
  one := fun x u hu => by
    simp [Vr.enc] at hu
    rcases hu with rfl | rfl | rfl <;> rfl
def kEr : RowK Try.prog Er where
  t := 79
  e := 86
  size := 5
  bytes := 64
  z := .agg #[.int .i64 0, .string ByteArray.empty, .int .i64 0, .int .i64 0, .slice none 0 0]
  enc := Er.enc
  ht := Try.underlying79
  info := infoEg
  hz := rfl
  pos := by decide
  small := by decide
  len := fun _ => rfl
  one := fun x u hu => by
    simp [Er.enc] at hu
    rcases hu with rfl | rfl | rfl | rfl | rfl <;> rfl
/-- a slice of properties that lies from B on -/
def PsB (w : World) (B : Nat) (a : Option Addr) (c : Nat) (ps : List Pr) : Prop := PsA w a c ps ∧ ∀ b off, a = some ⟨b, off, none⟩ → B ≤ b
theorem PsB.mono {w : World} {B B' : Nat} {a : Option Addr} {c : Nat} {ps : List Pr} (h : PsB w B a c ps) (hB : B' ≤ B) : PsB w B' a c ps := ⟨h.1, fun b off e => Nat.le_trans hB (h.2 b off e)⟩
theorem PsB.below {w w' : World} {B : Nat} {a : Option Addr} {c : Nat} {ps : List Pr} (h : PsB w B a c ps) (hb : Below w.heap.size w w') : PsB w' B a c ps := ⟨h.1.below hb, h.2⟩
theorem PsB.chg {w w' : World} {B : Nat} {S : Nat → Prop} {a : Option Addr} {c : Nat} {ps : List Pr} (h : PsB w B a c ps) (hc : Chg w w' S) (hS : ∀ j, S j → j < B) : PsB w' B a c ps :=
  ⟨⟨fun hp => by
    obtain ⟨b, off, e, hat⟩ := h.1.v hp
    have hB := h.2 b off e
    have hk : w'.heap[b]? = w.heap[b]? := hc.block b hat.lt (fun hs => by have := hS b hs; omega)
    exact ⟨b, off, e, ⟨hat.ok, fun i p hp => by
      obtain ⟨h0, h1, h2, h3⟩ := hat.cells i p hp
      exact ⟨(World.cell?_of_block (a := ⟨b, _, none⟩) hk).trans h0, (World.cell?_of_block (a := ⟨b, _, none⟩) hk).trans h1, (World.cell?_of_block (a := ⟨b, _, none⟩) hk).trans h2, (World.cell?_of_block (a := ⟨b, _, none⟩) hk).trans h3⟩, Nat.lt_of_lt_of_le hat.lt hc.size⟩⟩, h.1.nil⟩, h.2⟩
/-- a reference graph in memory -/
structure RgL (w : World) (rb B : Nat) (VL : List Vr) (EL : List Er) : Prop where
  ex : ∃ va vc ea ec, w.heap[rb]? = some (.cells #[.slice va VL.length vc, .slice ea EL.length ec] 103 (0, 0)) ∧ kVr.Own w B (.slice va VL.length vc) VL ∧ kEr.Own w B (.slice ea EL.length ec) EL
  pv : ∀ x ∈ VL, PsB w B x.a x.c x.v.ps
  pe : ∀ x ∈ EL, PsB w B x.a x.c x.e.ps
  lt : rb < B
def RgC (w : World) (rb B : Nat) (V : List Vt) (E : List Eg) : Prop := ∃ VL EL, RgL w rb B VL EL ∧ VL.map Vr.v = V ∧ EL.map Er.e = E
section
variable {w w' : World} {rb B : Nat} {VL : List Vr} {EL : List Er} {V : List Vt} {E : List Eg}
theorem RgL.below (h : RgL w rb B VL EL) (hb : Below w.heap.size w w') : RgL w' rb B VL EL := by
  obtain ⟨⟨va, vc, ea, ec, h1, h2, h3⟩, h4, h5, h6⟩ := h
  exact ⟨⟨va, vc, ea, ec, (hb.block _ (Array.getElem?_eq_some_iff.1 h1).1).trans h1, h2.below hb, h3.below hb⟩, fun x hx => (h4 x hx).below hb, fun x hx => (h5 x hx).below hb, h6⟩
theorem RgL.chg {S : Nat → Prop} (h : RgL w rb B VL EL) (hc : Chg w w' S) (hS : ∀ j, S j → j < rb) : RgL w' rb B VL EL := by
  obtain ⟨⟨va, vc, ea, ec, h1, h2, h3⟩, h4, h5, h6⟩ := h
  have hS2 : ∀ j, S j → j < B := fun j hj => by have := hS j hj; omega
  refine ⟨⟨va, vc, ea, ec, (hc.block _ (Array.getElem?_eq_some_iff.1 h1).1 (fun hs => absurd (hS _ hs) (Nat.lt_irrefl _))).trans h1, h2.chg hc (fun j hj hs => ?_), h3.chg hc (fun j hj hs => ?_)⟩, fun x hx => (h4 x hx).chg hc hS2, fun x hx => (h5 x hx).chg hc hS2, h6⟩
  · have := (h2.lt j hj).1
    have := hS2 j hs
    omega
  · have := (h3.lt j hj).1
    have := hS2 j hs
    omega
theorem RgL.size (h : RgL w rb B VL EL) : rb < w.heap.size := by
  obtain ⟨⟨va, vc, ea, ec, h1, _⟩, _⟩ := h
  exact (Array.getElem?_eq_some_iff.1 h1).1
theorem RgC.below (h : RgC w rb B V E) (hb : Below w.heap.size w w') : RgC w' rb B V E := by
  obtain ⟨VL, EL, h1, h2⟩ := h
  exact ⟨VL, EL, h1.below hb, h2⟩
theorem RgC.chg {S : Nat → Prop} (h : RgC w rb B V E) (hc : Chg w w' S) (hS : ∀ j, S j → j < rb) : RgC w' rb B V E := by
  obtain ⟨VL, EL, h1, h2⟩ := h
  exact ⟨VL, EL, h1.chg hc hS, h2⟩
end
/-- a place in a list; -1: none -/
def placeB {α : Type} (key : α → Int) (n : Int) : List α → Int
  | [] => -1
  | x :: l => if key x = n then 0 else (if placeB key n l < 0 then -1 else placeB key n l + 1)
def AtB {α : Type} (key : α → Int) (L : List α) (n : Int) (r : Int) : Prop := (r = -1 ∧ ∀ x ∈ L, key x ≠ n) ∨ ∃ i x, r = ((i : Nat) : Int) ∧ L[i]? = some x ∧ key x = n
end Go.Proofs.Ytaanohgkdpohhaa
