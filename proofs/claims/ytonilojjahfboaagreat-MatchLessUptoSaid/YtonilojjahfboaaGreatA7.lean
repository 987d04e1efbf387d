/- Layer 17: acts of an argument of small bulk in memory. Conditions: each lemma's own premises. -/
import Derived.Test.YtonilojjahfboaaGreatPtA
namespace Go.Proofs.YtonilojjahfboaaGreat
open Go.RowKit Go.Maps

/-- an act upon a walk -/
structure A7 where
  kind : Int
  id : Int
  out : Bool
  lab : ByteArray
  nl : ByteArray
  nk : ByteArray
  low : Vl
  high : Vl
def A7.enc (x : A7) : List Value := [.int .i64 x.kind, .int .i64 x.id, .bool x.out, .string x.lab, .string x.nl, .string x.nk, .int .i64 x.low.kind, .int .i64 x.low.n, .string x.low.s, .int .i64 x.high.kind, .int .i64 x.high.n, .string x.high.s]
theorem infoA7 : (Tryz.prog.info? 102).map (fun i => (i.zero, i.size, i.bytes)) = some (some (.agg #[.int .i64 0, .int .i64 0, .bool false, .string ByteArray.empty, .string ByteArray.empty, .string ByteArray.empty, .int .i64 0, .int .i64 0, .string ByteArray.empty, .int .i64 0, .int .i64 0, .string ByteArray.empty]), 12, 136) := by kernel_rfl
def kA7 : RowK Tryz.prog A7 where
  t := 91
  e := 102
  size := 12
  bytes := 136
  z := .agg #[.int .i64 0, .int .i64 0, .bool false, .string ByteArray.empty, .string ByteArray.empty, .string ByteArray.empty, .int .i64 0, .int .i64 0, .string ByteArray.empty, .int .i64 0, .int .i64 0, .string ByteArray.empty]
  enc := A7.enc
  ht := Tryz.underlying91
  info := infoA7
  hz := rfl
  pos := by decide
  small := by decide
  len := fun _ => rfl
  one := fun x u hu => by
    simp [A7.enc] at hu
    rcases hu with rfl | rfl | rfl | rfl | rfl | rfl | rfl | rfl | rfl | rfl | rfl | rfl <;> rfl
/-- .. as it comes in -/
def A7.Ok (x : A7) : Prop := I64 x.id ∧ x.lab.size ≤ 1048576 ∧ x.nl.size ≤ 1048576 ∧ x.nk.size ≤ 1048576 ∧ x.low.Ok ∧ x.high.Ok
set_option maxRecDepth 100000 in
theorem nodeU (w : World) (cs : List Value) (h : MemU bulkM Tryz.prog w 100 cs) : ∃ (nl nk : ByteArray) (low high : Vl), cs = [.string nl, .string nk, .int .i64 low.kind, .int .i64 low.n, .string low.s, .int .i64 high.kind, .int .i64 high.n, .string high.s] ∧ nl.size ≤ 1048576 ∧ nk.size ≤ 1048576 ∧ low.Ok ∧ high.Ok := by
  obtain ⟨hl, hf⟩ := h.struct Tryz.underlying100
  have e0 : Tryz.prog.cellsOf 100 = 8 := by kernel_rfl
  have e1 : Tryz.prog.cellsOf 98 = 3 := by kernel_rfl
  have e2 : Tryz.prog.cellsOf 9 = 1 := by kernel_rfl
  rw [e0] at hl
  obtain ⟨s, hs, ws⟩ := (hf 0 _ rfl).string Tryz.underlying9
  obtain ⟨t, ht, wt⟩ := (hf 1 _ rfl).string Tryz.underlying9
  obtain ⟨v, ov, hv⟩ := valueU (hf 2 _ rfl)
  obtain ⟨u, ou, hu⟩ := valueU (hf 3 _ rfl)
  obtain ⟨c0, c1, c2, c3, c4, c5, c6, c7, rfl⟩ : ∃ c0 c1 c2 c3 c4 c5 c6 c7, cs = [c0, c1, c2, c3, c4, c5, c6, c7] := by
    match cs, hl with
    | [c0, c1, c2, c3, c4, c5, c6, c7], _ => exact ⟨c0, c1, c2, c3, c4, c5, c6, c7, rfl⟩
  simp [e1, e2] at hs ht hv hu
  obtain ⟨rfl, rfl, rfl⟩ := hv
  obtain ⟨rfl, rfl, rfl⟩ := hu
  subst hs ht
  exact ⟨s, t, v, u, rfl, ws, wt, ov, ou⟩
set_option maxRecDepth 100000 in
theorem actU (w : World) (cs : List Value) (h : MemU bulkM Tryz.prog w 102 cs) : ∃ x : A7, cs = x.enc ∧ x.Ok := by
  obtain ⟨hl, hf⟩ := h.struct Tryz.underlying102
  have e0 : Tryz.prog.cellsOf 102 = 12 := by kernel_rfl
  have e1 : Tryz.prog.cellsOf 3 = 1 := by kernel_rfl
  have e2 : Tryz.prog.cellsOf 9 = 1 := by kernel_rfl
  have e3 : Tryz.prog.cellsOf 4 = 1 := by kernel_rfl
  have e4 : Tryz.prog.cellsOf 100 = 8 := by kernel_rfl
  rw [e0] at hl
  obtain ⟨i, hi, _⟩ := (hf 0 _ rfl).mem.int Tryz.underlying3
  obtain ⟨j, hj, wj⟩ := (hf 1 _ rfl).mem.int Tryz.underlying3
  obtain ⟨b, hb⟩ := (hf 2 _ rfl).mem.bool Tryz.underlying4
  obtain ⟨s, hs, ws⟩ := (hf 3 _ rfl).string Tryz.underlying9
  obtain ⟨nl, nk, low, high, hn, w1, w2, w3, w4⟩ := nodeU w _ (hf 4 _ rfl)
  obtain ⟨c0, c1, c2, c3, c4, c5, c6, c7, c8, c9, c10, c11, rfl⟩ : ∃ c0 c1 c2 c3 c4 c5 c6 c7 c8 c9 c10 c11, cs = [c0, c1, c2, c3, c4, c5, c6, c7, c8, c9, c10, c11] := by
    match cs, hl with
    | [c0, c1, c2, c3, c4, c5, c6, c7, c8, c9, c10, c11], _ => exact ⟨c0, c1, c2, c3, c4, c5, c6, c7, c8, c9, c10, c11, rfl⟩
  simp [e1, e2, e3, e4] at hi hj hb hs hn
  obtain ⟨rfl, rfl, rfl, rfl, rfl, rfl, rfl, rfl⟩ := hn
  subst hi hj hb hs
  exact ⟨⟨i, j, b, s, nl, nk, low, high⟩, rfl, I64.of_wf wj, ws, w1, w2, w3, w4⟩
theorem acts7U {w : World} {a : Option Addr} {n cap : Nat} (h : MemU bulkM Tryz.prog w 91 [.slice a n cap]) : ∃ L : List A7, n = L.length ∧ kA7.V w a L ∧ (∀ x ∈ L, x.Ok) ∧ L.length ≤ maxLen := by
  obtain ⟨va, L, vc, h1, h2, h3, h4, h5⟩ := rowU kA7 Tryz.underlying91 (by kernel_rfl) (fun x => x.Ok) (actU w) h
  simp only [List.cons.injEq, Value.slice.injEq, and_true] at h1
  obtain ⟨rfl, rfl, rfl⟩ := h1
  exact ⟨L, rfl, h4, h5, h2⟩
/-- an act's box -/
def A7Box (w : World) (ab : Nat) (x : A7) : Prop := w.heap[ab]? = some (.cells #[.int .i64 x.kind, .int .i64 x.id, .bool x.out, .string x.lab, .string x.nl, .string x.nk, .int .i64 x.low.kind, .int .i64 x.low.n, .string x.low.s, .int .i64 x.high.kind, .int .i64 x.high.n, .string x.high.s] 102 (0, 0))
theorem A7Box.cells {w : World} {ab : Nat} {x : A7} (h : A7Box w ab x) : w.cell? ⟨ab, 0, none⟩ = some (.int .i64 x.kind) ∧ w.cell? ⟨ab, 1, none⟩ = some (.int .i64 x.id) ∧ w.cell? ⟨ab, 2, none⟩ = some (.bool x.out) ∧ w.cell? ⟨ab, 3, none⟩ = some (.string x.lab) ∧ w.cell? ⟨ab, 4, none⟩ = some (.string x.nl) ∧ w.cell? ⟨ab, 5, none⟩ = some (.string x.nk) ∧ w.cell? ⟨ab, 6, none⟩ = some (.int .i64 x.low.kind) ∧ w.cell? ⟨ab, 7, none⟩ = some (.int .i64 x.low.n) ∧ w.cell? ⟨ab, 8, none⟩ = some (.string x.low.s) ∧ w.cell? ⟨ab, 9, none⟩ = some (.int .i64 x.high.kind) ∧ w.cell? ⟨ab, 10, none⟩ = some (.int .i64 x.high.n) ∧ w.cell? ⟨ab, 11, none⟩ = some (.string x.high.s) ∧ ab < w.heap.size := by
  unfold A7Box at h
  exact ⟨by rw [cell_of_blk h]; rfl, by rw [cell_of_blk h]; rfl, by rw [cell_of_blk h]; rfl, by rw [cell_of_blk h]; rfl, by rw [cell_of_blk h]; rfl, by rw [cell_of_blk h]; rfl, by rw [cell_of_blk h]; rfl, by rw [cell_of_blk h]; rfl, by rw [cell_of_blk h]; rfl, by rw [cell_of_blk h]; rfl, by rw [cell_of_blk h]; rfl, by rw [cell_of_blk h]; rfl, (Array.getElem?_eq_some_iff.1 h).1⟩
theorem A7Box.below {w w' : World} {ab : Nat} {x : A7} (h : A7Box w ab x) (hb : Below w.heap.size w w') : A7Box w' ab x := (hb.block _ (Array.getElem?_eq_some_iff.1 h).1).trans h
theorem kA7_cells {w : World} {b off : Nat} {l : List A7} (h : kA7.At w b off l) {i : Nat} {x : A7} (hx : l[i]? = some x) : w.cell? ⟨b, off + i * 12, none⟩ = some (.int .i64 x.kind) ∧ w.cell? ⟨b, off + i * 12 + 1, none⟩ = some (.int .i64 x.id) ∧ w.cell? ⟨b, off + i * 12 + 2, none⟩ = some (.bool x.out) ∧ w.cell? ⟨b, off + i * 12 + 3, none⟩ = some (.string x.lab) ∧ w.cell? ⟨b, off + i * 12 + 4, none⟩ = some (.string x.nl) ∧ w.cell? ⟨b, off + i * 12 + 5, none⟩ = some (.string x.nk) ∧ w.cell? ⟨b, off + i * 12 + 6, none⟩ = some (.int .i64 x.low.kind) ∧ w.cell? ⟨b, off + i * 12 + 7, none⟩ = some (.int .i64 x.low.n) ∧ w.cell? ⟨b, off + i * 12 + 8, none⟩ = some (.string x.low.s) ∧ w.cell? ⟨b, off + i * 12 + 9, none⟩ = some (.int .i64 x.high.kind) ∧ w.cell? ⟨b, off + i * 12 + 10, none⟩ = some (.int .i64 x.high.n) ∧ w.cell? ⟨b, off + i * 12 + 11, none⟩ = some (.string x.high.s) := by
  exact ⟨h.cells i x hx 0 _ rfl, h.cells i x hx 1 _ rfl, h.cells i x hx 2 _ rfl, h.cells i x hx 3 _ rfl, h.cells i x hx 4 _ rfl, h.cells i x hx 5 _ rfl, h.cells i x hx 6 _ rfl, h.cells i x hx 7 _ rfl, h.cells i x hx 8 _ rfl, h.cells i x hx 9 _ rfl, h.cells i x hx 10 _ rfl, h.cells i x hx 11 _ rfl⟩
end Go.Proofs.YtonilojjahfboaaGreat
