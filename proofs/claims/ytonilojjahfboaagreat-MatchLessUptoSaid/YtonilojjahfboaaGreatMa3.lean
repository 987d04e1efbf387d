/- Nodes and links in memory; patterns of an argument of small bulk. Conditions: each lemma's own premises. -/
import Derived.Test.YtonilojjahfboaaGreatMaA
import Derived.Test.YtonilojjahfboaaGreatA7
import Derived.Test.YtonilojjahfboaaGreatWsr
namespace Go.Proofs.YtonilojjahfboaaGreat
open Go.RowKit Go.Maps

theorem infoNd : (Tryz.prog.info? 100).map (fun i => (i.zero, i.size, i.bytes)) = some (some (.agg #[.string ByteArray.empty, .string ByteArray.empty, .int .i64 0, .int .i64 0, .string ByteArray.empty, .int .i64 0, .int .i64 0, .string ByteArray.empty]), 8, 96) := by kernel_rfl
def kNd : RowK Tryz.prog Nd where
  t := 113
  e := 100
  size := 8
  bytes := 96
  z := .agg #[.string ByteArray.empty, .string ByteArray.empty, .int .i64 0, .int .i64 0, .string ByteArray.empty, .int .i64 0, .int .i64 0, .string ByteArray.empty]
  enc := Nd.enc
  ht := Tryz.underlying113
  info := infoNd
  hz := rfl
  pos := by decide
  small := by decide
  len := fun _ => rfl
  one := fun x u hu => by
    simp [Nd.enc] at hu
    rcases hu with rfl | rfl | rfl | rfl | rfl | rfl | rfl | rfl <;> rfl
theorem infoLk : (Tryz.prog.info? 128).map (fun i => (i.zero, i.size, i.bytes)) = some (some (.agg #[.int .i64 0, .int .i64 0, .string ByteArray.empty]), 3, 32) := by kernel_rfl
def kLk : RowK Tryz.prog Lk where
  t := 114
  e := 128
  size := 3
  bytes := 32
  z := .agg #[.int .i64 0, .int .i64 0, .string ByteArray.empty]
  enc := Lk.enc
  ht := Tryz.underlying114
  info := infoLk
  hz := rfl
  pos := by decide
  small := by decide
  len := fun _ => rfl
  one := fun x u hu => by
    simp [Lk.enc] at hu
    rcases hu with rfl | rfl | rfl <;> rfl
def Nd.Ok (x : Nd) : Prop := x.lab.size ≤ 1048576 ∧ x.key.size ≤ 1048576 ∧ x.low.Ok ∧ x.high.Ok
def Lk.Ok (x : Lk) : Prop := I64 x.fr ∧ I64 x.tt ∧ x.lab.size ≤ 1048576
set_option maxRecDepth 100000 in
theorem nodeU2 (w : World) (cs : List Value) (h : MemU bulkM Tryz.prog w 100 cs) : ∃ x : Nd, cs = x.enc ∧ x.Ok := by
  obtain ⟨nl, nk, low, high, rfl, h1, h2, h3, h4⟩ := nodeU w cs h
  exact ⟨⟨nl, nk, low, high⟩, rfl, h1, h2, h3, h4⟩
set_option maxRecDepth 100000 in
theorem linkU (w : World) (cs : List Value) (h : MemU bulkM Tryz.prog w 128 cs) : ∃ x : Lk, cs = x.enc ∧ x.Ok := by
  obtain ⟨hl, hf⟩ := h.struct Tryz.underlying128
  have e0 : Tryz.prog.cellsOf 128 = 3 := by kernel_rfl
  have e1 : Tryz.prog.cellsOf 3 = 1 := by kernel_rfl
  have e2 : Tryz.prog.cellsOf 9 = 1 := by kernel_rfl
  rw [e0] at hl
  obtain ⟨i, hi, wi⟩ := (hf 0 _ rfl).mem.int Tryz.underlying3
  obtain ⟨j, hj, wj⟩ := (hf 1 _ rfl).mem.int Tryz.underlying3
  obtain ⟨s, hs, ws⟩ := (hf 2 _ rfl).string Tryz.underlying9
  obtain ⟨c0, c1, c2, rfl⟩ : ∃ c0 c1 c2, cs = [c0, c1, c2] := by
    match cs, hl with
    | [c0, c1, c2], _ => exact ⟨c0, c1, c2, rfl⟩
  simp [e1, e2] at hi hj hs
  subst hi hj hs
  exact ⟨⟨i, j, s⟩, rfl, I64.of_wf wi, I64.of_wf wj, ws⟩
set_option maxRecDepth 100000 in
theorem patternU (w : World) (cs : List Value) (h : MemU bulkM Tryz.prog w 116 cs) : ∃ (na la : Option Addr) (NS : List Nd) (LS : List Lk) (nc lc : Nat), cs = [.slice na NS.length nc, .slice la LS.length lc] ∧ kNd.V w na NS ∧ kLk.V w la LS ∧ (∀ x ∈ NS, x.Ok) ∧ (∀ x ∈ LS, x.Ok) ∧ NS.length ≤ maxLen ∧ LS.length ≤ maxLen ∧ (na = none → NS = [] ∧ nc = 0) ∧ (la = none → LS = [] ∧ lc = 0) := by
  obtain ⟨hl, hf⟩ := h.struct Tryz.underlying116
  have e0 : Tryz.prog.cellsOf 116 = 2 := by kernel_rfl
  have e1 : Tryz.prog.cellsOf 113 = 1 := by kernel_rfl
  have e2 : Tryz.prog.cellsOf 114 = 1 := by kernel_rfl
  rw [e0] at hl
  obtain ⟨na, NS, nc, hn, n1, n2, n3, n4⟩ := rowU kNd Tryz.underlying113 (by kernel_rfl) (fun x => x.Ok) (nodeU2 w) (hf 0 _ rfl)
  obtain ⟨la, LS, lc, hk, l1, l2, l3, l4⟩ := rowU kLk Tryz.underlying114 (by kernel_rfl) (fun x => x.Ok) (linkU w) (hf 1 _ rfl)
  obtain ⟨c0, c1, rfl⟩ : ∃ c0 c1, cs = [c0, c1] := by
    match cs, hl with
    | [c0, c1], _ => exact ⟨c0, c1, rfl⟩
  simp [e1, e2] at hn hk
  subst hn hk
  exact ⟨na, la, NS, LS, nc, lc, rfl, n3, l3, n4, l4, n1, l1, n2, l2⟩
theorem kNd_cells {w : World} {b off : Nat} {l : List Nd} (h : kNd.At w b off l) {i : Nat} {x : Nd} (hx : l[i]? = some x) : w.cell? ⟨b, off + i * 8, none⟩ = some (.string x.lab) ∧ w.cell? ⟨b, off + i * 8 + 1, none⟩ = some (.string x.key) ∧ w.cell? ⟨b, off + i * 8 + 2, none⟩ = some (.int .i64 x.low.kind) ∧ w.cell? ⟨b, off + i * 8 + 3, none⟩ = some (.int .i64 x.low.n) ∧ w.cell? ⟨b, off + i * 8 + 4, none⟩ = some (.string x.low.s) ∧ w.cell? ⟨b, off + i * 8 + 5, none⟩ = some (.int .i64 x.high.kind) ∧ w.cell? ⟨b, off + i * 8 + 6, none⟩ = some (.int .i64 x.high.n) ∧ w.cell? ⟨b, off + i * 8 + 7, none⟩ = some (.string x.high.s) := by
  exact ⟨h.cells i x hx 0 _ rfl, h.cells i x hx 1 _ rfl, h.cells i x hx 2 _ rfl, h.cells i x hx 3 _ rfl, h.cells i x hx 4 _ rfl, h.cells i x hx 5 _ rfl, h.cells i x hx 6 _ rfl, h.cells i x hx 7 _ rfl⟩
theorem kLk_cells {w : World} {b off : Nat} {l : List Lk} (h : kLk.At w b off l) {i : Nat} {x : Lk} (hx : l[i]? = some x) : w.cell? ⟨b, off + i * 3, none⟩ = some (.int .i64 x.fr) ∧ w.cell? ⟨b, off + i * 3 + 1, none⟩ = some (.int .i64 x.tt) ∧ w.cell? ⟨b, off + i * 3 + 2, none⟩ = some (.string x.lab) := by
  exact ⟨h.cells i x hx 0 _ rfl, h.cells i x hx 1 _ rfl, h.cells i x hx 2 _ rfl⟩
end Go.Proofs.YtonilojjahfboaaGreat
