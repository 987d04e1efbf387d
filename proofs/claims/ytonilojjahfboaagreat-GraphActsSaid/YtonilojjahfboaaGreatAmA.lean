/- Acts upon a graph in an argument's memory. Conditions: each lemma's own premises. What is asked of a graph, in an argument's memory. Conditions: each lemma's own premises. -/
import Derived.Test.YtonilojjahfboaaGreatGeA
import Derived.Test.YtonilojjahfboaaGreatGrMem
import Derived.Test.YtonilojjahfboaaGreatVlA
namespace Go.Proofs.YtonilojjahfboaaGreat
open Go.RowKit Go.Maps

theorem infoTx : (Tryz.prog.info? 9).map (fun i => (i.zero, i.size, i.bytes)) = some (some (.string ByteArray.empty), 1, 16) := by kernel_rfl
/-- texts, as elements -/
def kTx : RowK Tryz.prog ByteArray where
  t := 31
  e := 9
  size := 1
  bytes := 16
  z := .string ByteArray.empty
  enc := fun x => [.string x]
  ht := Tryz.underlying31
  info := infoTx
  hz := rfl
  pos := by decide
  small := by decide
  len := fun _ => rfl
  one := fun x u hu => by
    simp at hu
    subst hu
    rfl
set_option maxRecDepth 100000 in
theorem textsR {m : Nat} {w : World} {cs : List Value} (h : MemU m Tryz.prog w 31 cs) : ∃ (a : Option Addr) (ks : List ByteArray) (cap : Nat), cs = [.slice a ks.length cap] ∧ SsV w a ks ∧ ks.length ≤ maxLen := by
  obtain ⟨a, l, cap, h1, h2, h3, h4, h5⟩ := rowU kTx Tryz.underlying31 (by kernel_rfl) (fun s => s.size ≤ maxLen) (fun es he => by
    obtain ⟨s, hs, ws⟩ := he.mem.string Tryz.underlying9
    exact ⟨s, hs, ws⟩) h
  refine ⟨a, l, cap, h1, fun hn => ?_, h2⟩
  obtain ⟨b, off, e, hat⟩ := h4 hn
  refine ⟨b, off, e, ⟨h5, fun i s hs => ?_, hat.lt⟩⟩
  have := hat.cells i s hs 0 _ rfl
  simpa [kTx] using this
set_option maxRecDepth 100000 in
theorem actR {m : Nat} {w : World} (cs : List Value) (h : MemU m Tryz.prog w 33 cs) : ∃ x : Ac, cs = x.enc ∧ AcRaw w x := by
  obtain ⟨hl, hf⟩ := h.struct Tryz.underlying33
  have e0 : Tryz.prog.cellsOf 33 = 13 := by kernel_rfl
  have e1 : Tryz.prog.cellsOf 3 = 1 := by kernel_rfl
  have e2 : Tryz.prog.cellsOf 4 = 1 := by kernel_rfl
  have e3 : Tryz.prog.cellsOf 28 = 3 := by kernel_rfl
  have e4 : Tryz.prog.cellsOf 30 = 5 := by kernel_rfl
  have e5 : Tryz.prog.cellsOf 26 = 1 := by kernel_rfl
  have e6 : Tryz.prog.cellsOf 31 = 1 := by kernel_rfl
  rw [e0] at hl
  obtain ⟨i, hi, wi⟩ := (hf 0 _ rfl).mem.int Tryz.underlying3
  obtain ⟨j, hj, wj⟩ := (hf 1 _ rfl).mem.int Tryz.underlying3
  obtain ⟨b, hb⟩ := (hf 2 _ rfl).mem.bool Tryz.underlying4
  obtain ⟨v, hv, v1, v2, v3, v4, v5⟩ := vertexR _ (hf 3 _ rfl)
  obtain ⟨e, he, g1, g2, g3, g4, g5⟩ := edgeR _ (hf 4 _ rfl)
  obtain ⟨pa, ps, pc, hp, p1, p2, p3⟩ := propsR (hf 5 _ rfl)
  obtain ⟨ka, ks, kc, hk, k1, k2⟩ := textsR (hf 6 _ rfl)
  obtain ⟨c0, c1, c2, c3, c4, c5, c6, c7, c8, c9, c10, c11, c12, rfl⟩ : ∃ c0 c1 c2 c3 c4 c5 c6 c7 c8 c9 c10 c11 c12, cs = [c0, c1, c2, c3, c4, c5, c6, c7, c8, c9, c10, c11, c12] := by
    match cs, hl with
    | [c0, c1, c2, c3, c4, c5, c6, c7, c8, c9, c10, c11, c12], _ => exact ⟨c0, c1, c2, c3, c4, c5, c6, c7, c8, c9, c10, c11, c12, rfl⟩
  simp [e1, e2, e3, e4, e5, e6, Vr.enc, Er.enc] at hi hj hb hv he hp hk
  obtain ⟨rfl, rfl, rfl⟩ := hv
  obtain ⟨rfl, rfl, rfl, rfl, rfl⟩ := he
  subst hi hj hb hp hk
  exact ⟨⟨i, j, b, v, e, pa, pc, ps, ka, kc, ks⟩, rfl, ⟨I64.of_wf wi, I64.of_wf wj, v1, v2, v3, v4, v5, g1, g2, g3, g4, g5, p1, p3, k1, k2⟩⟩
set_option maxRecDepth 100000 in
theorem acts16M {w : World} {cs : List Value} (h : Mem Tryz.prog w 22 cs) : ∃ (a : Option Addr) (L : List Ac) (cap : Nat), cs = [.slice a L.length cap] ∧ L.length ≤ maxLen ∧ kAc.V w a L ∧ ∀ x ∈ L, AcRaw w x := by
  obtain ⟨m, h⟩ := memU_of h
  obtain ⟨a, l, cap, h1, h2, _, h4, h5⟩ := rowU kAc Tryz.underlying22 (by kernel_rfl) (AcRaw w) (fun es he => actR es he) h
  exact ⟨a, l, cap, h1, h2, h4, h5⟩
end Go.Proofs.YtonilojjahfboaaGreat
namespace Go.Proofs.YtonilojjahfboaaGreat
open Go.RowKit Go.Maps

theorem askAgg {c : Array Value} {l : List Value} (h : c.toList = l) : c = l.toArray := by rw [← h]
set_option maxRecDepth 100000 in
theorem vl16M {w : World} {cs : List Value} (h : Mem Tryz.prog w 98 cs) : ∃ v : Vl, cs = [.int .i64 v.kind, .int .i64 v.n, .string v.s] := by
  obtain ⟨hl, hf⟩ := h.struct Tryz.underlying98
  have e0 : Tryz.prog.cellsOf 98 = 3 := by kernel_rfl
  have e1 : Tryz.prog.cellsOf 3 = 1 := by kernel_rfl
  have e2 : Tryz.prog.cellsOf 9 = 1 := by kernel_rfl
  rw [e0] at hl
  obtain ⟨i, hi, _⟩ := (hf 0 _ rfl).int Tryz.underlying3
  obtain ⟨j, hj, _⟩ := (hf 1 _ rfl).int Tryz.underlying3
  obtain ⟨s, hs, _⟩ := (hf 2 _ rfl).string Tryz.underlying9
  obtain ⟨c0, c1, c2, rfl⟩ : ∃ c0 c1 c2, cs = [c0, c1, c2] := by
    match cs, hl with
    | [c0, c1, c2], _ => exact ⟨c0, c1, c2, rfl⟩
  simp [e1, e2] at hi hj hs
  subst hi hj hs
  exact ⟨⟨i, j, s⟩, rfl⟩
set_option maxRecDepth 100000 in
theorem ask16M {w : World} {cs : List Value} (h : Mem Tryz.prog w 129 cs) : ∃ (lab key : ByteArray) (low high : Vl), cs = [.string lab, .string key, .int .i64 low.kind, .int .i64 low.n, .string low.s, .int .i64 high.kind, .int .i64 high.n, .string high.s] := by
  obtain ⟨hl, hf⟩ := h.struct Tryz.underlying129
  have e0 : Tryz.prog.cellsOf 129 = 8 := by kernel_rfl
  have e1 : Tryz.prog.cellsOf 98 = 3 := by kernel_rfl
  have e2 : Tryz.prog.cellsOf 9 = 1 := by kernel_rfl
  rw [e0] at hl
  obtain ⟨s, hs, _⟩ := (hf 0 _ rfl).string Tryz.underlying9
  obtain ⟨t, ht, _⟩ := (hf 1 _ rfl).string Tryz.underlying9
  obtain ⟨v, hv⟩ := vl16M (hf 2 _ rfl)
  obtain ⟨u, hu⟩ := vl16M (hf 3 _ rfl)
  obtain ⟨c0, c1, c2, c3, c4, c5, c6, c7, rfl⟩ : ∃ c0 c1 c2 c3 c4 c5 c6 c7, cs = [c0, c1, c2, c3, c4, c5, c6, c7] := by
    match cs, hl with
    | [c0, c1, c2, c3, c4, c5, c6, c7], _ => exact ⟨c0, c1, c2, c3, c4, c5, c6, c7, rfl⟩
  simp [e1, e2] at hs ht hv hu
  obtain ⟨rfl, rfl, rfl⟩ := hv
  obtain ⟨rfl, rfl, rfl⟩ := hu
  subst hs ht
  exact ⟨s, t, v, u, rfl⟩
end Go.Proofs.YtonilojjahfboaaGreat
