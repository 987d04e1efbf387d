/- Vertices and edges of an argument of small bulk in memory. Conditions: each lemma's own premises. -/
import Derived.Test.YtonilojjahfboaaGreatUpMem
import Derived.Test.YtonilojjahfboaaGreatRg4
namespace Go.Proofs.YtonilojjahfboaaGreat
open Go.RowKit Go.Maps

theorem agg_of_listU {c : Array Value} {l : List Value} (h : c.toList = l) : c = l.toArray := by rw [← h]
abbrev bulkM : Nat := 1048576
set_option maxRecDepth 100000 in
theorem valueU {w : World} {cs : List Value} (h : MemU bulkM Tryz.prog w 98 cs) : ∃ v : Vl, v.Ok ∧ cs = [.int .i64 v.kind, .int .i64 v.n, .string v.s] := by
  obtain ⟨hl, hf⟩ := h.mem.struct Tryz.underlying98
  have e3 : Tryz.prog.cellsOf 98 = 3 := by kernel_rfl
  rw [e3] at hl
  obtain ⟨x, hx, wx⟩ := (hf 0 _ rfl).int Tryz.underlying3
  obtain ⟨y, hy, wy⟩ := (hf 1 _ rfl).int Tryz.underlying3
  obtain ⟨s, hs, ws⟩ := (hf 2 _ rfl).string Tryz.underlying9
  obtain ⟨p, q, r, rfl⟩ : ∃ p q r, cs = [p, q, r] := by
    match cs, hl with
    | [p, q, r], _ => exact ⟨p, q, r, rfl⟩
  have e1 : Tryz.prog.cellsOf 3 = 1 := by kernel_rfl
  have e2 : Tryz.prog.cellsOf 9 = 1 := by kernel_rfl
  simp [e1, e2] at hx hy hs
  subst hx hy hs
  exact ⟨⟨x, y, s⟩, ⟨I64.of_wf wx, I64.of_wf wy, ws⟩, rfl⟩
set_option maxRecDepth 100000 in
theorem propU (w : World) (cs : List Value) (h : MemU bulkM Tryz.prog w 137 cs) : ∃ p : Pr, cs = p.enc ∧ p.Ok := by
  obtain ⟨hl, hf⟩ := h.struct Tryz.underlying137
  have e4 : Tryz.prog.cellsOf 137 = 4 := by kernel_rfl
  have e3 : Tryz.prog.cellsOf 98 = 3 := by kernel_rfl
  have e2 : Tryz.prog.cellsOf 9 = 1 := by kernel_rfl
  rw [e4] at hl
  obtain ⟨s, hs, ws⟩ := (hf 0 _ rfl).string Tryz.underlying9
  obtain ⟨v, hv, ev⟩ := valueU (hf 1 _ rfl)
  obtain ⟨p, q, r, t, rfl⟩ : ∃ p q r t, cs = [p, q, r, t] := by
    match cs, hl with
    | [p, q, r, t], _ => exact ⟨p, q, r, t, rfl⟩
  simp [e2, e3] at hs ev
  obtain ⟨rfl, rfl, rfl⟩ := ev
  subst hs
  exact ⟨⟨s, v⟩, rfl, ⟨Nat.le_trans ws (by decide), hv⟩⟩
theorem psA_of {w : World} {a : Option Addr} {c : Nat} {ps : List Pr} (h : kP.V w a ps) (ok : ∀ p ∈ ps, p.Ok) (hn : a = none → ps = [] ∧ c = 0) : PsA w a c ps :=
  ⟨fun hne => by
    obtain ⟨b, off, e, hat⟩ := h hne
    exact ⟨b, off, e, ⟨ok, fun i p hp => ⟨hat.cells i p hp 0 _ rfl, hat.cells i p hp 1 _ rfl, hat.cells i p hp 2 _ rfl, hat.cells i p hp 3 _ rfl⟩, hat.lt⟩⟩, fun e => ⟨(hn e).2, (hn e).1⟩⟩
set_option maxRecDepth 100000 in
theorem propsU {w : World} {cs : List Value} (h : MemU bulkM Tryz.prog w 26 cs) : ∃ (a : Option Addr) (ps : List Pr) (cap : Nat), cs = [.slice a ps.length cap] ∧ PsA w a cap ps := by
  obtain ⟨a, l, cap, h1, _, h3, h4, h5⟩ := rowU kP Tryz.underlying26 (by kernel_rfl) (fun p => p.Ok) (propU w) h
  exact ⟨a, l, cap, h1, psA_of h4 h5 h3⟩
/-- what a vertex, an edge of an argument is -/
def VrOk (w : World) (x : Vr) : Prop := PsA w x.a x.c x.v.ps ∧ I64 x.v.id ∧ x.v.label.size ≤ 1048576
def ErOk (w : World) (x : Er) : Prop := PsA w x.a x.c x.e.ps ∧ (I64 x.e.id ∧ I64 x.e.fr ∧ I64 x.e.to) ∧ x.e.label.size ≤ 1048576
set_option maxRecDepth 100000 in
theorem vertexU (w : World) (cs : List Value) (h : MemU bulkM Tryz.prog w 28 cs) : ∃ x : Vr, cs = x.enc ∧ VrOk w x := by
  obtain ⟨hl, hf⟩ := h.struct Tryz.underlying28
  have e3 : Tryz.prog.cellsOf 28 = 3 := by kernel_rfl
  have e2 : Tryz.prog.cellsOf 9 = 1 := by kernel_rfl
  have e1 : Tryz.prog.cellsOf 3 = 1 := by kernel_rfl
  have e4 : Tryz.prog.cellsOf 26 = 1 := by kernel_rfl
  rw [e3] at hl
  obtain ⟨i, hi, wi⟩ := (hf 0 _ rfl).mem.int Tryz.underlying3
  obtain ⟨s, hs, ws⟩ := (hf 1 _ rfl).string Tryz.underlying9
  obtain ⟨a, ps, cap, ea, hv⟩ := propsU (hf 2 _ rfl)
  obtain ⟨p, q, r, rfl⟩ : ∃ p q r, cs = [p, q, r] := by
    match cs, hl with
    | [p, q, r], _ => exact ⟨p, q, r, rfl⟩
  simp [e1, e2, e4] at hi hs ea
  subst hi hs ea
  exact ⟨⟨⟨i, s, ps⟩, a, cap⟩, rfl, hv, I64.of_wf wi, ws⟩
set_option maxRecDepth 100000 in
theorem edgeU (w : World) (cs : List Value) (h : MemU bulkM Tryz.prog w 30 cs) : ∃ x : Er, cs = x.enc ∧ ErOk w x := by
  obtain ⟨hl, hf⟩ := h.struct Tryz.underlying30
  have e3 : Tryz.prog.cellsOf 30 = 5 := by kernel_rfl
  have e2 : Tryz.prog.cellsOf 9 = 1 := by kernel_rfl
  have e1 : Tryz.prog.cellsOf 3 = 1 := by kernel_rfl
  have e4 : Tryz.prog.cellsOf 26 = 1 := by kernel_rfl
  rw [e3] at hl
  obtain ⟨i, hi, wi⟩ := (hf 0 _ rfl).mem.int Tryz.underlying3
  obtain ⟨s, hs, ws⟩ := (hf 1 _ rfl).string Tryz.underlying9
  obtain ⟨j, hj, wj⟩ := (hf 2 _ rfl).mem.int Tryz.underlying3
  obtain ⟨k, hk, wk⟩ := (hf 3 _ rfl).mem.int Tryz.underlying3
  obtain ⟨a, ps, cap, ea, hv⟩ := propsU (hf 4 _ rfl)
  obtain ⟨p, q, r, t, u, rfl⟩ : ∃ p q r t u, cs = [p, q, r, t, u] := by
    match cs, hl with
    | [p, q, r, t, u], _ => exact ⟨p, q, r, t, u, rfl⟩
  simp [e1, e2, e4] at hi hs hj hk ea
  subst hi hs hj hk ea
  exact ⟨⟨⟨i, s, j, k, ps⟩, a, cap⟩, rfl, hv, ⟨I64.of_wf wi, I64.of_wf wj, I64.of_wf wk⟩, ws⟩
end Go.Proofs.YtonilojjahfboaaGreat
