/- Layer 19: parts and questions of an argument of small bulk in memory. Conditions: each lemma's own premises. -/
import Derived.Test.YtaanohgkdpohhaaUpMem
import Derived.Test.YtaanohgkdpohhaaPb2
import Derived.Test.YtaanohgkdpohhaaPa9
namespace Go.Proofs.Ytaanohgkdpohhaa
open Go.RowKit Go.Maps

theorem agg_of_listU {c : Array Value} {l : List Value} (h : c.toList = l) : c = l.toArray := by rw [← h]
abbrev bulkM : Nat := 1048576
set_option maxRecDepth 100000 in
theorem valueU {w : World} {cs : List Value} (h : MemU bulkM Try.prog w 174 cs) : ∃ v : Vl, v.Ok ∧ cs = [.int .i64 v.kind, .int .i64 v.n, .string v.s] := by
  obtain ⟨hl, hf⟩ := h.mem.struct Try.underlying174
  have e3 : Try.prog.cellsOf 174 = 3 := by kernel_rfl
  rw [e3] at hl
  obtain ⟨x, hx, wx⟩ := (hf 0 _ rfl).int Try.underlying3
  obtain ⟨y, hy, wy⟩ := (hf 1 _ rfl).int Try.underlying3
  obtain ⟨s, hs, ws⟩ := (hf 2 _ rfl).string Try.underlying9
  obtain ⟨p, q, r, rfl⟩ : ∃ p q r, cs = [p, q, r] := by
    match cs, hl with
    | [p, q, r], _ => exact ⟨p, q, r, rfl⟩
  have e1 : Try.prog.cellsOf 3 = 1 := by kernel_rfl
  have e2 : Try.prog.cellsOf 9 = 1 := by kernel_rfl
  simp [e1, e2] at hx hy hs
  subst hx hy hs
  exact ⟨⟨x, y, s⟩, ⟨I64.of_wf wx, I64.of_wf wy, ws⟩, rfl⟩
set_option maxRecDepth 100000 in
theorem propU (w : World) (cs : List Value) (h : MemU bulkM Try.prog w 176 cs) : ∃ p : Pr, cs = p.enc ∧ p.Ok := by
  obtain ⟨hl, hf⟩ := h.struct Try.underlying176
  have e4 : Try.prog.cellsOf 176 = 4 := by kernel_rfl
  have e3 : Try.prog.cellsOf 174 = 3 := by kernel_rfl
  have e2 : Try.prog.cellsOf 9 = 1 := by kernel_rfl
  rw [e4] at hl
  obtain ⟨s, hs, ws⟩ := (hf 0 _ rfl).string Try.underlying9
  obtain ⟨v, hv, ev⟩ := valueU (hf 1 _ rfl)
  obtain ⟨p, q, r, t, rfl⟩ : ∃ p q r t, cs = [p, q, r, t] := by
    match cs, hl with
    | [p, q, r, t], _ => exact ⟨p, q, r, t, rfl⟩
  simp [e2, e3] at hs ev
  obtain ⟨rfl, rfl, rfl⟩ := ev
  subst hs
  exact ⟨⟨s, v⟩, rfl, ⟨Nat.le_trans ws (by decide), hv⟩⟩
theorem psA_of {w : World} {a : Option Addr} {c : Nat} {ps : List Pr} (h : kP.V w a ps) (ok : ∀ p ∈ ps, p.Ok) (hn : a = none → ps = [] ∧ c = 0) : PsA w a c ps :=
  ⟨fun hne => by
    obtain ⟨b, off, e, hat⟩ := h hne
    exact ⟨b, off, e, ⟨ok, fun i p hp => ⟨hat.cells i p hp 0 _ rfl, hat.cells i p hp 1 _ rfl, hat.cells i p hp 2 _ rfl, hat.cells i p hp 3 _ rfl⟩, hat.lt⟩⟩, fun e => ⟨(hn e).2, (hn e).1⟩⟩
set_option maxRecDepth 100000 in
theorem propsU {w : World} {cs : List Value} (h : MemU bulkM Try.prog w 73 cs) : ∃ (a : Option Addr) (ps : List Pr) (cap : Nat), cs = [.slice a ps.length cap] ∧ PsA w a cap ps := by
  obtain ⟨a, l, cap, h1, _, h3, h4, h5⟩ := rowU kP Try.underlying73 (by kernel_rfl) (fun p => p.Ok) (propU w) h
  exact ⟨a, l, cap, h1, psA_of h4 h5 h3⟩
/-- what a vertex, an edge of an argument is -/
def VrOk (w : World) (x : Vr) : Prop := PsA w x.a x.c x.v.ps ∧ I64 x.v.id ∧ x.v.label.size ≤ 1048576
def ErOk (w : World) (x : Er) : Prop := PsA w x.a x.c x.e.ps ∧ (I64 x.e.id ∧ I64 x.e.fr ∧ I64 x.e.to) ∧ x.e.label.size ≤ 1048576
set_option maxRecDepth 100000 in
theorem vertexU (w : World) (cs : List Value) (h : MemU bulkM Try.prog w 83 cs) : ∃ x : Vr, cs = x.enc ∧ VrOk w x := by
  obtain ⟨hl, hf⟩ := h.struct Try.underlying83
  have e3 : Try.prog.cellsOf 83 = 3 := by kernel_rfl
  have e2 : Try.prog.cellsOf 9 = 1 := by kernel_rfl
  have e1 : Try.prog.cellsOf 3 = 1 := by kernel_rfl
  have e4 : Try.prog.cellsOf 73 = 1 := by kernel_rfl
  rw [e3] at hl
  obtain ⟨i, hi, wi⟩ := (hf 0 _ rfl).mem.int Try.underlying3
  obtain ⟨s, hs, ws⟩ := (hf 1 _ rfl).string Try.underlying9
  obtain ⟨a, ps, cap, ea, hv⟩ := propsU (hf 2 _ rfl)
  obtain ⟨p, q, r, rfl⟩ : ∃ p q r, cs = [p, q, r] := by
    match cs, hl with
    | [p, q, r], _ => exact ⟨p, q, r, rfl⟩
  simp [e1, e2, e4] at hi hs ea
  subst hi hs ea
  exact ⟨⟨⟨i, s, ps⟩, a, cap⟩, rfl, hv, I64.of_wf wi, ws⟩
set_option maxRecDepth 100000 in
theorem edgeU (w : World) (cs : List Value) (h : MemU bulkM Try.prog w 86 cs) : ∃ x : Er, cs = x.enc ∧ ErOk w x := by
  obtain ⟨hl, hf⟩ := h.struct Try.underlying86
  have e3 : Try.prog.cellsOf 86 = 5 := by kernel_rfl
  have e2 : Try.prog.cellsOf 9 = 1 := by kernel_rfl
  have e1 : Try.prog.cellsOf 3 = 1 := by kernel_rfl
  have e4 : Try.prog.cellsOf 73 = 1 := by kernel_rfl
  rw [e3] at hl
  obtain ⟨i, hi, wi⟩ := (hf 0 _ rfl).mem.int Try.underlying3
  obtain ⟨s, hs, ws⟩ := (hf 1 _ rfl).string Try.underlying9
  obtain ⟨j, hj, wj⟩ := (hf 2 _ rfl).mem.int Try.underlying3
  obtain ⟨k, hk, wk⟩ := (hf 3 _ rfl).mem.int Try.underlying3
  obtain ⟨a, ps, cap, ea, hv⟩ := propsU (hf 4 _ rfl)
  obtain ⟨p, q, r, t, u, rfl⟩ : ∃ p q r t u, cs = [p, q, r, t, u] := by
    match cs, hl with
    | [p, q, r, t, u], _ => exact ⟨p, q, r, t, u, rfl⟩
  simp [e1, e2, e4] at hi hs hj hk ea
  subst hi hs hj hk ea
  exact ⟨⟨⟨i, s, j, k, ps⟩, a, cap⟩, rfl, hv, ⟨I64.of_wf wi, I64.of_wf wj, I64.of_wf wk⟩, ws⟩
set_option maxRecDepth 100000 in
theorem partsU {w : World} {cs : List Value} (h : MemU bulkM Try.prog w 105 cs) : ∃ (va : Option Addr) (VL : List Vr) (vc : Nat) (ea : Option Addr) (EL : List Er) (ec : Nat), cs = [.slice va VL.length vc, .slice ea EL.length ec] ∧ kVr.V w va VL ∧ kEr.V w ea EL ∧ (∀ x ∈ VL, VrOk w x) ∧ ∀ x ∈ EL, ErOk w x := by
  obtain ⟨hl, hf⟩ := h.struct Try.underlying105
  have e0 : Try.prog.cellsOf 105 = 2 := by kernel_rfl
  have e1 : Try.prog.cellsOf 78 = 1 := by kernel_rfl
  have e2 : Try.prog.cellsOf 79 = 1 := by kernel_rfl
  rw [e0] at hl
  obtain ⟨va, VL, vc, h1, _, _, h4, h5⟩ := rowU kVr Try.underlying78 (by kernel_rfl) (VrOk w) (vertexU w) (hf 0 _ rfl)
  obtain ⟨ea, EL, ec, g1, _, _, g4, g5⟩ := rowU kEr Try.underlying79 (by kernel_rfl) (ErOk w) (edgeU w) (hf 1 _ rfl)
  obtain ⟨p, q, rfl⟩ : ∃ p q, cs = [p, q] := by
    match cs, hl with
    | [p, q], _ => exact ⟨p, q, rfl⟩
  simp [e1, e2] at h1 g1
  subst h1 g1
  exact ⟨va, VL, vc, ea, EL, ec, rfl, h4, g4, h5, g5⟩
set_option maxRecDepth 100000 in
theorem askU {w : World} {cs : List Value} (h : MemU bulkM Try.prog w 107 cs) : ∃ a : PA, cs = [.int .i64 a.fr, .int .i64 a.t, .string a.lab, .int .i64 a.most] ∧ I64 a.fr ∧ I64 a.t ∧ I64 a.most ∧ a.lab.size ≤ 1048576 := by
  obtain ⟨hl, hf⟩ := h.struct Try.underlying107
  have e0 : Try.prog.cellsOf 107 = 4 := by kernel_rfl
  have e2 : Try.prog.cellsOf 9 = 1 := by kernel_rfl
  have e1 : Try.prog.cellsOf 3 = 1 := by kernel_rfl
  rw [e0] at hl
  obtain ⟨i, hi, wi⟩ := (hf 0 _ rfl).mem.int Try.underlying3
  obtain ⟨j, hj, wj⟩ := (hf 1 _ rfl).mem.int Try.underlying3
  obtain ⟨s, hs, ws⟩ := (hf 2 _ rfl).string Try.underlying9
  obtain ⟨k, hk, wk⟩ := (hf 3 _ rfl).mem.int Try.underlying3
  obtain ⟨p, q, r, t, rfl⟩ : ∃ p q r t, cs = [p, q, r, t] := by
    match cs, hl with
    | [p, q, r, t], _ => exact ⟨p, q, r, t, rfl⟩
  simp [e1, e2] at hi hs hj hk
  subst hi hs hj hk
  exact ⟨⟨i, j, s, k⟩, rfl, I64.of_wf wi, I64.of_wf wj, I64.of_wf wk, ws⟩
/-- small parts, as built takes them -/
theorem ptIn_of {w : World} {va ea : Option Addr} {VL : List Vr} {EL : List Er} (h1 : kVr.V w va VL) (h2 : kEr.V w ea EL) (h3 : ∀ x ∈ VL, VrOk w x) (h4 : ∀ x ∈ EL, ErOk w x) (hs : smallB VL EL = true) : PtIn w va ea VL EL := by
  unfold smallB at hs
  obtain ⟨s1, s2, s3, s4⟩ := of_decide_eq_true hs
  refine ⟨h1, h2, fun x hx => ?_, fun x hx => ?_, by omega, by omega⟩
  · obtain ⟨g1, g2, g3⟩ := h3 x hx
    exact ⟨g1, by have := (s3 x hx).1; omega, g2, by omega⟩
  · obtain ⟨g1, g2, g3⟩ := h4 x hx
    exact ⟨g1, by have := (s4 x hx).1; omega, g2, by omega⟩
end Go.Proofs.Ytaanohgkdpohhaa
