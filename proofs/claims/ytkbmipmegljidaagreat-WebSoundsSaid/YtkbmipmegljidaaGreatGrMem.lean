/- Vertices, edges of an argument in memory. Conditions: each lemma's own premises. -/
import Derived.Test.YtkbmipmegljidaaGreatWsK
import Derived.Test.YtkbmipmegljidaaGreatWsN
import Derived.Test.YtkbmipmegljidaaGreatWsZ
namespace Go.Proofs.YtkbmipmegljidaaGreat
open Go.RowKit Go.Maps

def VrRaw (w : World) (x : Vr) : Prop := PrV w x.a x.v.ps ∧ (x.a = none → x.c = 0 ∧ x.v.ps = []) ∧ x.v.ps.length ≤ maxLen ∧ I64 x.v.id ∧ x.v.label.size ≤ maxLen
def ErRaw (w : World) (x : Er) : Prop := PrV w x.a x.e.ps ∧ (x.a = none → x.c = 0 ∧ x.e.ps = []) ∧ x.e.ps.length ≤ maxLen ∧ (I64 x.e.id ∧ I64 x.e.fr ∧ I64 x.e.to) ∧ x.e.label.size ≤ maxLen
theorem VrRaw.below {w w' : World} {x : Vr} (h : VrRaw w x) (hb : Below w.heap.size w w') : VrRaw w' x := ⟨h.1.below hb, h.2⟩
theorem ErRaw.below {w w' : World} {x : Er} (h : ErRaw w x) (hb : Below w.heap.size w w') : ErRaw w' x := ⟨h.1.below hb, h.2⟩
theorem VrRaw.ps {w : World} {x : Vr} (h : VrRaw w x) (hs : smallP x.v.ps = true) : PsA w x.a x.c x.v.ps := ⟨h.1.small hs, h.2.1⟩
theorem ErRaw.ps {w : World} {x : Er} (h : ErRaw w x) (hs : smallP x.e.ps = true) : PsA w x.a x.c x.e.ps := ⟨h.1.small hs, h.2.1⟩
set_option maxRecDepth 100000 in
theorem propR {m : Nat} {w : World} (cs : List Value) (h : MemU m Tryz.prog w 62 cs) : ∃ p : Pr, cs = kP.enc p ∧ (p.key.size ≤ maxLen ∧ p.v.Ok) := by
  obtain ⟨p, h1, h2⟩ := propM h.mem
  exact ⟨p, h2, h1⟩
set_option maxRecDepth 100000 in
theorem propsR {m : Nat} {w : World} {cs : List Value} (h : MemU m Tryz.prog w 28 cs) : ∃ (a : Option Addr) (ps : List Pr) (cap : Nat), cs = [.slice a ps.length cap] ∧ PrV w a ps ∧ (a = none → cap = 0 ∧ ps = []) ∧ ps.length ≤ maxLen := by
  obtain ⟨a, l, cap, h1, h2, h3, h4, h5⟩ := rowU kP Tryz.underlying28 (by kernel_rfl) (fun p => p.key.size ≤ maxLen ∧ p.v.Ok) propR h
  refine ⟨a, l, cap, h1, fun hn => ?_, fun e => ⟨(h3 e).2, (h3 e).1⟩, h2⟩
  obtain ⟨b, off, e, hat⟩ := h4 hn
  exact ⟨b, off, e, ⟨h5, fun i p hp => ⟨hat.cells i p hp 0 _ rfl, hat.cells i p hp 1 _ rfl, hat.cells i p hp 2 _ rfl, hat.cells i p hp 3 _ rfl⟩, hat.lt⟩⟩
set_option maxRecDepth 100000 in
theorem vertexR {m : Nat} {w : World} (cs : List Value) (h : MemU m Tryz.prog w 30 cs) : ∃ x : Vr, cs = x.enc ∧ VrRaw w x := by
  obtain ⟨hl, hf⟩ := h.struct Tryz.underlying30
  have e3 : Tryz.prog.cellsOf 30 = 3 := by kernel_rfl
  have e2 : Tryz.prog.cellsOf 9 = 1 := by kernel_rfl
  have e1 : Tryz.prog.cellsOf 3 = 1 := by kernel_rfl
  have e4 : Tryz.prog.cellsOf 28 = 1 := by kernel_rfl
  rw [e3] at hl
  obtain ⟨i, hi, wi⟩ := (hf 0 _ rfl).mem.int Tryz.underlying3
  obtain ⟨s, hs, ws⟩ := (hf 1 _ rfl).mem.string Tryz.underlying9
  obtain ⟨a, ps, cap, ea, hv, hn, hm⟩ := propsR (hf 2 _ rfl)
  obtain ⟨p, q, r, rfl⟩ : ∃ p q r, cs = [p, q, r] := by
    match cs, hl with
    | [p, q, r], _ => exact ⟨p, q, r, rfl⟩
  simp [e1, e2, e4] at hi hs ea
  subst hi hs ea
  exact ⟨⟨⟨i, s, ps⟩, a, cap⟩, rfl, hv, hn, hm, I64.of_wf wi, ws⟩
set_option maxRecDepth 100000 in
theorem edgeR {m : Nat} {w : World} (cs : List Value) (h : MemU m Tryz.prog w 32 cs) : ∃ x : Er, cs = x.enc ∧ ErRaw w x := by
  obtain ⟨hl, hf⟩ := h.struct Tryz.underlying32
  have e3 : Tryz.prog.cellsOf 32 = 5 := by kernel_rfl
  have e2 : Tryz.prog.cellsOf 9 = 1 := by kernel_rfl
  have e1 : Tryz.prog.cellsOf 3 = 1 := by kernel_rfl
  have e4 : Tryz.prog.cellsOf 28 = 1 := by kernel_rfl
  rw [e3] at hl
  obtain ⟨i, hi, wi⟩ := (hf 0 _ rfl).mem.int Tryz.underlying3
  obtain ⟨s, hs, ws⟩ := (hf 1 _ rfl).mem.string Tryz.underlying9
  obtain ⟨j, hj, wj⟩ := (hf 2 _ rfl).mem.int Tryz.underlying3
  obtain ⟨k, hk, wk⟩ := (hf 3 _ rfl).mem.int Tryz.underlying3
  obtain ⟨a, ps, cap, ea, hv, hn, hm⟩ := propsR (hf 4 _ rfl)
  obtain ⟨p, q, r, t, u, rfl⟩ : ∃ p q r t u, cs = [p, q, r, t, u] := by
    match cs, hl with
    | [p, q, r, t, u], _ => exact ⟨p, q, r, t, u, rfl⟩
  simp [e1, e2, e4] at hi hs hj hk ea
  subst hi hs hj hk ea
  exact ⟨⟨⟨i, s, j, k, ps⟩, a, cap⟩, rfl, hv, hn, hm, ⟨I64.of_wf wi, I64.of_wf wj, I64.of_wf wk⟩, ws⟩
theorem memU_of {w : World} {t : TypeId} {cs : List Value} (h : Mem Tryz.prog w t cs) : ∃ m, MemU m Tryz.prog w t cs := by
  obtain ⟨H, enc, fuel, x, h⟩ := h
  exact ⟨Rows.uptoBulk x.1, H, enc, fuel, x, h, Nat.le_refl _⟩
set_option maxRecDepth 100000 in
theorem verticesM {w : World} {cs : List Value} (h : Mem Tryz.prog w 22 cs) : ∃ (a : Option Addr) (L : List Vr) (cap : Nat), cs = [.slice a L.length cap] ∧ L.length ≤ maxLen ∧ kVr.V w a L ∧ ∀ x ∈ L, VrRaw w x := by
  obtain ⟨m, h⟩ := memU_of h
  obtain ⟨a, l, cap, h1, h2, _, h4, h5⟩ := rowU kVr Tryz.underlying22 (by kernel_rfl) (VrRaw w) (fun es he => vertexR es he) h
  exact ⟨a, l, cap, h1, h2, h4, h5⟩
set_option maxRecDepth 100000 in
theorem edgesM {w : World} {cs : List Value} (h : Mem Tryz.prog w 23 cs) : ∃ (a : Option Addr) (L : List Er) (cap : Nat), cs = [.slice a L.length cap] ∧ L.length ≤ maxLen ∧ kEr.V w a L ∧ ∀ x ∈ L, ErRaw w x := by
  obtain ⟨m, h⟩ := memU_of h
  obtain ⟨a, l, cap, h1, h2, _, h4, h5⟩ := rowU kEr Tryz.underlying23 (by kernel_rfl) (ErRaw w) (fun es he => edgeR es he) h
  exact ⟨a, l, cap, h1, h2, h4, h5⟩
end Go.Proofs.YtkbmipmegljidaaGreat
