/- graph.Check. Conditions: each contract's own premises. The reference's value Right. Conditions: each contract's own premises. Layer 21: small lists of properties (cobweblaw21.props), as they come in. Conditions: each contract's own premises. Values, properties of an argument in memory. Conditions: each lemma's own premises. -/
import Derived.Test.YtkbmipmegljidaaGreatWb4
import Derived.Test.YtkbmipmegljidaaGreatMem
namespace Go.Proofs.YtkbmipmegljidaaGreat
open Go.RowKit Go.Maps

/-- what Check says -/
noncomputable def checkR (label : ByteArray) (ps : List Pr) (ids : List Int) : Int := if ids.any idB = true then 2 else if badS label = true then 30 else if rightPs ps = true then 0 else 10
set_option maxHeartbeats 400000 in
theorem check_any (label : ByteArray) (pa ia : Option Addr) (pc ic : Nat) (ps : List Pr) (ids : List Int) (w : World) (hl : label.size ≤ maxLen) (hp : PsV w pa ps) (hi : IsV w ia ids) (lp : ps.length ≤ 100000) (li : ids.length ≤ 100000) :
    Calls Tryz.prog 19 #[.string label, .slice pa ps.length pc, .slice ia ids.length ic] w fun e w' => e = .returned (.int .i64 (checkR label ps ids)) ∧ Below w.heap.size w w' := by
  have HL := Lib.hid hl
  clear hl
  go_enter Tryz.func19, Tryz.ntmps19
  go_wp2_with fail
  refine (conIs_any ia ic ids _ hi li).mono ?_
  rintro e w1 ⟨rfl, hb1⟩
  clear hi
  obtain ⟨b1, h1⟩ : ∃ b1, ids.any idB = b1 := ⟨_, rfl⟩
  rw [h1]
  have H1 := Lib.hid h1
  clear h1
  cases b1
  · go_wp2_with fail
    refine (lright_one w1.heap.size 1 label 9 (0, 0) _ (heap_new w1 _) HL.out).mono ?_
    rintro e w2 ⟨rfl, hb2⟩
    have hB2 := below_then (below_al hb1 _) hb2
    obtain ⟨b2, h2⟩ : ∃ b2, badS label = b2 := ⟨_, rfl⟩
    rw [h2]
    have H2 := Lib.hid h2
    clear h2 hb1 hb2
    cases b2
    · go_wp2_with fail
      refine (pright_any pa pc ps _ (hp.below hB2) lp).mono ?_
      rintro e w3 ⟨rfl, hb3⟩
      obtain ⟨b3, h3⟩ : ∃ b3, rightPs ps = b3 := ⟨_, rfl⟩
      rw [h3]
      have H3 := Lib.hid h3
      clear h3 hp
      cases b3
      · go_wp2_with fail
        go_ret
        exact ⟨ret_int (by unfold checkR; rw [H1.out, H2.out, H3.out]; rfl), below_then hB2 hb3⟩
      · go_wp2_with fail
        go_ret
        exact ⟨ret_int (by unfold checkR; rw [H1.out, H2.out, H3.out]; rfl), below_then hB2 hb3⟩
    · go_wp2_with fail
      go_ret
      exact ⟨ret_int (by unfold checkR; rw [H1.out, H2.out]; rfl), hB2⟩
  · go_wp2_with fail
    go_ret
    exact ⟨ret_int (by unfold checkR; rw [H1.out]; rfl), hb1⟩
end Go.Proofs.YtkbmipmegljidaaGreat
namespace Go.Proofs.YtkbmipmegljidaaGreat
open Go.RowKit Go.Maps

set_option maxHeartbeats 1000000 in
theorem r2right_any (v : Vl) (w : World) (h : v.Ok) : Calls Tryz.prog 113 #[.agg #[.int .i64 v.kind, .int .i64 v.n, .string v.s]] w fun e w' => e = .returned (.bool v.right) ∧ Below w.heap.size w w' := by
  have hs := h.s
  unfold maxLen at hs
  have fin := Lib.hid (fun X => below_box w X)
  unfold Vl.right Vl.isN Vl.isT
  by_cases k1 : v.kind = 1
  · have n1 : (v.kind == 1) = true := by simpa using k1
    have n2 : (v.kind == 2) = false := by simp; omega
    rw [decide_eq_true k1, decide_eq_false (show ¬ v.kind = 2 by omega)]
    clear k1
    cases he : v.s.toList.isEmpty
    · have he2 : (v.s.toList == []) = false := by simpa using he
      go_enter Tryz.func113, Tryz.ntmps113
      go_wp2
      go_ret
      exact ⟨rfl, fin.out _⟩
    · have he2 : (v.s.toList == []) = true := by simpa using he
      go_enter Tryz.func113, Tryz.ntmps113
      go_wp2
      go_ret
      exact ⟨rfl, fin.out _⟩
  · have n1 : (v.kind == 1) = false := by simpa using k1
    rw [decide_eq_false k1]
    clear k1
    by_cases k2 : v.kind = 2
    · have n2 : (v.kind == 2) = true := by simpa using k2
      rw [decide_eq_true k2]
      clear k2
      by_cases k3 : v.n = 0
      · have n3 : (v.n == 0) = true := by simpa using k3
        rw [decide_eq_true k3]
        clear k3
        go_enter Tryz.func113, Tryz.ntmps113
        go_wp2
        go_ret
        exact ⟨ret_bool (by rw [Bool.eq_iff_iff]; simp; omega), fin.out _⟩
      · have n3 : (v.n == 0) = false := by simpa using k3
        rw [decide_eq_false k3]
        clear k3
        go_enter Tryz.func113, Tryz.ntmps113
        go_wp2
        go_ret
        exact ⟨rfl, fin.out _⟩
    · have n2 : (v.kind == 2) = false := by simpa using k2
      rw [decide_eq_false k2]
      clear k2
      go_enter Tryz.func113, Tryz.ntmps113
      go_wp2
      go_ret
      exact ⟨rfl, fin.out _⟩

end Go.Proofs.YtkbmipmegljidaaGreat
namespace Go.Proofs.YtkbmipmegljidaaGreat
open Go.RowKit Go.Maps

/-- properties as they come in: keys of any size -/
structure PrAt (w : World) (b off : Nat) (l : List Pr) : Prop where
  raw : ∀ p ∈ l, p.key.size ≤ maxLen ∧ p.v.Ok
  cells : ∀ (i : Nat) (p : Pr), l[i]? = some p → w.cell? ⟨b, off + i * 4, none⟩ = some (.string p.key) ∧ w.cell? ⟨b, off + i * 4 + 1, none⟩ = some (.int .i64 p.v.kind) ∧ w.cell? ⟨b, off + i * 4 + 2, none⟩ = some (.int .i64 p.v.n) ∧ w.cell? ⟨b, off + i * 4 + 3, none⟩ = some (.string p.v.s)
  lt : b < w.heap.size
def PrV (w : World) (a : Option Addr) (l : List Pr) : Prop := l ≠ [] → ∃ b off, a = some ⟨b, off, none⟩ ∧ PrAt w b off l
theorem PrAt.of_block {w w' : World} {b off : Nat} {l : List Pr} (h : PrAt w b off l) (hb : w'.heap[b]? = w.heap[b]?) : PrAt w' b off l :=
  ⟨h.raw, fun i x hx => by
    have e : ∀ j, w'.cell? ⟨b, j, none⟩ = w.cell? ⟨b, j, none⟩ := fun j => World.cell?_of_block (a := ⟨b, j, none⟩) hb
    simp only [e]; exact h.cells i x hx, (Array.getElem?_eq_some_iff.1 (hb.trans (Array.getElem?_eq_getElem h.lt))).1⟩
theorem PrV.below {w w' : World} {a : Option Addr} {l : List Pr} (h : PrV w a l) (hb : Below w.heap.size w w') : PrV w' a l := fun e => by
  obtain ⟨b, off, ha, hat⟩ := h e
  exact ⟨b, off, ha, hat.of_block (hb.block b hat.lt)⟩
/-- not too many, not too long -/
def smallP (ps : List Pr) : Bool := decide (ps.length ≤ 30 ∧ ∀ p ∈ ps, p.key.size ≤ 100 ∧ p.v.s.size ≤ 300)
theorem smallP_many {ps : List Pr} (h : 30 < ps.length) : smallP ps = false := decide_eq_false fun e => by omega
theorem smallP_no {ps : List Pr} {i : Nat} {p : Pr} (hp : ps[i]? = some p) (h : 100 < p.key.size ∨ 300 < p.v.s.size) : smallP ps = false := decide_eq_false fun e => by
  have := e.2 p (List.mem_of_getElem? hp)
  omega
theorem smallP_yes {ps : List Pr} (hl : ps.length ≤ 30) (h : ∀ (i : Nat) (p : Pr), ps[i]? = some p → p.key.size ≤ 100 ∧ p.v.s.size ≤ 300) : smallP ps = true := decide_eq_true ⟨hl, fun p hp => by
  obtain ⟨i, hi⟩ := List.getElem?_of_mem hp
  exact h i p hi⟩
theorem PrV.small {w : World} {a : Option Addr} {l : List Pr} (h : PrV w a l) (hs : smallP l = true) : PsV w a l := fun e => by
  obtain ⟨b, off, ha, hat⟩ := h e
  have hd := (of_decide_eq_true hs).2
  exact ⟨b, off, ha, ⟨fun p hp => ⟨by have := (hd p hp).1; omega, (hat.raw p hp).2⟩, hat.cells, hat.lt⟩⟩
end Go.Proofs.YtkbmipmegljidaaGreat
namespace Go.Proofs.YtkbmipmegljidaaGreat
open Go.RowKit Go.Maps

set_option maxRecDepth 100000 in
theorem valueM {w : World} {cs : List Value} (h : Mem Tryz.prog w 60 cs) : ∃ v : Vl, v.Ok ∧ cs = [.int .i64 v.kind, .int .i64 v.n, .string v.s] := by
  obtain ⟨hl, hf⟩ := h.struct Tryz.underlying60
  have e3 : Tryz.prog.cellsOf 60 = 3 := by kernel_rfl
  rw [e3] at hl
  obtain ⟨x, hx, wx⟩ := (hf 0 _ rfl).int Tryz.underlying3
  obtain ⟨y, hy, wy⟩ := (hf 1 _ rfl).int Tryz.underlying3
  obtain ⟨s, hs, ws⟩ := (hf 2 _ rfl).string Tryz.underlying9
  obtain ⟨p, q, r, rfl⟩ : ∃ p q r, cs = [p, q, r] := by
    match cs, hl with
    | [p, q, r], _ => exact ⟨p, q, r, rfl⟩
  have e1 : Tryz.prog.cellsOf 3 = 1 := by kernel_rfl
  have e2 : Tryz.prog.cellsOf 9 = 1 := by kernel_rfl
  simp [e1, e2] at hx hy hs
  subst hx hy hs
  exact ⟨⟨x, y, s⟩, ⟨I64.of_wf wx, I64.of_wf wy, ws⟩, rfl⟩
set_option maxRecDepth 100000 in
theorem propM {w : World} {cs : List Value} (h : Mem Tryz.prog w 62 cs) : ∃ p : Pr, (p.key.size ≤ maxLen ∧ p.v.Ok) ∧ cs = [.string p.key, .int .i64 p.v.kind, .int .i64 p.v.n, .string p.v.s] := by
  obtain ⟨hl, hf⟩ := h.struct Tryz.underlying62
  have e4 : Tryz.prog.cellsOf 62 = 4 := by kernel_rfl
  have e3 : Tryz.prog.cellsOf 60 = 3 := by kernel_rfl
  have e2 : Tryz.prog.cellsOf 9 = 1 := by kernel_rfl
  rw [e4] at hl
  obtain ⟨s, hs, ws⟩ := (hf 0 _ rfl).string Tryz.underlying9
  obtain ⟨v, hv, ev⟩ := valueM (hf 1 _ rfl)
  obtain ⟨p, q, r, t, rfl⟩ : ∃ p q r t, cs = [p, q, r, t] := by
    match cs, hl with
    | [p, q, r, t], _ => exact ⟨p, q, r, t, rfl⟩
  simp [e2, e3] at hs ev
  obtain ⟨rfl, rfl, rfl⟩ := ev
  subst hs
  exact ⟨⟨s, v⟩, ⟨ws, hv⟩, rfl⟩
end Go.Proofs.YtkbmipmegljidaaGreat
