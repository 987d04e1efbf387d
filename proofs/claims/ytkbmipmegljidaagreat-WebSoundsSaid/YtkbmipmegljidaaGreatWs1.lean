/- WebSounds: what is built, plainly; writes laid twice. Conditions: each lemma's own premises. -/
import Derived.Test.YtkbmipmegljidaaGreatWsSw
import Derived.Test.YtkbmipmegljidaaGreatRg4
import Derived.Test.YtkbmipmegljidaaGreatWsGs
import Derived.Test.YtkbmipmegljidaaGreatWsM
import Derived.Test.YtkbmipmegljidaaGreatGrMem
namespace Go.Proofs.YtkbmipmegljidaaGreat
open Go.RowKit Go.Maps

theorem mem_addV {V : List Vt} {v y : Vt} (h : y ∈ (addV V v).2) : y ∈ V ∨ y = v := by
  unfold addV at h
  split at h
  · split at h
    · exact .inl h
    · rcases mem_insB.1 h with h | h
      · exact .inr h
      · exact .inl h
  · exact .inl h
theorem mem_adV : ∀ {l V : List Vt} {y : Vt}, y ∈ adV V l → y ∈ V ∨ y ∈ l
  | [], _, _, h => .inl h
  | v :: l, V, y, h => by
    rcases mem_adV (l := l) (V := (addV V v).2) h with h | h
    · rcases mem_addV h with h | h
      · exact .inl h
      · exact .inr (by rw [h]; exact List.mem_cons_self)
    · exact .inr (List.mem_cons_of_mem _ h)
theorem mem_addE {V : List Vt} {E : List Eg} {e y : Eg} (h : y ∈ (addE V E e).2) : y ∈ E ∨ y = e := by
  unfold addE at h
  repeat' split at h
  all_goals first
    | exact .inl h
    | (rcases mem_insB.1 h with h | h; exact .inr h; exact .inl h)
theorem mem_adE {V : List Vt} : ∀ {l E : List Eg} {y : Eg}, y ∈ adE V E l → y ∈ E ∨ y ∈ l
  | [], _, _, h => .inl h
  | e :: l, E, y, h => by
    rcases mem_adE (l := l) (E := (addE V E e).2) h with h | h
    · rcases mem_addE h with h | h
      · exact .inl h
      · exact .inr (by rw [h]; exact List.mem_cons_self)
    · exact .inr (List.mem_cons_of_mem _ h)
theorem adV_pgo : ∀ {l V : List Vt} {E : List Eg}, PGo V E → PGo (adV V l) E
  | [], _, _, h => h
  | v :: l, V, _, h => adV_pgo (l := l) (V := (addV V v).2) (h.addV v)
theorem adE_pgo {V : List Vt} : ∀ {l E : List Eg}, PGo V E → PGo V (adE V E l)
  | [], _, h => h
  | e :: l, E, h => adE_pgo (l := l) (E := (addE V E e).2) (h.addE e)
/-- vertices, edges whose texts are small -/
def OkVr (x : Vr) : Prop := smallP x.v.ps = true ∧ x.v.label.size ≤ 200
def OkEr (x : Er) : Prop := smallP x.e.ps = true ∧ x.e.label.size ≤ 200
theorem small_keys {ps : List Pr} (h : smallP ps = true) : ps.length ≤ 30 ∧ ∀ p ∈ ps, p.key.size ≤ 100 := ⟨(of_decide_eq_true h).1, fun p hp => ((of_decide_eq_true h).2 p hp).1⟩
theorem raw_ok {w : World} {a : Option Addr} {ps : List Pr} (h : PrV w a ps) : ∀ p ∈ ps, p.v.Ok := fun p hp => by
  obtain ⟨b, off, _, hat⟩ := h (fun e => by rw [e] at hp; cases hp)
  exact (hat.raw p hp).2
theorem fit_built {w : World} {VL : List Vr} {EL : List Er} (h1 : ∀ x ∈ VL, VrRaw w x) (h2 : ∀ x ∈ EL, ErRaw w x) (h3 : ∀ x ∈ VL, OkVr x) (h4 : ∀ x ∈ EL, OkEr x) : FitG (adV [] (VL.map Vr.v)) (adE (adV [] (VL.map Vr.v)) [] (EL.map Er.e)) := by
  refine ⟨fun v hv => ?_, fun e he => ?_⟩
  · rcases mem_adV hv with h | h
    · cases h
    · obtain ⟨x, hx, rfl⟩ := List.mem_map.1 h
      exact ⟨(h3 x hx).2, fun p hp => ⟨by have := (small_keys (h3 x hx).1).2 p hp; omega, raw_ok (h1 x hx).1 p hp⟩⟩
  · rcases mem_adE he with h | h
    · cases h
    · obtain ⟨x, hx, rfl⟩ := List.mem_map.1 h
      exact ⟨(h4 x hx).2, fun p hp => ⟨by have := (small_keys (h4 x hx).1).2 p hp; omega, raw_ok (h2 x hx).1 p hp⟩⟩
theorem ptIn_raw {w : World} {va ea : Option Addr} {VL : List Vr} {EL : List Er} (hv : kVr.V w va VL) (he : kEr.V w ea EL) (h1 : ∀ x ∈ VL, VrRaw w x) (h2 : ∀ x ∈ EL, ErRaw w x) (h3 : ∀ x ∈ VL, OkVr x) (h4 : ∀ x ∈ EL, OkEr x) (h5 : VL.length ≤ 20) (h6 : EL.length ≤ 20) : PtIn w va ea VL EL :=
  ⟨hv, he, fun x hx => ⟨(h1 x hx).ps (h3 x hx).1, by have := (small_keys (h3 x hx).1).1; omega, (h1 x hx).2.2.2.1, by have := (h3 x hx).2; omega⟩,
    fun x hx => ⟨(h2 x hx).ps (h4 x hx).1, by have := (small_keys (h4 x hx).1).1; omega, (h2 x hx).2.2.2.1, by have := (h4 x hx).2; omega⟩, by omega, by omega⟩
theorem built_facts {VL : List Vr} {EL : List Er} (h5 : VL.length ≤ 20) (h6 : EL.length ≤ 20) : PGo (adV [] (VL.map Vr.v)) (adE (adV [] (VL.map Vr.v)) [] (EL.map Er.e)) ∧ (adV [] (VL.map Vr.v)).length ≤ 20 ∧ (adE (adV [] (VL.map Vr.v)) [] (EL.map Er.e)).length ≤ 20 := by
  refine ⟨adE_pgo (adV_pgo PGo.nil), ?_, ?_⟩
  · have := adV_len (VL.map Vr.v) []
    simp at this
    omega
  · have := adE_len (adV [] (VL.map Vr.v)) (EL.map Er.e) []
    simp at this
    omega
theorem vtext_vw {V : List Vt} {E : List Eg} (h : PGo V E) {v : Vt} (hv : v ∈ V) : vtext v.label v.ps [v.id] [] = (vw v).val ∧ checkR v.label v.ps [v.id] = 0 := by
  have hc := h.v v hv
  refine ⟨?_, hc⟩
  unfold vtext
  rw [if_pos hc]
  rfl
theorem vtext_ew {V : List Vt} {E : List Eg} (h : PGo V E) {e : Eg} (he : e ∈ E) : vtext e.label e.ps [e.id, e.fr, e.to] (fiveL e.fr.toNat ++ fiveL e.to.toNat) = (ew e).val ∧ checkR e.label e.ps [e.id, e.fr, e.to] = 0 := by
  have hc := h.e e he
  refine ⟨?_, hc⟩
  unfold vtext
  rw [if_pos hc]
  rfl
theorem wsOf_takeV {V : List Vt} {k : Nat} {v : Vt} (h : V[k]? = some v) : wsOf (V.take (k + 1)) [] = wsOf (V.take k) [] ++ [vw v] := by
  unfold wsOf
  rw [take_snoc h]
  simp
theorem wsOf_takeE {V : List Vt} {E : List Eg} {k : Nat} {e : Eg} (h : E[k]? = some e) : wsOf V (E.take (k + 1)) = wsOf V (E.take k) ++ [ew e] := by
  unfold wsOf
  rw [take_snoc h]
  simp
/-! writes laid twice: an empty made slice, all, and one more -/
def TwE (w5 u : World) (g0 : Nat) : Prop := w5.heap.size ≤ g0 ∧ u.heap[g0]? = some (.cells #[] 44 (0, 0))
def TwX (w5 u : World) (x : Wr) (g1 : Nat) : Prop := w5.heap.size ≤ g1 ∧ u.heap[g1]? = some (.cells x.cells.toArray 44 (0, 0))
theorem TwE.below {w5 u u' : World} {g0 : Nat} (h : TwE w5 u g0) (hb : Below u.heap.size u u') : TwE w5 u' g0 := ⟨h.1, (hb.block g0 (Array.getElem?_eq_some_iff.1 h.2).1).trans h.2⟩
theorem TwX.below {w5 u u' : World} {x : Wr} {g1 : Nat} (h : TwX w5 u x g1) (hb : Below u.heap.size u u') : TwX w5 u' x g1 := ⟨h.1, (hb.block g1 (Array.getElem?_eq_some_iff.1 h.2).1).trans h.2⟩
theorem TwE.own {w5 u : World} {g0 : Nat} (h : TwE w5 u g0) : kW.Own u w5.heap.size (.slice (some ⟨g0, 0, none⟩) 0 0) [] := RowK.Own.new (k := kW) (l := []) h.2 h.1 rfl (Nat.zero_le _)
theorem TwX.row {w5 u : World} {x : Wr} {g1 : Nat} (h : TwX w5 u x g1) : kW.V u (some ⟨g1, 0, none⟩) [x] := fun _ => ⟨g1, 0, rfl, RowK.new_at (k := kW) h.2 (by simp [RowK.cells, kW])⟩
theorem TwX.grown {w5 u u' : World} {x : Wr} {g0 g1 : Nat} (h : TwX w5 u x g1) (he : TwE w5 u g0) (hg : u.grownBy u' (some g0)) : TwX w5 u' x g1 := by
  refine ⟨h.1, (hg.block g1 (Array.getElem?_eq_some_iff.1 h.2).1 (fun e => ?_)).trans h.2⟩
  injection e with e
  subst e
  have h1 := h.2
  rw [he.2] at h1
  injection h1 with h1
  injection h1 with h1
  have := congrArg Array.size h1
  simp [Wr.cells] at this
theorem app_below {B : Nat} {w5 u u' : World} {v v' : Value} {l : List Wr} (hb : Below w5.heap.size w5 u) (_hB : w5.heap.size ≤ B) (ho : ∀ j, v.ownBlock = some j → w5.heap.size ≤ j) (hA : kW.App u B v l v' u') : Below w5.heap.size w5 u' :=
  ⟨hA.2.1.os.trans hb.os, hA.2.1.tape.trans hb.tape, hA.2.1.output.trans hb.output, Nat.le_trans hb.size hA.2.1.size, fun i hi => (hA.2.1.block i (Nat.lt_of_lt_of_le hi hb.size) (fun e => by have := ho i e.symm; omega)).trans (hb.block i hi)⟩
end Go.Proofs.YtkbmipmegljidaaGreat
