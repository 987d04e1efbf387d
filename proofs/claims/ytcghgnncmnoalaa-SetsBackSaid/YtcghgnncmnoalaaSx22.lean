/- Sets and the reference side by side: what both tell. Conditions: each lemma's own premises. -/
import Derived.Test.YtcghgnncmnoalaaSx21
import Derived.Test.YtcghgnncmnoalaaSx20
namespace Go.Proofs.Ytcghgnncmnoalaa
open Go.RowKit Go.Maps Go.WideMaps

/-- what both tell of a key -/
structure TellB (L : List Rx) (gs : Ky → Option Sn) (gw : Ky → Option Tx) (k : Ky) (tv : ByteArray) (th q : Bool) (y : Sn) : Prop where
  g : getX gs gw k = (tv, th, q)
  s : ((gs k).map Sn.v).getD Sn.zero = .agg #[.int .u64 y.word, .string y.val, .bool y.has]
  qs : (gs k).isSome = q
  z : q = false → y = ⟨0, ⟨#[]⟩, false⟩
  r : ∀ u rb B, SrX u rb B L → Calls Try.prog 42 #[.pointer (some ⟨rb, 0, none⟩), .agg #[.int .i64 k.kind, .int .i64 k.a, .int .i64 k.b, .string k.s]] u fun e u' => e = .returned (.tuple #[.string tv, .bool th, .bool q]) ∧ Below u.heap.size u u'
  f : ∀ u rb B, SrX u rb B L → Calls Try.prog 44 #[.pointer (some ⟨rb, 0, none⟩), .agg #[.int .i64 k.kind, .int .i64 k.a, .int .i64 k.b, .string k.s]] u fun e u' => ∃ v : Int, e = .returned (.int .i64 v) ∧ ((q = false ∧ v = -1) ∨ (q = true ∧ ∃ j x, v = (j : Nat) ∧ L[j]? = some x ∧ x.s = y)) ∧ Below u.heap.size u u'
theorem tell_both {gs : Ky → Option Sn} {gw gm : Ky → Option Tx} {L : List Rx} (hx : PX L gs gw gm) (k : Ky) : ∃ tv th q y, TellB L gs gw k tv th q y := by
  by_cases hin : ∃ x ∈ L, x.k = k
  · obtain ⟨x, hx1, rfl⟩ := hin
    have hs := hx.s x hx1
    have hg := hx.get hx1
    refine ⟨x.tx.val, x.tx.has, true, x.s, ?_, ?_, ?_, (fun h => by cases h), fun u rb B h => (r13Get_any h x.k).mono ?_, fun u rb B h => (r13Find_any h x.k).mono ?_⟩
    · unfold getX
      cases hq : gw x.k with
      | none => rw [hq] at hg; simp only at hg ⊢; rw [hs] at hg ⊢; simp only [snTx] at hg; rw [← hg]
      | some t => rw [hq] at hg; simp only at hg ⊢; rw [hg]
    · rw [hs]; rfl
    · rw [hs]; rfl
    · intro e u' ⟨h1, hb⟩
      rcases h1 with ⟨hno, _⟩ | ⟨j, z, hz, hzk, he⟩
      · exact absurd rfl (hno x hx1)
      · have h2 := hx.get (List.mem_of_getElem? hz)
        rw [hzk] at h2
        rw [hg] at h2
        rw [← h2] at he
        exact ⟨he, hb⟩
    · intro e u' ⟨v, he, h1, hb⟩
      refine ⟨v, he, ?_, hb⟩
      rcases h1 with ⟨_, hno⟩ | ⟨j, z, hv, hz, hzk⟩
      · exact absurd rfl (hno x hx1)
      · refine .inr ⟨rfl, j, z, hv, hz, ?_⟩
        have h2 := hx.s z (List.mem_of_getElem? hz)
        rw [hzk, hs] at h2
        injection h2 with h2
        exact h2.symm
  · have hno : ∀ x ∈ L, x.k ≠ k := fun x hx1 e => hin ⟨x, hx1, e⟩
    obtain ⟨n1, n2, _⟩ := hx.no k hno
    refine ⟨⟨#[]⟩, false, false, ⟨0, ⟨#[]⟩, false⟩, ?_, ?_, ?_, fun _ => rfl, fun u rb B h => (r13Get_any h k).mono ?_, fun u rb B h => (r13Find_any h k).mono ?_⟩
    · unfold getX; rw [n2, n1]
    · rw [n1]; rfl
    · rw [n1]; rfl
    · intro e u' ⟨h1, hb⟩
      rcases h1 with ⟨_, he⟩ | ⟨j, z, hz, hzk, _⟩
      · exact ⟨he, hb⟩
      · exact absurd hzk (hno z (List.mem_of_getElem? hz))
    · intro e u' ⟨v, he, h1, hb⟩
      refine ⟨v, he, ?_, hb⟩
      rcases h1 with ⟨hv, _⟩ | ⟨j, z, _, hz, hzk⟩
      · exact .inl ⟨rfl, hv⟩
      · exact absurd hzk (hno z (List.mem_of_getElem? hz))
/-- an act that came in -/
structure AcOk (w : World) (x : Ac13) : Prop where
  k : x.k.Ok
  v : kK.V w x.ka x.ks
  o : ∀ k ∈ x.ks, k.Ok
  n : x.ks.length ≤ maxLen
  lt : ∀ b off, x.ka = some ⟨b, off, none⟩ → x.ks ≠ [] → b < w.heap.size
def AcV (w : World) (a : Option Addr) (l : List Ac13) : Prop := l ≠ [] → ∃ b off, a = some ⟨b, off, none⟩ ∧ b < w.heap.size ∧ ∀ i x, l[i]? = some x → AcOk w x ∧ w.rangeAt b (off + i * 9) x.cells
theorem AcOk.below {w w' : World} {x : Ac13} (h : AcOk w x) (hb : Below w.heap.size w w') : AcOk w' x := ⟨h.k, h.v.below hb, h.o, h.n, fun b off e hn => Nat.lt_of_lt_of_le (h.lt b off e hn) hb.size⟩
theorem AcV.below {w w' : World} {a : Option Addr} {l : List Ac13} (h : AcV w a l) (hb : Below w.heap.size w w') : AcV w' a l := fun hn => by
  obtain ⟨b, off, e, hlt, hc⟩ := h hn
  exact ⟨b, off, e, Nat.lt_of_lt_of_le hlt hb.size, fun i x hi => ⟨(hc i x hi).1.below hb, fun j v hv => (hb.cell (p := ⟨b, off + i * 9 + j, none⟩) hlt).trans ((hc i x hi).2 j v hv)⟩⟩
set_option maxRecDepth 100000 in
theorem act13_in {w : World} {cs : List Value} (h : Mem Try.prog w 67 cs) : ∃ x : Ac13, AcOk w x ∧ cs = x.cells := by
  obtain ⟨hl, hf⟩ := h.struct Try.underlying67
  have e9 : Try.prog.cellsOf 67 = 9 := by kernel_rfl
  have e1 : Try.prog.cellsOf 3 = 1 := by kernel_rfl
  have e4 : Try.prog.cellsOf 62 = 4 := by kernel_rfl
  have e3 : Try.prog.cellsOf 64 = 3 := by kernel_rfl
  have e0 : Try.prog.cellsOf 65 = 1 := by kernel_rfl
  rw [e9] at hl
  obtain ⟨i, hi, wi⟩ := (hf 0 _ rfl).int Try.underlying3
  obtain ⟨k, hk, ek⟩ := key_in (hf 1 _ rfl)
  obtain ⟨s, hs, es⟩ := seen_in (hf 2 _ rfl)
  obtain ⟨a, ks, cap, ea, hm, hv, ho, hlt⟩ := keys_in (hf 3 _ rfl)
  obtain ⟨p0, p1, p2, p3, p4, p5, p6, p7, p8, rfl⟩ : ∃ p0 p1 p2 p3 p4 p5 p6 p7 p8, cs = [p0, p1, p2, p3, p4, p5, p6, p7, p8] := by
    match cs, hl with
    | [p0, p1, p2, p3, p4, p5, p6, p7, p8], _ => exact ⟨_, _, _, _, _, _, _, _, _, rfl⟩
  simp [e1, e4, e3, e0] at hi ek es ea
  obtain ⟨rfl, rfl, rfl, rfl⟩ := ek
  obtain ⟨rfl, rfl, rfl⟩ := es
  subst hi ea
  exact ⟨⟨i, k, s, a, cap, ks⟩, ⟨hk, hv, ho, hm, hlt⟩, rfl⟩
set_option maxRecDepth 100000 in
theorem acts13_in {w : World} {cs : List Value} (h : Mem Try.prog w 54 cs) : ∃ (a : Option Addr) (l : List Ac13) (cap : Nat), cs = [.slice a l.length cap] ∧ AcV w a l := by
  obtain ⟨a, n, cap, rfl, h1, h2, h3⟩ := h.slice Try.underlying54 (of_decide_eq_true (by kernel_rfl))
  have e6 : Try.prog.cellsOf 67 = 9 := by kernel_rfl
  rw [e6] at h3
  obtain ⟨xs, hlen, hx⟩ := list_of (n := n) (Q := fun i (x : Ac13) => AcOk w x ∧ ∀ b off, a = some ⟨b, off, none⟩ → w.rangeAt b (off + i * 9) x.cells) (fun i hi => by
    obtain ⟨b, off, rfl, _, hat⟩ := h3 (by omega)
    obtain ⟨es, hl, hc, hm⟩ := hat i hi
    obtain ⟨x, hx, rfl⟩ := act13_in hm
    refine ⟨x, hx, fun b' off' e j v hv => ?_⟩
    injection e with e
    injection e with e1 e2
    subst e1 e2
    have hj : j < 9 := (List.getElem?_eq_some_iff.1 hv).1
    rw [hc j hj]
    exact hv)
  subst hlen
  refine ⟨a, xs, cap, rfl, fun hne => ?_⟩
  obtain ⟨b, off, rfl, hb, _⟩ := h3 (List.length_pos_iff.2 hne)
  exact ⟨b, off, rfl, hb, fun i x hi => ⟨(hx i x hi).1, (hx i x hi).2 b off rfl⟩⟩
/-- through the acts -/
structure JI (w u : World) (sb rb i : Nat) : Prop where
  ex : ∃ bs bw bm ns nw nm gs gw gm L, MA w u sb bs bw bm ns nw nm gs gw gm rb L ∧ PX L gs gw gm ∧ WOk L ∧ ns ≤ i ∧ nw ≤ 10 * i ∧ nm ≤ 10 * i ∧ L.length ≤ i
theorem ws_out {w : World} {B n cap : Nat} {a : Option Addr} {L : List Rx} {gs : Ky → Option Sn} {gw gm : Ky → Option Tx} (hx : PX L gs gw gm) (ho : WOk L) (h : kW.Own w B (.slice a n cap) (outX L)) : WsV w a (outX L) :=
  ws_of_row h.toV (fun y hy => by
    obtain ⟨x, hx1, hy⟩ := List.mem_flatMap.1 hy
    unfold outAt at hy
    split at hy
    · rename_i hb
      rw [List.mem_singleton.1 hy]
      unfold outB at hb
      have hw : x.wrote = true := by
        cases hq : x.wrote
        · rw [hq] at hb; cases hb
        · rfl
      refine ⟨by rw [hx.wk x hx1 hw]; exact hx.ok x hx1, ?_⟩
      have := (ho x hx1).1 hw
      unfold maxLen
      omega
    · simp at hy)
end Go.Proofs.Ytcghgnncmnoalaa
