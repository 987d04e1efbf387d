/- web.lay. Conditions: each contract's own premises. web.Graph: of a graph's own cells; of cells of which two have one key. Conditions: each contract's own premises. -/
import Derived.Test.YtkbmipmegljidaaGreatWsJ
import Derived.Test.YtkbmipmegljidaaGreatWgPlain
import Derived.Test.YtkbmipmegljidaaGreatWsP
namespace Go.Proofs.YtkbmipmegljidaaGreat
open Go.RowKit Go.Maps

theorem psA_of_psO {w : World} {B : Nat} {v : Value} {l : List Pr} (h : PsO w B v l) (hok : ∀ p ∈ l, p.key.size ≤ 255 ∧ p.v.Ok) : ∃ a c, v = .slice a l.length c ∧ PsA w a c l := by
  obtain ⟨a, c, e, hv⟩ := h.psV hok
  refine ⟨a, c, e, ⟨hv, fun hn => ?_⟩⟩
  subst hn
  rcases h.2 with ⟨h1, h2⟩ | ⟨g, cap, cur, h1, _⟩
  · rw [e] at h1
    injection h1 with _ h3 h4
    exact ⟨h4, List.eq_nil_of_length_eq_zero h2⟩
  · rw [e] at h1
    injection h1 with h3
    cases h3
theorem box6 {w u : World} (x : Wr) (h : Below (w.alloc (.cells #[.int .i64 x.k.kind, .int .i64 x.k.a, .int .i64 x.k.b, .string x.k.s, .string x.val, .bool x.has] 44)).heap.size (w.alloc (.cells #[.int .i64 x.k.kind, .int .i64 x.k.a, .int .i64 x.k.b, .string x.k.s, .string x.val, .bool x.has] 44)) u) :
    u.cell? ⟨w.heap.size, 0, none⟩ = some (.int .i64 x.k.kind) ∧ u.cell? ⟨w.heap.size, 1, none⟩ = some (.int .i64 x.k.a) ∧ u.cell? ⟨w.heap.size, 2, none⟩ = some (.int .i64 x.k.b) ∧ u.cell? ⟨w.heap.size, 3, none⟩ = some (.string x.k.s) ∧ u.cell? ⟨w.heap.size, 4, none⟩ = some (.string x.val) ∧ u.cell? ⟨w.heap.size, 5, none⟩ = some (.bool x.has) := by
  have hb := (h.block w.heap.size (by simp)).trans (heap_new w _)
  exact ⟨cell_of_blk hb 0, cell_of_blk hb 1, cell_of_blk hb 2, cell_of_blk hb 3, cell_of_blk hb 4, cell_of_blk hb 5⟩
def LayV (w : World) (gb vb eb : Nat) (V : List Vt) (E : List Eg) (v : Vt) (e : Ending) (w' : World) : Prop := AvPost w gb vb eb V E v e w'
set_option maxRecDepth 100000 in
set_option maxHeartbeats 2000000 in
theorem lay_v (gb vb eb : Nat) (V : List Vt) (E : List Eg) (v : Vt) (s : ByteArray) (w : World) (h : GrC w gb vb eb V E) (hid : I64 v.id) (hs : s.size ≤ 1000000) (ho : vertexP v.id s = some (v.label, v.ps)) (hl : v.label.size ≤ 200) (hn : v.ps.length ≤ 100000) (hvl : V.length < maxLen) :
    Calls Tryz.prog 24 #[.pointer (some ⟨gb, 0, none⟩), .agg #[.int .i64 1, .int .i64 v.id, .int .i64 0, .string ⟨#[]⟩, .string s, .bool true]] w (LayV w gb vb eb V E v) := by
  have HG := Lib.hid h
  have HO := Lib.hid ho
  have HI := Lib.hid hid
  have HN := Lib.hid (And.intro hl (And.intro hn hvl))
  clear h ho hid hl hn hvl
  go_enter Tryz.func24, Tryz.ntmps24
  go_wp2_with fail
  refine (wplain_any 1 v.id _).mono ?_
  rintro e w1 ⟨rfl, hb1⟩
  obtain ⟨c0, c1, c2, c3, c4, c5⟩ := box6 ⟨⟨1, v.id, 0, ⟨#[]⟩⟩, s, true⟩ hb1
  have HB1 := Lib.hid (below_then (below_box w _) hb1)
  clear hb1
  go_wp2_with fail
  refine (parseVertex_any v.id s _ HI.out hs).mono ?_
  rintro e w2 ⟨hb2, ⟨l, ps, val, he, rfl, hps, hok, _⟩ | ⟨he, rfl⟩⟩
  · rw [HO.out] at he
    injection he with he
    injection he with h1 h2
    subst h1 h2
    obtain ⟨a, c, rfl, hA⟩ := psA_of_psO hps hok
    have hB2 := below_then HB1.out hb2
    have hB3 : Below w.heap.size w (w2.alloc (.cells #[.int .i64 v.id, .string v.label, .slice a v.ps.length c] 30)) := hB2.alloc hB2.size _
    have HB3 := Lib.hid hB3
    have HA := Lib.hid (hA.below (below_box w2 (.cells #[.int .i64 v.id, .string v.label, .slice a v.ps.length c] 30)))
    clear hps hok hA hb2 hB2 hB3 c0 c1 c2 c3 c4 c5
    go_wp2_with fail
    refine (gaddV_any gb vb eb V E v a c _ (HG.out.below HB3.out) HA.out HN.out.2.1 HI.out (by have := HN.out.1; unfold maxLen; omega) HN.out.2.2).mono ?_
    rintro e w3 ⟨rfl, hg, hc⟩
    have HF := Lib.hid (And.intro hg ((Chg.of_below HB3.out (fun i => i = vb)).trans hc (fun _ _ h => h)))
    clear hg hc
    go_wp2_with fail
    go_ret
    exact ⟨rfl, HF.out⟩
  · rw [HO.out] at he; cases he
def LayE (w : World) (gb vb eb : Nat) (V : List Vt) (E : List Eg) (x : Eg) (e : Ending) (w' : World) : Prop := AePost w gb vb eb V E x e w'
set_option maxRecDepth 100000 in
set_option maxHeartbeats 2000000 in
theorem lay_e (gb vb eb : Nat) (V : List Vt) (E : List Eg) (x : Eg) (s : ByteArray) (w : World) (h : GrC w gb vb eb V E) (hid : I64 x.id ∧ I64 x.fr ∧ I64 x.to) (hs : s.size ≤ 1000000) (ho : edgeP x.id s = some (x.label, x.ps)) (hf : (num5 s : Int) = x.fr) (ht : (num5 (s.extract 5 s.size) : Int) = x.to) (hl : x.label.size ≤ 200) (hn : x.ps.length ≤ 100000) (hvl : E.length < maxLen) :
    Calls Tryz.prog 24 #[.pointer (some ⟨gb, 0, none⟩), .agg #[.int .i64 2, .int .i64 x.id, .int .i64 0, .string ⟨#[]⟩, .string s, .bool true]] w (LayE w gb vb eb V E x) := by
  have HG := Lib.hid h
  have HO := Lib.hid ho
  have HI := Lib.hid hid
  have HN := Lib.hid (And.intro hl (And.intro hn hvl))
  have HFT := Lib.hid (And.intro hf ht)
  clear h ho hid hl hn hvl hf ht
  go_enter Tryz.func24, Tryz.ntmps24
  go_wp2_with fail
  refine (wplain_any 2 x.id _).mono ?_
  rintro e w1 ⟨rfl, hb1⟩
  obtain ⟨c0, c1, c2, c3, c4, c5⟩ := box6 ⟨⟨2, x.id, 0, ⟨#[]⟩⟩, s, true⟩ hb1
  have HB1 := Lib.hid (below_then (below_box w _) hb1)
  clear hb1
  go_wp2_with fail
  refine (parseEdge_any x.id s _ HI.out.1 hs).mono ?_
  rintro e w2 ⟨hb2, ⟨l, ps, val, he, rfl, hps, hok, _⟩ | ⟨he, rfl⟩⟩
  · rw [HO.out] at he
    injection he with he
    injection he with h1 h2
    subst h1 h2
    obtain ⟨a, c, rfl, hA⟩ := psA_of_psO hps hok
    rw [HFT.out.1, HFT.out.2]
    have hB2 := below_then HB1.out hb2
    have hB3 : Below w.heap.size w (w2.alloc (.cells #[.int .i64 x.id, .string x.label, .int .i64 x.fr, .int .i64 x.to, .slice a x.ps.length c] 32)) := hB2.alloc hB2.size _
    have HB3 := Lib.hid hB3
    have HA := Lib.hid (hA.below (below_box w2 (.cells #[.int .i64 x.id, .string x.label, .int .i64 x.fr, .int .i64 x.to, .slice a x.ps.length c] 32)))
    clear hps hok hA hb2 hB2 hB3 c0 c1 c2 c3 c4 c5
    go_wp2_with fail
    refine (gaddE_any gb vb eb V E x a c _ (HG.out.below HB3.out) HA.out HN.out.2.1 HI.out (by have := HN.out.1; unfold maxLen; omega) HN.out.2.2).mono ?_
    rintro e w3 ⟨rfl, hg, hc⟩
    have HF := Lib.hid (And.intro hg ((Chg.of_below HB3.out (fun i => i = eb)).trans hc (fun _ _ h => h)))
    clear hg hc
    go_wp2_with fail
    go_ret
    exact ⟨rfl, HF.out⟩
  · rw [HO.out] at he; cases he
end Go.Proofs.YtkbmipmegljidaaGreat
namespace Go.Proofs.YtkbmipmegljidaaGreat
open Go.RowKit Go.Maps

theorem vw_in {V : List Vt} {E : List Eg} (h : PGo V E) (hf : FitG V E) {v : Vt} (hv : v ∈ V) : I64 v.id ∧ (vw v).val.size ≤ 1000000 ∧ vertexP v.id (vw v).val = some (v.label, v.ps) ∧ v.label.size ≤ 200 ∧ v.ps.length ≤ 100000 := by
  have hc := h.v v hv
  obtain ⟨hl, hk⟩ := hf.v v hv
  refine ⟨checkR_ids hc List.mem_cons_self, ?_, vertexP_text hl hc hk, hl, by have := checkR_ps hc; omega⟩
  have := textL_len hl (checkR_zero hc).2.2 (fun p hp => (hk p hp).1)
  show ((textL v.label v.ps).toArray).size ≤ 1000000
  rw [List.size_toArray]; omega
theorem ew_in {V : List Vt} {E : List Eg} (h : PGo V E) (hf : FitG V E) {e : Eg} (he : e ∈ E) : (I64 e.id ∧ I64 e.fr ∧ I64 e.to) ∧ (ew e).val.size ≤ 1000000 ∧ edgeP e.id (ew e).val = some (e.label, e.ps) ∧ (num5 (ew e).val : Int) = e.fr ∧ (num5 ((ew e).val.extract 5 (ew e).val.size) : Int) = e.to ∧ e.label.size ≤ 200 ∧ e.ps.length ≤ 100000 := by
  have hc := h.e e he
  obtain ⟨hl, hk⟩ := hf.e e he
  have hz := (checkR_zero hc).1
  simp only [List.any_cons, List.any_nil, Bool.or_false, Bool.or_eq_false_iff] at hz
  obtain ⟨h1, h2, h3⟩ := hz
  obtain ⟨f, hfe, hfl⟩ := idB_ok h2
  obtain ⟨t, hte, htl⟩ := idB_ok h3
  have ef : e.fr.toNat = f := by omega
  have et : e.to.toNat = t := by omega
  have hc' := hc
  rw [hfe, hte] at hc'
  have hv : (ew e).val = ⟨(fiveL f ++ fiveL t ++ textL e.label e.ps).toArray⟩ := by unfold ew; rw [ef, et]
  refine ⟨⟨checkR_ids hc (by simp), checkR_ids hc (by simp), checkR_ids hc (by simp)⟩, ?_, ?_, ?_, ?_, hl, by have := checkR_ps hc; omega⟩
  · have := textL_len hl (checkR_zero hc).2.2 (fun p hp => (hk p hp).1)
    rw [hv]
    show ((fiveL f ++ fiveL t ++ textL e.label e.ps).toArray).size ≤ 1000000
    rw [List.size_toArray, List.length_append, List.length_append]
    have l1 : (fiveL f).length = 5 := rfl
    have l2 : (fiveL t).length = 5 := rfl
    omega
  · rw [hv]; exact edgeP_text hl hc' hk
  · rw [hv, edge_from hfl]; exact hfe.symm
  · rw [hv, edge_to htl]; exact hte.symm
def GraphPost (w : World) (V : List Vt) (E : List Eg) (e : Ending) (w' : World) : Prop :=
  ∃ gb vb eb, e = .returned (.tuple #[.pointer (some ⟨gb, 0, none⟩), .int .i64 0]) ∧ GrC w' gb vb eb V E ∧ Below w.heap.size w w' ∧ w.heap.size ≤ gb
/-- the cells of a write, in a box of their own -/
def bxW (x : Wr) : Obj := .cells #[.int .i64 x.k.kind, .int .i64 x.k.a, .int .i64 x.k.b, .string x.k.s, .string x.val, .bool x.has] 44
def LaidP (B gb vb eb : Nat) (V : List Vt) (E : List Eg) (wr : World) (e : Ending) (w' : World) : Prop := e = .returned (.int .i64 0) ∧ GrC w' gb vb eb V E ∧ Below B wr w'
theorem lay_at {B gb vb eb k : Nat} {V : List Vt} {E : List Eg} {x : Wr} {wr : World} (hP : PGo V E) (hf : FitG V E) (h1 : V.length ≤ 1000) (h2 : E.length ≤ 1000) (hx : (wsOf V E)[k]? = some x)
    (hg : GrC wr gb vb eb (V.take k) (E.take (k - V.length))) (hB : B ≤ wr.heap.size) (hv : B ≤ vb) (he : B ≤ eb) :
    Calls Tryz.prog 24 #[.pointer (some ⟨gb, 0, none⟩), .agg #[.int .i64 x.k.kind, .int .i64 x.k.a, .int .i64 x.k.b, .string x.k.s, .string x.val, .bool x.has]] (wr.alloc (bxW x)) (LaidP B gb vb eb (V.take (k + 1)) (E.take (k + 1 - V.length)) wr) := by
  have hbx := below_box wr (bxW x)
  have hsz : B ≤ (wr.alloc (bxW x)).heap.size := Nat.le_trans hB hbx.size
  by_cases hkv : k < V.length
  · obtain ⟨v, hvk⟩ : ∃ v, V[k]? = some v := ⟨_, List.getElem?_eq_getElem hkv⟩
    obtain rfl : x = vw v := by
      rw [wsOf_v hvk] at hx
      injection hx with hx
      exact hx.symm
    obtain ⟨i1, i2, i3, i4, i5⟩ := vw_in hP hf (List.mem_of_getElem? hvk)
    have hL := lay_v gb vb eb (V.take k) (E.take (k - V.length)) v (vw v).val _ (hg.below hbx) i1 i2 i3 i4 i5 (by rw [List.length_take]; unfold maxLen; omega)
    have ea := addV_take (E := E) hP hvk
    unfold LayV AvPost at hL
    rw [ea] at hL
    refine hL.mono ?_
    rintro e w3 ⟨rfl, hg3, hc⟩
    refine ⟨rfl, ?_, (hbx.mono hB).trans (hc.below hsz (fun i e => by subst e; exact hv))⟩
    rw [show k + 1 - V.length = k - V.length by omega]
    exact hg3
  · obtain ⟨j, hj⟩ : ∃ j, k = V.length + j := ⟨k - V.length, by omega⟩
    obtain ⟨y, hy⟩ : ∃ y, E[j]? = some y := by
      have : k < (wsOf V E).length := (List.getElem?_eq_some_iff.1 hx).1
      rw [wsOf_len] at this
      exact ⟨_, List.getElem?_eq_getElem (by omega)⟩
    obtain rfl : x = ew y := by
      rw [hj, wsOf_e hy] at hx
      injection hx with hx
      exact hx.symm
    obtain ⟨i1, i2, i3, i4, i5, i6, i7⟩ := ew_in hP hf (List.mem_of_getElem? hy)
    have eV : V.take k = V := List.take_of_length_le (by omega)
    rw [eV, show k - V.length = j by omega] at hg
    have hL := lay_e gb vb eb V (E.take j) y (ew y).val _ (hg.below hbx) i1 i2 i3 i4 i5 i6 i7 (by rw [List.length_take]; unfold maxLen; omega)
    have ea := addE_take hP hy
    unfold LayE AePost at hL
    rw [ea] at hL
    refine hL.mono ?_
    rintro e w3 ⟨rfl, hg3, hc⟩
    refine ⟨rfl, ?_, (hbx.mono hB).trans (hc.below hsz (fun i e => by subst e; exact he))⟩
    rw [show k + 1 - V.length = j + 1 by omega, List.take_of_length_le (l := V) (by omega)]
    exact hg3
set_option maxRecDepth 100000 in
set_option maxHeartbeats 4000000 in
theorem graph_ok (a : Option Addr) (cap : Nat) (V : List Vt) (E : List Eg) (w : World) (hv : kW.V w a (wsOf V E)) (hP : PGo V E) (hf : FitG V E) (h1 : V.length ≤ 1000) (h2 : E.length ≤ 1000) :
    Calls Tryz.prog 11 #[.slice a (wsOf V E).length cap] w (GraphPost w V E) := by
  have HLA : Hid (∀ (B gb vb eb k : Nat) (x : Wr) (wr : World), (wsOf V E)[k]? = some x → GrC wr gb vb eb (V.take k) (E.take (k - V.length)) → B ≤ wr.heap.size → B ≤ vb → B ≤ eb →
    Calls Tryz.prog 24 #[.pointer (some ⟨gb, 0, none⟩), .agg #[.int .i64 x.k.kind, .int .i64 x.k.a, .int .i64 x.k.b, .string x.k.s, .string x.val, .bool x.has]] (wr.alloc (bxW x)) (LaidP B gb vb eb (V.take (k + 1)) (E.take (k + 1 - V.length)) wr)) := Lib.hid fun B gb vb eb k x wr hx hg hB hv he => lay_at hP hf h1 h2 hx hg hB hv he
  obtain ⟨zs, hzs⟩ : ∃ zs, zs = wsOf V E := ⟨_, rfl⟩
  have hsr : srtW zs = zs := by rw [hzs]; exact srtW_of (wsOf_sort hP)
  have hno : ¬ adjW (srtW zs) := by rw [hsr, hzs]; exact adjW_no (wsOf_sort hP)
  have hlen : zs.length = V.length + E.length := by rw [hzs]; exact wsOf_len V E
  have hS := wsorted_any a cap zs w (by rw [hzs]; exact hv) (by omega) (by rw [hzs]; exact wsOf_has)
  rw [← hzs] at HLA ⊢
  have HS := Lib.hid hS
  have HN := Lib.hid hno
  have HR := Lib.hid hsr
  have HL := Lib.hid hlen
  have hn2 : zs.length ≤ 2000 := by omega
  clear hS hno hsr hzs hlen hP hf hv h1 h2
  go_enter Tryz.func11, Tryz.ntmps11
  go_wp2_with fail
  refine HS.out.mono ?_
  rintro e w1 ⟨hb1, ⟨ha, _⟩ | ⟨_, v, rfl, hw1⟩⟩
  · exact absurd ha HN.out
  rw [HR.out] at hw1
  obtain ⟨n, hn⟩ : ∃ n, n = zs.length := ⟨_, rfl⟩
  obtain ⟨a2, c2, rfl, hV, _⟩ := hw1.shape
  have HV := Lib.hid hV
  have HB1 := Lib.hid hb1
  have HNL := Lib.hid hn
  rw [← hn] at hn2 ⊢
  clear hb1 hw1 hV hn HS HR HN
  go_wp2_with fail
  refine (gnew_any _).mono ?_
  rintro e w2 ⟨rfl, hg, hb2⟩
  obtain ⟨gb, hgb⟩ : ∃ gb, gb = w1.heap.size + 2 := ⟨_, rfl⟩
  obtain ⟨vb, hvb⟩ : ∃ vb, vb = w1.heap.size := ⟨_, rfl⟩
  obtain ⟨eb, heb⟩ : ∃ eb, eb = w1.heap.size + 1 := ⟨_, rfl⟩
  rw [← hgb, ← heb, ← hvb] at hg
  rw [← hgb]
  have HGE : Hid (w1.heap.size ≤ gb ∧ w1.heap.size ≤ vb ∧ w1.heap.size ≤ eb) := Lib.hid (by omega)
  have HI0 : Hid (GrC w2 gb vb eb (V.take 0) (E.take (0 - V.length)) ∧ Below w1.heap.size w1 w2) := Lib.hid ⟨by simpa using hg, hb2⟩
  clear hg hb2 hgb hvb heb
  go_wp2_with fail
  go_loopw [20] (fun i wr => ∃ k : Nat, k ≤ n ∧ i = .int .i64 k ∧ Hid (GrC wr gb vb eb (V.take k) (E.take (k - V.length)) ∧ Below w1.heap.size w1 wr)) (fun i _ => n - (intOf i).toNat)
  case atStart => exact ⟨0, by omega, rfl, HI0⟩
  case round =>
    obtain ⟨k, hk, rfl, HR⟩ := hrel
    clear HI0
    by_cases hlt : k < n
    · as_aux_lemma =>
        obtain ⟨x, hzx⟩ : ∃ x, zs[k]? = some x := ⟨_, List.getElem?_eq_getElem (by rw [← HNL.out]; exact hlt)⟩
        obtain ⟨b, off, rfl, hat⟩ := (HV.out.below HR.out.2) (fun e => by rw [e] at hzx; simp at hzx)
        obtain ⟨d0, d1, d2, d3, d4, d5⟩ := kW_cells hat hzx
        have hL := HLA.out w1.heap.size gb vb eb k x wr hzx HR.out.1 HR.out.2.size HGE.out.2.1 HGE.out.2.2
        unfold bxW at hL
        have HLY := Lib.hid hL
        clear hzx hat hL HLA HV
        go_wp2_with fail
        refine HLY.out.mono ?_
        rintro e w3 ⟨rfl, hg, hc⟩
        have HF : Hid (GrC w3 gb vb eb (V.take (k + 1)) (E.take (k + 1 - V.length)) ∧ Below w1.heap.size w1 w3) := Lib.hid ⟨hg, HR.out.2.trans hc⟩
        clear hg hc d0 d1 d2 d3 d4 d5
        go_wp2_with fail
        exact ⟨⟨k + 1, by omega, by go_num, HF⟩, by simp [intOf]; omega⟩
    · as_aux_lemma =>
        obtain rfl : k = n := by omega
        have HF : Hid (GrC wr gb vb eb V E ∧ Below w.heap.size w wr ∧ w.heap.size ≤ gb) := Lib.hid ⟨by
          have := HR.out.1
          have e1 := HNL.out
          have e2 := HL.out
          rw [List.take_of_length_le (l := V) (by omega), List.take_of_length_le (l := E) (by omega)] at this
          exact this, HB1.out.trans (HR.out.2.mono HB1.out.size), Nat.le_trans HB1.out.size HGE.out.1⟩
        clear hlt
        go_wp2_with fail
        go_ret2
        exact ⟨gb, vb, eb, rfl, HF.out⟩
def DupPost (w : World) (e : Ending) (w' : World) : Prop := e = .returned (.tuple #[.pointer none, .int .i64 10]) ∧ Below w.heap.size w w'
set_option maxRecDepth 100000 in
theorem graph_dup (a : Option Addr) (cap : Nat) (zs : List Wr) (w : World) (hv : kW.V w a zs) (hl : zs.length ≤ 100000) (hh : ∀ x ∈ zs, x.has = true) (hd : adjW (srtW zs)) :
    Calls Tryz.prog 11 #[.slice a zs.length cap] w (DupPost w) := by
  have HS := Lib.hid (wsorted_any a cap zs w hv hl hh)
  have HD := Lib.hid hd
  clear hv hl hh hd
  go_enter Tryz.func11, Tryz.ntmps11
  go_wp2_with fail
  refine HS.out.mono ?_
  rintro e w1 ⟨hb1, ⟨_, rfl⟩ | ⟨hn, _⟩⟩
  · have HB1 := Lib.hid hb1
    clear hb1
    go_wp2_with fail
    go_ret2
    exact ⟨rfl, HB1.out⟩
  · exact absurd HD.out hn
end Go.Proofs.YtkbmipmegljidaaGreat
