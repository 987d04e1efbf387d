/- Layer 16: what an act leaves of other graphs; the reference's Drop as the program's. Conditions: each lemma's own premises. An act done to a graph and to the document's. Conditions: each contract's own premises. (Printed by gen_rt8.py out of Ge3.) -/
import Derived.Test.YtonilojjahfboaaGreatRtA
import Derived.Test.YtonilojjahfboaaGreatGeA
namespace Go.Proofs.YtonilojjahfboaaGreat
open Go.RowKit Go.Maps

/-- what an act may change: the maps, the document's struct, and one place in its rows -/
def Fr16 (w w' : World) (vb eb rb : Nat) : Prop := ∃ u, Chg w u (fun i => i = vb ∨ i = eb ∨ i = rb) ∧ RowsNew w u rb ∧ (w' = u ∨ ∃ p v, w' = u.setCell p v ∧ InRow u rb p)
theorem rg_noText2 {w : World} {rb B : Nat} {VL : List Vr} {EL : List Er} (h : RgL w rb B VL EL) : ∀ j, j = rb → ∀ o s, w.cell? ⟨j, o, none⟩ ≠ Option.some (Value.string s) := by
  rintro j rfl o s hc
  obtain ⟨⟨va, vc, ea, ec, h1, _, _⟩, _⟩ := h
  rw [cell_of_blk h1] at hc
  match o with
  | 0 => simp at hc
  | 1 => simp at hc
  | o + 2 => simp at hc
theorem VmOk.inRow {w : World} {f : Lit → Option Value} {V : List Vt} {p : Addr} {v : Value} (h : VmOk w f V) (hp : ∃ b n q, w.cell? p = Option.some (Value.slice b n q)) : VmOk (w.setCell p v) f V :=
  ⟨h.no, fun v hv => by obtain ⟨a, c, h1, h2⟩ := h.yes v hv; exact ⟨a, c, h1, h2.inRow hp⟩⟩
theorem EmOk.inRow {w : World} {f : Lit → Option Value} {E : List Eg} {p : Addr} {v : Value} (h : EmOk w f E) (hp : ∃ b n q, w.cell? p = Option.some (Value.slice b n q)) : EmOk (w.setCell p v) f E :=
  ⟨h.no, fun v hv => by obtain ⟨a, c, h1, h2⟩ := h.yes v hv; exact ⟨a, c, h1, h2.inRow hp⟩⟩
theorem chg_setAt (u : World) (p : Addr) (v : Value) : Chg u (u.setCell p v) (fun i => i = p.block) := (Chg.refl u (fun i => i = p.block)).setCell (p := p) (fun _ => rfl) v
/-- a block of another type is not the row's -/
theorem InRow.ne {u : World} {rb b : Nat} {p : Addr} {cs : Array Value} {t : TypeId} {z : Nat × Nat} (h : InRow u rb p) (hb : u.heap[b]? = some (.cells cs t z)) (h1 : t ≠ 28) (h2 : t ≠ 30) : b ≠ p.block := fun e => by
  obtain ⟨cs', z', hk⟩ := h.blk
  rw [e] at hb
  rcases hk with hk | hk
  · rw [hk] at hb
    injection hb with hb
    injection hb with _ e2 _
    exact h1 e2.symm
  · rw [hk] at hb
    injection hb with hb
    injection hb with _ e2 _
    exact h2 e2.symm
theorem InRow.neM {u : World} {rb b : Nat} {p : Addr} {es : List (Lit × Value × Nat)} {cl : Nat} (h : InRow u rb p) (hb : ∀ cs t z, u.heap[b]? ≠ some (.cells cs t z)) : b ≠ p.block := fun e => by
  obtain ⟨cs', z', hk⟩ := h.blk
  rcases hk with hk | hk
  · rw [← e] at hk; exact hb _ _ _ hk
  · rw [← e] at hk; exact hb _ _ _ hk
theorem GrC.maps {w : World} {gb vb eb : Nat} {V : List Vt} {E : List Eg} (h : GrC w gb vb eb V E) : (∀ cs t z, w.heap[vb]? ≠ some (.cells cs t z)) ∧ ∀ cs t z, w.heap[eb]? ≠ some (.cells cs t z) := by
  obtain ⟨f, ⟨_, ⟨_, _, hm, _⟩, _⟩, _⟩ := h.vm
  obtain ⟨g, ⟨_, ⟨_, _, hn, _⟩, _⟩, _⟩ := h.em
  exact ⟨fun cs t z e => by (rw [hm] at e; cases e), fun cs t z e => by (rw [hn] at e; cases e)⟩
theorem GrC.inRow {u : World} {gb vb eb rb : Nat} {V : List Vt} {E : List Eg} {p : Addr} {v : Value} (h : GrC u gb vb eb V E) (hp : InRow u rb p) : GrC (u.setCell p v) gb vb eb V E := by
  have hc := chg_setAt u p v
  have hg : gb ≠ p.block := hp.ne h.blk (by decide) (by decide)
  have hv : vb ≠ p.block := hp.neM (es := []) (cl := 0) h.maps.1
  have he : eb ≠ p.block := hp.neM (es := []) (cl := 0) h.maps.2
  obtain ⟨f, m, hf⟩ := h.vm
  obtain ⟨g, n, hn⟩ := h.em
  exact ⟨(hc.block _ h.lt hg).trans h.blk, ⟨f, m.of_block (hc.block _ m.lt hv), hf.inRow hp.old⟩, ⟨g, n.of_block (hc.block _ n.lt he), hn.inRow hp.old⟩, h.ok, h.ne⟩
/-- another graph outlives an act -/
theorem GrC.fr16 {w w' : World} {gb vb eb gb2 vb2 eb2 rb B : Nat} {V V2 : List Vt} {E E2 : List Eg} {VL : List Vr} {EL : List Er} (h : GrC w gb vb eb V E) (h2 : GrC w gb2 vb2 eb2 V2 E2) (hr : RgL w rb B VL EL) (hf : Fr16 w w' vb2 eb2 rb) (hn : vb ≠ vb2 ∧ vb ≠ eb2 ∧ eb ≠ vb2 ∧ eb ≠ eb2) : GrC w' gb vb eb V E := by
  obtain ⟨u, hc, _, hw⟩ := hf
  have ht := rg_type hr h
  have hg : gb ≠ vb2 ∧ gb ≠ eb2 := ⟨fun e => h2.maps.1 _ _ _ (by rw [← e]; exact h.blk), fun e => h2.maps.2 _ _ _ (by rw [← e]; exact h.blk)⟩
  have hu : GrC u gb vb eb V E := h.noText hc ⟨fun h => h.elim hg.1 (fun h => h.elim hg.2 ht.1), fun h => h.elim hn.1 (fun h => h.elim hn.2.1 ht.2.1), fun h => h.elim hn.2.2.1 (fun h => h.elim hn.2.2.2 ht.2.2)⟩ (by
    rintro j (e | e | e) o s
    · rw [nocell_ve h2 j (.inl e)]; exact fun e => by cases e
    · rw [nocell_ve h2 j (.inr e)]; exact fun e => by cases e
    · exact rg_noText2 hr j e o s)
  rcases hw with rfl | ⟨p, v, rfl, hp⟩
  · exact hu
  · exact hu.inRow hp
/-- the rows of two reference graphs are apart -/
def RowsApart (w : World) (rb sb : Nat) : Prop := ∀ i i' v v' j, w.cell? ⟨rb, i, none⟩ = some v → w.cell? ⟨sb, i', none⟩ = some v' → v.ownBlock = some j → v'.ownBlock ≠ some j
theorem PsB.noText {w w' : World} {B : Nat} {S : Nat → Prop} {a : Option Addr} {c : Nat} {ps : List Pr} (h : PsB w B a c ps) (hc : Chg w w' S) (hS : ∀ j, S j → ∀ o s, w.cell? ⟨j, o, none⟩ ≠ Option.some (Value.string s)) : PsB w' B a c ps := ⟨h.1.noText hc hS, h.2⟩
theorem PsB.inRow {w : World} {B : Nat} {p : Addr} {v : Value} {a : Option Addr} {c : Nat} {ps : List Pr} (h : PsB w B a c ps) (hp : ∃ b n q, w.cell? p = Option.some (Value.slice b n q)) : PsB (w.setCell p v) B a c ps := ⟨h.1.inRow hp, h.2⟩
/-- another reference graph outlives an act -/
theorem RgL.fr16 {w w' : World} {sb B2 gb2 vb2 eb2 rb B : Nat} {V2 : List Vt} {E2 : List Eg} {VL VS : List Vr} {EL ES : List Er} (h : RgL w sb B2 VS ES) (h2 : GrC w gb2 vb2 eb2 V2 E2) (hr : RgL w rb B VL EL) (hne : sb ≠ rb) (ha : RowsApart w rb sb) (hf : Fr16 w w' vb2 eb2 rb) (hr2 : ∃ cs z, w'.heap[rb]? = Option.some (.cells cs 39 z)) : RgL w' sb B2 VS ES ∧ RowsApart w' rb sb := by
  obtain ⟨u, hc, hrn, hw⟩ := hf
  have hT : ∀ j, (j = vb2 ∨ j = eb2 ∨ j = rb) → ∀ o s, w.cell? ⟨j, o, none⟩ ≠ Option.some (Value.string s) := by
    rintro j (e | e | e) o s
    · rw [nocell_ve h2 j (.inl e)]; exact fun e => by cases e
    · rw [nocell_ve h2 j (.inr e)]; exact fun e => by cases e
    · exact rg_noText2 hr j e o s
  obtain ⟨⟨va', vc', ea', ec', k1, q1, q2⟩, _, _, _⟩ := hr
  obtain ⟨⟨va, vc, ea, ec, h1, o1, o2⟩, p1, p2, hlt⟩ := h
  have hnc : ∀ (b : Nat) (cs : Array Value) (t : TypeId) (z : Nat × Nat), w.heap[b]? = some (.cells cs t z) → t ≠ 39 → ¬ (b = vb2 ∨ b = eb2 ∨ b = rb) := by
    rintro b cs t z hb ht (e | e | e)
    · exact h2.maps.1 _ _ _ (by rw [← e]; exact hb)
    · exact h2.maps.2 _ _ _ (by rw [← e]; exact hb)
    · rw [e, k1] at hb
      injection hb with hb
      injection hb with _ e2 _
      exact ht e2.symm
  have hsb : ¬ (sb = vb2 ∨ sb = eb2 ∨ sb = rb) := by
    rintro (e | e | e)
    · exact h2.maps.1 _ _ _ (by rw [← e]; exact h1)
    · exact h2.maps.2 _ _ _ (by rw [← e]; exact h1)
    · exact hne e
  have own1 : ∀ {α : Type} {k : RowK Tryz.prog α} {v : Value} {l : List α}, k.Own w B2 v l → k.e ≠ 39 → ∀ j, v.ownBlock = some j → ¬ (j = vb2 ∨ j = eb2 ∨ j = rb) := by
    intro α k v l ho ht j hj
    rcases ho.2 with ⟨hv, _⟩ | ⟨g, cap, cur, hv, _, hg, _⟩
    · rw [hv] at hj; cases hj
    · rw [hv] at hj
      injection hj with hj
      subst hj
      exact hnc _ _ _ _ hg ht
  have hs1 : u.heap[sb]? = some (.cells #[.slice va VS.length vc, .slice ea ES.length ec] 39 (0, 0)) := (hc.block _ (Array.getElem?_eq_some_iff.1 h1).1 hsb).trans h1
  have hu : RgL u sb B2 VS ES := ⟨⟨va, vc, ea, ec, hs1, o1.chg hc (own1 o1 (by decide)), o2.chg hc (own1 o2 (by decide))⟩, fun x hx => (p1 x hx).noText hc hT, fun x hx => (p2 x hx).noText hc hT, hlt⟩
  have hsc : ∀ i, u.cell? ⟨sb, i, none⟩ = w.cell? ⟨sb, i, none⟩ := fun i => by rw [cell_of_blk hs1, cell_of_blk h1]
  have hau : RowsApart u rb sb := fun i i' v v' j hv hv' hj => by
    rw [hsc] at hv'
    rcases hrn i v hv with h | h
    · exact ha i i' v v' j h hv' hj
    · intro hj'
      have hle := h j hj
      have hlt2 : j < w.heap.size := by
        rw [cell_of_blk h1] at hv'
        match i' with
        | 0 =>
          have e : v' = .slice va VS.length vc := by simpa using hv'.symm
          rw [e] at hj'
          exact (o1.lt j hj').2
        | 1 =>
          have e : v' = .slice ea ES.length ec := by simpa using hv'.symm
          rw [e] at hj'
          exact (o2.lt j hj').2
        | i' + 2 => simp at hv'
      omega
  rcases hw with rfl | ⟨p, v, rfl, hp⟩
  · exact ⟨hu, hau⟩
  · have hcp := chg_setAt u p v
    have hsp : sb ≠ p.block := hp.ne hs1 (by decide) (by decide)
    obtain ⟨i0, v0, hi0, hv0⟩ := hp.row
    have hap : ∀ i' v', u.cell? ⟨sb, i', none⟩ = some v' → v'.ownBlock ≠ some p.block := fun i' v' hv' => hau i0 i' v0 v' p.block hi0 hv' hv0
    obtain ⟨⟨va2, vc2, ea2, ec2, g1, g2, g3⟩, g4, g5, g6⟩ := hu
    have hrp : rb ≠ p.block := by
      intro e
      obtain ⟨cs', z', hk2⟩ := hp.blk
      obtain ⟨cs0, z0, hb0⟩ := hr2
      rw [e] at hb0
      rcases hk2 with hk2 | hk2
      · simp [World.setCell, Array.getElem?_modify, hk2] at hb0
      · simp [World.setCell, Array.getElem?_modify, hk2] at hb0
    have hcell : ∀ b i, b ≠ p.block → (u.setCell p v).cell? ⟨b, i, none⟩ = u.cell? ⟨b, i, none⟩ := fun b i hb => World.cell?_setCell_far u p ⟨b, i, none⟩ v (fun e => hb e.symm)
    refine ⟨⟨⟨va2, vc2, ea2, ec2, (hcp.block _ (Array.getElem?_eq_some_iff.1 g1).1 hsp).trans g1, g2.chg hcp (fun j hj e => hap 0 (.slice va2 VS.length vc2) (by rw [cell_of_blk g1]; rfl) (by rw [hj, e])), g3.chg hcp (fun j hj e => hap 1 (.slice ea2 ES.length ec2) (by rw [cell_of_blk g1]; rfl) (by rw [hj, e]))⟩, fun x hx => (g4 x hx).inRow hp.old, fun x hx => (g5 x hx).inRow hp.old, g6⟩, ?_⟩
    intro i i' x x' j hx hx' hj
    rw [hcell _ _ hrp] at hx
    rw [hcell _ _ hsp] at hx'
    exact hau i i' x x' j hx hx' hj
end Go.Proofs.YtonilojjahfboaaGreat
namespace Go.Proofs.YtonilojjahfboaaGreat
open Go.RowKit Go.Maps

theorem RowsNew.trans0 {w u w' : World} {rb : Nat} (h0 : ∀ i, u.cell? ⟨rb, i, none⟩ = w.cell? ⟨rb, i, none⟩) (hs : w.heap.size ≤ u.heap.size) (h : RowsNew u w' rb) : RowsNew w w' rb := fun i v hv => by
  rcases h i v hv with h | h
  · exact .inl (by rw [← h0]; exact h)
  · exact .inr (fun j hj => Nat.le_trans hs (h j hj))
/-- the reference's Drop, as the program's -/
theorem r16drop_same {w : World} {rb B : Nat} {VL : List Vr} {EL : List Er} (h : RgL w rb B VL EL) (hG : PGo (VL.map Vr.v) (EL.map Er.e)) (hB : B ≤ w.heap.size) (edge : Bool) (n : Int) (hvl : VL.length ≤ 1000000) (hel : EL.length ≤ 1000000) :
    Calls Tryz.prog 88 #[.pointer (some ⟨rb, 0, none⟩), .bool edge, .int .i64 n] w fun e w' => ∃ a c VL' EL', e = .returned (.tuple #[.slice a (dropG (VL.map Vr.v) (EL.map Er.e) edge n).2.1.length c, .int .i64 (dropG (VL.map Vr.v) (EL.map Er.e) edge n).1]) ∧ kI.V w' a (dropG (VL.map Vr.v) (EL.map Er.e) edge n).2.1 ∧ RgL w' rb B VL' EL' ∧ VL'.map Vr.v = (dropG (VL.map Vr.v) (EL.map Er.e) edge n).2.2.1 ∧ EL'.map Er.e = (dropG (VL.map Vr.v) (EL.map Er.e) edge n).2.2.2 ∧ Chg w w' (fun i => i = rb) ∧ RowsNew w w' rb := by
  have hmapE : ∀ p : Eg → Bool, (EL.filter (fun x => p x.e)).map Er.e = (EL.map Er.e).filter p := fun p => by rw [List.filter_map]; rfl
  have hmapV : ∀ p : Vt → Bool, (VL.filter (fun x => p x.v)).map Vr.v = (VL.map Vr.v).filter p := fun p => by rw [List.filter_map]; rfl
  have hsame : RowsNew w w rb := fun i v hv => .inl hv
  cases edge
  · refine (r16dropV_any h hB n hvl hel).mono ?_
    intro e w' hp
    unfold RdPost at hp
    cases hf : findB Vt.id (VL.map Vr.v) n with
    | none =>
      rw [if_pos (by show (findB Vt.id (VL.map Vr.v) n).isNone = true; rw [hf]; rfl)] at hp
      obtain ⟨rfl, rfl⟩ := hp
      have hd : dropG (VL.map Vr.v) (EL.map Er.e) false n = (101, [], VL.map Vr.v, EL.map Er.e) := by unfold dropG; simp [hf]
      rw [hd]
      exact ⟨none, 0, VL, EL, rfl, fun e => absurd rfl e, h, rfl, rfl, Chg.refl _ _, hsame⟩
    | some y =>
      rw [if_neg (by show ¬ (findB Vt.id (VL.map Vr.v) n).isNone = true; rw [hf]; simp)] at hp
      obtain ⟨a, c, rfl, ho, hr, hc, hn⟩ := hp
      have hd : dropG (VL.map Vr.v) (EL.map Er.e) false n = (0, idsE (EL.map Er.e) (touchR false n), offB Vt.id (VL.map Vr.v) n, (EL.map Er.e).filter (fun e => !touchR false n e)) := by
        unfold dropG
        simp only [hf, Option.isSome_some, if_true]
        rfl
      rw [hd]
      exact ⟨a, c, _, _, rfl, ho.toV, hr, hmapV (fun v => v.id != n), hmapE (fun e => !touchR false n e), hc, hn⟩
  · refine (r16dropE_any h hB n hvl hel).mono ?_
    intro e w' hp
    unfold RdPost at hp
    cases hf : findB Eg.id (EL.map Er.e) n with
    | none =>
      rw [if_pos (by show (findB Eg.id (EL.map Er.e) n).isNone = true; rw [hf]; rfl)] at hp
      obtain ⟨rfl, rfl⟩ := hp
      have hd : dropG (VL.map Vr.v) (EL.map Er.e) true n = (101, [], VL.map Vr.v, EL.map Er.e) := by unfold dropG; simp [hf]
      rw [hd]
      exact ⟨none, 0, VL, EL, rfl, fun e => absurd rfl e, h, rfl, rfl, Chg.refl _ _, hsame⟩
    | some y =>
      rw [if_neg (by show ¬ (findB Eg.id (EL.map Er.e) n).isNone = true; rw [hf]; simp)] at hp
      obtain ⟨a, c, rfl, ho, hr, hc, hn⟩ := hp
      have hone : idsE (EL.map Er.e) (touchR true n) = [n] := by
        have hy := findB_some hf
        refine incI_uniq (idsE_inc hG.se _) (List.pairwise_singleton _ _) (fun k => ?_)
        rw [List.mem_singleton]
        unfold idsE
        constructor
        · intro hk
          obtain ⟨e, he, rfl⟩ := List.mem_map.1 hk
          have := (List.mem_filter.1 he).2
          simpa [touchR] using this
        · rintro rfl
          exact List.mem_map.2 ⟨y, List.mem_filter.2 ⟨hy.1, by simp [touchR, hy.2]⟩, hy.2⟩
      have hd : dropG (VL.map Vr.v) (EL.map Er.e) true n = (0, [n], VL.map Vr.v, offB Eg.id (EL.map Er.e) n) := by unfold dropG; simp [hf]
      rw [hone] at ho
      rw [hd]
      refine ⟨a, c, _, _, by rw [hone], ho.toV, hr, rfl, ?_, hc, hn⟩
      rw [hmapE (fun e => !touchR true n e)]
      rfl
/-- what an act done to both leaves -/
def DtPost (w : World) (gb vb eb rb B : Nat) (V : List Vt) (E : List Eg) (x : Ac) (e : Ending) (w' : World) : Prop :=
  e = .returned (.bool true) ∧ ∃ VL EL, GrC w' gb vb eb (VL.map Vr.v) (EL.map Er.e) ∧ RgL w' rb B VL EL ∧ (VL.map Vr.v, EL.map Er.e) = stepG V E x ∧ Fr16 w w' vb eb rb
theorem Fr16.add {W w1 w2 : World} {vb eb rb : Nat} (h1 : Chg W w1 (fun i => i = vb ∨ i = eb)) (hz : rb < W.heap.size) (hv : vb ≠ rb ∧ eb ≠ rb) (h2 : Chg w1 w2 (fun i => i = rb)) (hn : RowsNew w1 w2 rb) : Fr16 W w2 vb eb rb := by
  refine ⟨w2, (h1.mono (fun i _ e => by rcases e with e | e; exact .inl e; exact .inr (.inl e))).trans (h2.mono (fun i _ e => .inr (.inr e))) (fun _ _ h => h), hn.trans0 (fun i => ?_) h1.size, .inl rfl⟩
  exact World.cell?_of_block (a := ⟨rb, i, none⟩) (h1.block rb hz (by rintro (e | e); exact hv.1 e.symm; exact hv.2 e.symm))
theorem Fr16.set {W w1 u w2 : World} {vb eb rb : Nat} (h1 : Chg W w1 (fun i => i = vb ∨ i = eb)) (hz : rb < W.heap.size) (hv : vb ≠ rb ∧ eb ≠ rb) (hb : Below w1.heap.size w1 u) (hw : w2 = u ∨ ∃ p v, w2 = u.setCell p v ∧ InRow u rb p) : Fr16 W w2 vb eb rb := by
  have h0 : ∀ i, u.cell? ⟨rb, i, none⟩ = W.cell? ⟨rb, i, none⟩ := fun i => by
    have e1 := World.cell?_of_block (a := ⟨rb, i, none⟩) (h1.block rb hz (by rintro (e | e); exact hv.1 e.symm; exact hv.2 e.symm))
    exact (hb.cell (p := ⟨rb, i, none⟩) (Nat.lt_of_lt_of_le hz h1.size)).trans e1
  exact ⟨u, (h1.mono (fun i _ e => by rcases e with e | e; exact .inl e; exact .inr (.inl e))).trans (Chg.of_below hb (fun _ => False)) (fun _ _ e => e.elim), fun i v hv => .inl (by rw [← h0]; exact hv), hw⟩
theorem Fr16.of_below {w W w' : World} {vb eb rb : Nat} (hb : Below w.heap.size w W) (hr : rb < w.heap.size) (h : Fr16 W w' vb eb rb) : Fr16 w w' vb eb rb := by
  obtain ⟨u, h1, h2, h3⟩ := h
  exact ⟨u, (Chg.of_below hb _).trans h1 (fun _ _ h => h), h2.trans0 (fun i => hb.cell (p := ⟨rb, i, none⟩) hr) hb.size, h3⟩
/-- a block of another type outlives an act -/
theorem Fr16.box {W w' : World} {vb eb rb b : Nat} {cs : Array Value} {t : TypeId} {z : Nat × Nat} (h : Fr16 W w' vb eb rb) (hb : W.heap[b]? = some (.cells cs t z)) (hn : b ≠ vb ∧ b ≠ eb ∧ b ≠ rb) (h1 : t ≠ 28) (h2 : t ≠ 30) : w'.heap[b]? = some (.cells cs t z) := by
  obtain ⟨u, hc, _, hw⟩ := h
  have hu := (hc.block b (Array.getElem?_eq_some_iff.1 hb).1 (by rintro (e | e | e); exact hn.1 e; exact hn.2.1 e; exact hn.2.2 e)).trans hb
  rcases hw with rfl | ⟨p, v, rfl, hp⟩
  · exact hu
  · exact ((chg_setAt u p v).block b (Array.getElem?_eq_some_iff.1 hu).1 (hp.ne hu h1 h2)).trans hu
theorem r16set_any {w : World} {rb B : Nat} {VL : List Vr} {EL : List Er} (h : RgL w rb B VL EL) (hG : PGo (VL.map Vr.v) (EL.map Er.e)) (hB : B ≤ w.heap.size) (edge : Bool) (n : Int) (unset : Bool) (pa ka : Option Addr) (pc kc : Nat) (ps : List Pr) (ks : List ByteArray) (hps : PsV w pa ps) (hpl : ps.length ≤ 10000) (hks : SsV w ka ks) (hkl : ks.length ≤ 1000000) (hvl : VL.length ≤ 1000000) (hel : EL.length ≤ 1000000) :
    Calls Tryz.prog 86 #[.pointer (some ⟨rb, 0, none⟩), .bool edge, .int .i64 n, .slice pa ps.length pc, .slice ka ks.length kc, .bool unset] w (RsPost w rb B (changeG (VL.map Vr.v) (EL.map Er.e) edge n (if unset then dropF ks else setF ps))) := by
  cases edge
  · exact r16setV_any h hG hB n unset pa ka pc kc ps ks hps hpl hks hkl hvl hel
  · exact r16setE_any h hG hB n unset pa ka pc kc ps ks hps hpl hks hkl hvl hel
set_option maxRecDepth 100000 in
set_option maxHeartbeats 8000000 in
theorem does16_any (gb vb eb rb B : Nat) (VL : List Vr) (EL : List Er) (V : List Vt) (E : List Eg) (hVV : V = VL.map Vr.v) (hEE : E = EL.map Er.e) (x : Ac) (w : World) (h : GrC w gb vb eb V E) (hr : RgL w rb B VL EL) (hrs : B ≤ w.heap.size) (hvb : vb < rb) (heb : eb < rb) (hx : AcRaw w x) (hs : x.small = true) (hV : V.length ≤ 1000) (hE : E.length ≤ 1000) :
    Calls Tryz.prog 17 #[.pointer (some ⟨gb, 0, none⟩), .pointer (some ⟨rb, 0, none⟩), .agg #[.int .i64 x.kind, .int .i64 x.id, .bool x.edge, .int .i64 x.v.v.id, .string x.v.v.label, .slice x.v.a x.v.v.ps.length x.v.c, .int .i64 x.e.e.id, .string x.e.e.label, .int .i64 x.e.e.fr, .int .i64 x.e.e.to, .slice x.e.a x.e.e.ps.length x.e.c, .slice x.pa x.ps.length x.pc, .slice x.ka x.ks.length x.kc]] w (DtPost w gb vb eb rb B V E x) := by
  have hrz := hr.size
  have HVE : Hid (V = VL.map Vr.v ∧ E = EL.map Er.e) := Lib.hid ⟨hVV, hEE⟩
  have HNL : Hid (VL.length ≤ 1000 ∧ EL.length ≤ 1000) := Lib.hid ⟨by rw [hVV, List.length_map] at hV; exact hV, by rw [hEE, List.length_map] at hE; exact hE⟩
  have HPG : Hid (PGo (VL.map Vr.v) (EL.map Er.e)) := Lib.hid (by rw [← hVV, ← hEE]; exact h.ok)
  clear hVV hEE
  obtain ⟨hsm, hk10, hl1, hl2⟩ : (smallP x.v.v.ps = true ∧ smallP x.e.e.ps = true ∧ smallP x.ps = true) ∧ x.ks.length ≤ 10 ∧ x.v.v.label.size ≤ 200 ∧ x.e.e.label.size ≤ 200 := by
    unfold Ac.small at hs
    simp only [Bool.and_eq_true, decide_eq_true_eq] at hs
    exact ⟨⟨hs.1.1.1.1.1, hs.1.1.1.1.2, hs.1.1.1.2⟩, hs.1.1.2, hs.1.2, hs.2⟩
  obtain ⟨hs1, hs2, hs3⟩ := hsm
  have n30 : ∀ {l : List Pr}, smallP l = true → l.length ≤ 30 := fun {l} h => (of_decide_eq_true h).1
  obtain ⟨W, hW⟩ : ∃ W, W = w.alloc (.cells #[.int .i64 x.kind, .int .i64 x.id, .bool x.edge, .int .i64 x.v.v.id, .string x.v.v.label, .slice x.v.a x.v.v.ps.length x.v.c, .int .i64 x.e.e.id, .string x.e.e.label, .int .i64 x.e.e.fr, .int .i64 x.e.e.to, .slice x.e.a x.e.e.ps.length x.e.c, .slice x.pa x.ps.length x.pc, .slice x.ka x.ks.length x.kc] 33) := ⟨_, rfl⟩
  have hBW : Below w.heap.size w W := by rw [hW]; exact below_box w _
  obtain ⟨ab, hab⟩ : ∃ b, b = w.heap.size := ⟨_, rfl⟩
  have hbx : AcBox W ab x := by unfold AcBox; rw [hW, hab]; exact heap_new w _
  have HVB := Lib.hid hvb
  have HEB := Lib.hid heb
  have HRS := Lib.hid (Nat.le_trans hrs hBW.size)
  have hgW := h.below hBW
  have hrW := hr.below hBW
  have hxW := hx.below hBW
  have HG := Lib.hid hgW
  have HRN := Lib.hid hrW
  have HX := Lib.hid hxW
  have KBX : Hid (∀ w', Chg W w' (fun i => i = vb ∨ i = eb ∨ i = rb) → w'.cell? ⟨ab, 0, none⟩ = some (.int .i64 x.kind) ∧ w'.cell? ⟨ab, 1, none⟩ = some (.int .i64 x.id) ∧ w'.cell? ⟨ab, 2, none⟩ = some (.bool x.edge) ∧ w'.cell? ⟨ab, 3, none⟩ = some (.int .i64 x.v.v.id) ∧ w'.cell? ⟨ab, 4, none⟩ = some (.string x.v.v.label) ∧ w'.cell? ⟨ab, 5, none⟩ = some (.slice x.v.a x.v.v.ps.length x.v.c) ∧ w'.cell? ⟨ab, 6, none⟩ = some (.int .i64 x.e.e.id) ∧ w'.cell? ⟨ab, 7, none⟩ = some (.string x.e.e.label) ∧ w'.cell? ⟨ab, 8, none⟩ = some (.int .i64 x.e.e.fr) ∧ w'.cell? ⟨ab, 9, none⟩ = some (.int .i64 x.e.e.to) ∧ w'.cell? ⟨ab, 10, none⟩ = some (.slice x.e.a x.e.e.ps.length x.e.c) ∧ w'.cell? ⟨ab, 11, none⟩ = some (.slice x.pa x.ps.length x.pc) ∧ w'.cell? ⟨ab, 12, none⟩ = some (.slice x.ka x.ks.length x.kc) ∧ ab < w'.heap.size) := Lib.hid (fun w' hc => by
    have hl := (Array.getElem?_eq_some_iff.1 hbx).1
    exact AcBox.cells ((hc.block ab hl (by rintro (e | e | e) <;> omega)).trans hbx))
  -- what a write into the maps keeps
  have HSF : Hid (∀ w1, Chg W w1 (fun i => i = vb ∨ i = eb) → PsA w1 x.v.a x.v.c x.v.v.ps ∧ PsA w1 x.e.a x.e.c x.e.e.ps ∧ PsV w1 x.pa x.ps ∧ SsV w1 x.ka x.ks ∧ RgL w1 rb B VL EL ∧ B ≤ w1.heap.size) := Lib.hid (fun w1 hc => by
    have nt : ∀ j, (j = vb ∨ j = eb) → ∀ o s, W.cell? ⟨j, o, none⟩ ≠ some (Value.string s) := fun j hj o s e => by rw [nocell_ve hgW j hj o] at e; cases e
    have a1 : PsA W x.pa (if x.pa = none then 0 else x.pc) (if x.pa = none then [] else x.ps) := by
      cases hp : x.pa with
      | none => exact psA_nil W
      | some a =>
        simp only [reduceCtorEq, if_false]
        have := hxW.pp.small hs3
        rw [hp] at this
        exact ⟨this, fun e => by cases e⟩
    refine ⟨PsA.noText ⟨hxW.vp.small hs1, hxW.vn⟩ hc nt, PsA.noText ⟨hxW.ep.small hs2, hxW.en⟩ hc nt, fun hne => ?_, hxW.kk.noCell hc (nocell_ve hgW), hrW.chg hc (by rintro j (e | e) <;> omega), Nat.le_trans (Nat.le_trans hrs hBW.size) hc.size⟩
    obtain ⟨b, off, e, hat⟩ := (hxW.pp.small hs3) hne
    rw [e] at a1
    simp only [reduceCtorEq, if_false] at a1
    have := (a1.noText hc nt).v hne
    rw [e]; exact this)
  -- what a write into the document's graph keeps
  have HGF : Hid (∀ w1 w2 (V' : List Vt) (E' : List Eg), GrC w1 gb vb eb V' E' → RgL w1 rb B VL EL → Chg w1 w2 (fun i => i = rb) → GrC w2 gb vb eb V' E') := Lib.hid (fun w1 w2 V' E' g1 r1 hc => g1.noText hc (rg_type r1 g1) (rg_noText2 r1))
  have CH1 : Hid (∀ w1, Chg W w1 (fun i => i = vb ∨ i = eb) → Chg W w1 (fun i => i = vb ∨ i = eb ∨ i = rb)) := Lib.hid (fun w1 hc => hc.mono (fun i _ e => by rcases e with e | e; exact .inl e; exact .inr (.inl e)))
  have CH2 : Hid (∀ w1 w2, Chg W w1 (fun i => i = vb ∨ i = eb) → Chg w1 w2 (fun i => i = rb) → Chg W w2 (fun i => i = vb ∨ i = eb ∨ i = rb)) := Lib.hid (fun w1 w2 hc hc2 => (hc.mono (fun i _ e => by rcases e with e | e; exact .inl e; exact .inr (.inl e))).trans (hc2.mono (fun i _ e => .inr (.inr e))) (fun _ _ h => h))
  have CHW : Hid (∀ w2, Chg W w2 (fun i => i = vb ∨ i = eb ∨ i = rb) → Chg w w2 (fun i => i = vb ∨ i = eb ∨ i = rb)) := Lib.hid (fun w2 hc => (Chg.of_below hBW _).trans hc (fun _ _ h => h))
  have HNB : Hid (rb < W.heap.size ∧ vb ≠ rb ∧ eb ≠ rb) := Lib.hid ⟨Nat.lt_of_lt_of_le hrz hBW.size, by omega, by omega⟩
  have KBF : Hid (∀ w', Fr16 W w' vb eb rb → AcBox w' ab x) := Lib.hid (fun w' hf => hf.box hbx ⟨by omega, by omega, by omega⟩ (by decide) (by decide))
  have HFW : Hid (∀ w', Fr16 W w' vb eb rb → Fr16 w w' vb eb rb) := Lib.hid (fun w' hf => hf.of_below hBW hrz)
  have HN1 := Lib.hid (n30 hs1)
  have HN2 := Lib.hid (n30 hs2)
  have HN3 := Lib.hid (n30 hs3)
  have HK10 := Lib.hid hk10
  have HL1 := Lib.hid hl1
  have HL2 := Lib.hid hl2
  have HVL : Hid (V.length < maxLen) := Lib.hid (by unfold maxLen; omega)
  have HEL : Hid (E.length < maxLen) := Lib.hid (by unfold maxLen; omega)
  have HE1 := Lib.hid hE
  have HW := Lib.hid hW
  have HAB := Lib.hid hab
  have hbd : Chg W W.drew (fun i => i = vb ∨ i = eb) := (Chg.refl W _).drew
  have HGD := Lib.hid (hgW.below (below_drewN (Below.refl _ _) 1))
  have HS0 := Lib.hid (KBX.out W.drew ((Chg.refl W _).drew))
  have HSD := Lib.hid (HSF.out _ hbd)
  obtain ⟨p0, p1, p2, p3, p4, p5, p6, p7, p8, p9, p10, p11, p12, pl⟩ := KBX.out W (Chg.refl _ _)
  have HBD := Lib.hid hbd
  clear hrz h hr hrs hvb heb hx hs hV hE hs1 hs2 hs3 hk10 hl1 hl2 n30 hgW hrW hxW hW hBW hab hbx hbd
  by_cases k0 : x.kind = 0
  · have n0 : (x.kind == 0) = true := by simpa using k0
    have HST : Hid (stepG V E x = ((addV V x.v.v).2, E)) := Lib.hid (by unfold stepG; simp only [k0]; first | rfl | (simp; done))
    clear k0
    go_enter Tryz.func17, Tryz.ntmps17
    go_upto_region 1 with fail
    rw [← HW.out, ← HAB.out]
    go_upto_region 3 with fail
    have hc1 := gaddV_any gb vb eb V E x.v.v x.v.a x.v.c W.drew HGD.out HSD.out.1 (by have := HN1.out; omega) HX.out.vi HX.out.vs HVL.out
    unfold Vt.val at hc1
    have HC1 := Lib.hid hc1
    clear hc1
    go_region_held3 (fun w' => w'.cell? ⟨ab, 0, none⟩ = some (.int .i64 x.kind) ∧ w'.cell? ⟨ab, 1, none⟩ = some (.int .i64 x.id) ∧ w'.cell? ⟨ab, 2, none⟩ = some (.bool x.edge) ∧ w'.cell? ⟨ab, 3, none⟩ = some (.int .i64 x.v.v.id) ∧ w'.cell? ⟨ab, 4, none⟩ = some (.string x.v.v.label) ∧ w'.cell? ⟨ab, 5, none⟩ = some (.slice x.v.a x.v.v.ps.length x.v.c) ∧ w'.cell? ⟨ab, 6, none⟩ = some (.int .i64 x.e.e.id) ∧ w'.cell? ⟨ab, 7, none⟩ = some (.string x.e.e.label) ∧ w'.cell? ⟨ab, 8, none⟩ = some (.int .i64 x.e.e.fr) ∧ w'.cell? ⟨ab, 9, none⟩ = some (.int .i64 x.e.e.to) ∧ w'.cell? ⟨ab, 10, none⟩ = some (.slice x.e.a x.e.e.ps.length x.e.c) ∧ w'.cell? ⟨ab, 11, none⟩ = some (.slice x.pa x.ps.length x.pc) ∧ w'.cell? ⟨ab, 12, none⟩ = some (.slice x.ka x.ks.length x.kc) ∧ ab < w'.heap.size)
      (first | exact HS0.out | exact HSA.out | exact HSB.out)
      (first | (go_at_call 79; (with_reducible refine HC1.out.mono ?_); rintro e w1 ⟨rfl, hg1, hc1⟩; have HG1 := Lib.hid hg1; have HCH1 := Lib.hid (HBD.out.trans (hc1.mono (fun i _ e => .inl e)) (fun _ _ h => h)); have HSA := Lib.hid (KBX.out w1 (CH1.out _ HCH1.out)); have HR1 := Lib.hid (HSF.out w1 HCH1.out); clear hg1 hc1) | (go_at_call 83; have hq := r16addVN_any x.v.v x.v.a x.v.c HR1.out.2.2.2.2.1 HR1.out.2.2.2.2.2 HR1.out.1 (by have := HN1.out; omega) HX.out.vi (by have := HL1.out; omega) (by have := HNL.out; omega) (by have := HNL.out; omega); unfold Vt.val RavPostN at hq; rw [← HVE.out.1, ← HVE.out.2] at hq; (with_reducible refine hq.mono ?_); clear hq; rintro e w2 ⟨rfl, ⟨VL2, EL2, hr2, hv2, he2⟩, hc2, hn2⟩; have HFR := Lib.hid (Fr16.add HCH1.out HNB.out.1 HNB.out.2 hc2 hn2); have HSB := Lib.hid (KBF.out w2 HFR.out).cells; have HRES : Hid (∃ VL EL, GrC w2 gb vb eb (VL.map Vr.v) (EL.map Er.e) ∧ RgL w2 rb B VL EL ∧ (VL.map Vr.v, EL.map Er.e) = stepG V E x ∧ Fr16 w w2 vb eb rb) := Lib.hid ⟨VL2, EL2, by rw [hv2, he2]; exact HGF.out w1 w2 _ _ HG1.out HR1.out.2.2.2.2.1 hc2, hr2, by rw [hv2, he2, HST.out], HFW.out _ HFR.out⟩; clear hr2 hc2 hn2 hv2 he2) | fail)
    all_goals
      go_wp2_with fail
      go_ret
      exact ⟨by first | rfl | simp, HRES.out⟩
  have n0 : (x.kind == 0) = false := by simpa using k0
  by_cases k1 : x.kind = 1
  · have n1 : (x.kind == 1) = true := by simpa using k1
    have HST : Hid (stepG V E x = (V, (addE V E x.e.e).2)) := Lib.hid (by unfold stepG; simp only [k1]; first | rfl | (simp; done))
    clear k1
    go_enter Tryz.func17, Tryz.ntmps17
    go_upto_region 1 with fail
    rw [← HW.out, ← HAB.out]
    go_upto_region 5 with fail
    have hc1 := gaddE_any gb vb eb V E x.e.e x.e.a x.e.c W.drew HGD.out HSD.out.2.1 (by have := HN2.out; omega) HX.out.ei HX.out.es HEL.out
    unfold Eg.val at hc1
    have HC1 := Lib.hid hc1
    clear hc1
    go_region_held3 (fun w' => w'.cell? ⟨ab, 0, none⟩ = some (.int .i64 x.kind) ∧ w'.cell? ⟨ab, 1, none⟩ = some (.int .i64 x.id) ∧ w'.cell? ⟨ab, 2, none⟩ = some (.bool x.edge) ∧ w'.cell? ⟨ab, 3, none⟩ = some (.int .i64 x.v.v.id) ∧ w'.cell? ⟨ab, 4, none⟩ = some (.string x.v.v.label) ∧ w'.cell? ⟨ab, 5, none⟩ = some (.slice x.v.a x.v.v.ps.length x.v.c) ∧ w'.cell? ⟨ab, 6, none⟩ = some (.int .i64 x.e.e.id) ∧ w'.cell? ⟨ab, 7, none⟩ = some (.string x.e.e.label) ∧ w'.cell? ⟨ab, 8, none⟩ = some (.int .i64 x.e.e.fr) ∧ w'.cell? ⟨ab, 9, none⟩ = some (.int .i64 x.e.e.to) ∧ w'.cell? ⟨ab, 10, none⟩ = some (.slice x.e.a x.e.e.ps.length x.e.c) ∧ w'.cell? ⟨ab, 11, none⟩ = some (.slice x.pa x.ps.length x.pc) ∧ w'.cell? ⟨ab, 12, none⟩ = some (.slice x.ka x.ks.length x.kc) ∧ ab < w'.heap.size)
      (first | exact HS0.out | exact HSA.out | exact HSB.out)
      (first | (go_at_call 80; (with_reducible refine HC1.out.mono ?_); rintro e w1 ⟨rfl, hg1, hc1⟩; have HG1 := Lib.hid hg1; have HCH1 := Lib.hid (HBD.out.trans (hc1.mono (fun i _ e => .inr e)) (fun _ _ h => h)); have HSA := Lib.hid (KBX.out w1 (CH1.out _ HCH1.out)); have HR1 := Lib.hid (HSF.out w1 HCH1.out); clear hg1 hc1) | (go_at_call 84; have hq := r16addEN_any x.e.e x.e.a x.e.c HR1.out.2.2.2.2.1 HR1.out.2.2.2.2.2 HR1.out.2.1 (by have := HN2.out; omega) HX.out.ei (by have := HL2.out; omega) (by have := HNL.out; omega) (by have := HNL.out; omega); unfold Eg.val RaePostN at hq; rw [← HVE.out.1, ← HVE.out.2] at hq; (with_reducible refine hq.mono ?_); clear hq; rintro e w2 ⟨rfl, ⟨VL2, EL2, hr2, hv2, he2⟩, hc2, hn2⟩; have HFR := Lib.hid (Fr16.add HCH1.out HNB.out.1 HNB.out.2 hc2 hn2); have HSB := Lib.hid (KBF.out w2 HFR.out).cells; have HRES : Hid (∃ VL EL, GrC w2 gb vb eb (VL.map Vr.v) (EL.map Er.e) ∧ RgL w2 rb B VL EL ∧ (VL.map Vr.v, EL.map Er.e) = stepG V E x ∧ Fr16 w w2 vb eb rb) := Lib.hid ⟨VL2, EL2, by rw [hv2, he2]; exact HGF.out w1 w2 _ _ HG1.out HR1.out.2.2.2.2.1 hc2, hr2, by rw [hv2, he2, HST.out], HFW.out _ HFR.out⟩; clear hr2 hc2 hn2 hv2 he2) | fail)
    all_goals
      go_wp2_with fail
      go_ret
      exact ⟨by first | rfl | simp, HRES.out⟩
  have n1 : (x.kind == 1) = false := by simpa using k1
  by_cases k2 : x.kind = 2
  · have n2 : (x.kind == 2) = true := by simpa using k2
    have HST : Hid (stepG V E x = (changeG V E x.edge x.id (setF x.ps)).2) := Lib.hid (by unfold stepG; simp only [k2]; first | rfl | (simp; done))
    clear k2
    go_enter Tryz.func17, Tryz.ntmps17
    go_upto_region 1 with fail
    rw [← HW.out, ← HAB.out]
    go_upto_region 7 with fail
    have hc1 := gset_any gb vb eb V E x.edge x.id x.pa x.pc x.ps W.drew HGD.out HX.out.id HVL.out HEL.out HSD.out.2.2.1 (by have := HN3.out; omega)
    skip
    have HC1 := Lib.hid hc1
    clear hc1
    go_region_held3 (fun w' => w'.cell? ⟨ab, 0, none⟩ = some (.int .i64 x.kind) ∧ w'.cell? ⟨ab, 1, none⟩ = some (.int .i64 x.id) ∧ w'.cell? ⟨ab, 2, none⟩ = some (.bool x.edge) ∧ w'.cell? ⟨ab, 3, none⟩ = some (.int .i64 x.v.v.id) ∧ w'.cell? ⟨ab, 4, none⟩ = some (.string x.v.v.label) ∧ w'.cell? ⟨ab, 5, none⟩ = some (.slice x.v.a x.v.v.ps.length x.v.c) ∧ w'.cell? ⟨ab, 6, none⟩ = some (.int .i64 x.e.e.id) ∧ w'.cell? ⟨ab, 7, none⟩ = some (.string x.e.e.label) ∧ w'.cell? ⟨ab, 8, none⟩ = some (.int .i64 x.e.e.fr) ∧ w'.cell? ⟨ab, 9, none⟩ = some (.int .i64 x.e.e.to) ∧ w'.cell? ⟨ab, 10, none⟩ = some (.slice x.e.a x.e.e.ps.length x.e.c) ∧ w'.cell? ⟨ab, 11, none⟩ = some (.slice x.pa x.ps.length x.pc) ∧ w'.cell? ⟨ab, 12, none⟩ = some (.slice x.ka x.ks.length x.kc) ∧ ab < w'.heap.size)
      (first | exact HS0.out | exact HSA.out | exact HSB.out)
      (first | (go_at_call 85; (with_reducible refine HC1.out.mono ?_); rintro e w1 ⟨rfl, hg1, hc1⟩; have HG1 := Lib.hid hg1; have HCH1 := Lib.hid (HBD.out.trans (hc1.mono (fun i _ e => e)) (fun _ _ h => h)); have HSA := Lib.hid (KBX.out w1 (CH1.out _ HCH1.out)); have HR1 := Lib.hid (HSF.out w1 HCH1.out); clear hg1 hc1) | (go_at_call 86; have hq := r16set_any HR1.out.2.2.2.2.1 HPG.out HR1.out.2.2.2.2.2 x.edge x.id false x.pa none x.pc 0 x.ps [] HR1.out.2.2.1 (by have := HN3.out; omega) (fun e => absurd rfl e) (by simp) (by have := HNL.out; omega) (by have := HNL.out; omega); unfold RsPost at hq; rw [← HVE.out.1, ← HVE.out.2] at hq; simp only [Bool.false_eq_true, if_false, if_true, List.length_nil] at hq; (with_reducible refine hq.mono ?_); clear hq; rintro e w2 ⟨rfl, u2, VL2, EL2, hb2, hw2, hr2, hv2, he2⟩; have HFR := Lib.hid (Fr16.set HCH1.out HNB.out.1 HNB.out.2 hb2 hw2); have HSB := Lib.hid (KBF.out w2 HFR.out).cells; have HRES : Hid (∃ VL EL, GrC w2 gb vb eb (VL.map Vr.v) (EL.map Er.e) ∧ RgL w2 rb B VL EL ∧ (VL.map Vr.v, EL.map Er.e) = stepG V E x ∧ Fr16 w w2 vb eb rb) := Lib.hid ⟨VL2, EL2, by (rw [hv2, he2]; rcases hw2 with rfl | ⟨p, v, rfl, hp⟩; exact HG1.out.below hb2; exact (HG1.out.below hb2).inRow hp), hr2, by rw [hv2, he2, HST.out], HFW.out _ HFR.out⟩; clear hr2 hb2 hw2 hv2 he2) | fail)
    all_goals
      go_wp2_with fail
      go_ret
      exact ⟨by first | rfl | simp, HRES.out⟩
  have n2 : (x.kind == 2) = false := by simpa using k2
  by_cases k3 : x.kind = 3
  · have n3 : (x.kind == 3) = true := by simpa using k3
    have HST : Hid (stepG V E x = (changeG V E x.edge x.id (dropF x.ks)).2) := Lib.hid (by unfold stepG; simp only [k3]; first | rfl | (simp; done))
    clear k3
    go_enter Tryz.func17, Tryz.ntmps17
    go_upto_region 1 with fail
    rw [← HW.out, ← HAB.out]
    go_upto_region 9 with fail
    have hc1 := gunset_any gb vb eb V E x.edge x.id x.ka x.kc x.ks W.drew HGD.out HX.out.id HVL.out HEL.out HSD.out.2.2.2.1 (by have := HK10.out; omega)
    skip
    have HC1 := Lib.hid hc1
    clear hc1
    go_region_held3 (fun w' => w'.cell? ⟨ab, 0, none⟩ = some (.int .i64 x.kind) ∧ w'.cell? ⟨ab, 1, none⟩ = some (.int .i64 x.id) ∧ w'.cell? ⟨ab, 2, none⟩ = some (.bool x.edge) ∧ w'.cell? ⟨ab, 3, none⟩ = some (.int .i64 x.v.v.id) ∧ w'.cell? ⟨ab, 4, none⟩ = some (.string x.v.v.label) ∧ w'.cell? ⟨ab, 5, none⟩ = some (.slice x.v.a x.v.v.ps.length x.v.c) ∧ w'.cell? ⟨ab, 6, none⟩ = some (.int .i64 x.e.e.id) ∧ w'.cell? ⟨ab, 7, none⟩ = some (.string x.e.e.label) ∧ w'.cell? ⟨ab, 8, none⟩ = some (.int .i64 x.e.e.fr) ∧ w'.cell? ⟨ab, 9, none⟩ = some (.int .i64 x.e.e.to) ∧ w'.cell? ⟨ab, 10, none⟩ = some (.slice x.e.a x.e.e.ps.length x.e.c) ∧ w'.cell? ⟨ab, 11, none⟩ = some (.slice x.pa x.ps.length x.pc) ∧ w'.cell? ⟨ab, 12, none⟩ = some (.slice x.ka x.ks.length x.kc) ∧ ab < w'.heap.size)
      (first | exact HS0.out | exact HSA.out | exact HSB.out)
      (first | (go_at_call 87; (with_reducible refine HC1.out.mono ?_); rintro e w1 ⟨rfl, hg1, hc1⟩; have HG1 := Lib.hid hg1; have HCH1 := Lib.hid (HBD.out.trans (hc1.mono (fun i _ e => e)) (fun _ _ h => h)); have HSA := Lib.hid (KBX.out w1 (CH1.out _ HCH1.out)); have HR1 := Lib.hid (HSF.out w1 HCH1.out); clear hg1 hc1) | (go_at_call 86; have hq := r16set_any HR1.out.2.2.2.2.1 HPG.out HR1.out.2.2.2.2.2 x.edge x.id true none x.ka 0 x.kc [] x.ks (fun e => absurd rfl e) (by simp) HR1.out.2.2.2.1 (by have := HK10.out; omega) (by have := HNL.out; omega) (by have := HNL.out; omega); unfold RsPost at hq; rw [← HVE.out.1, ← HVE.out.2] at hq; simp only [Bool.false_eq_true, if_false, if_true, List.length_nil] at hq; (with_reducible refine hq.mono ?_); clear hq; rintro e w2 ⟨rfl, u2, VL2, EL2, hb2, hw2, hr2, hv2, he2⟩; have HFR := Lib.hid (Fr16.set HCH1.out HNB.out.1 HNB.out.2 hb2 hw2); have HSB := Lib.hid (KBF.out w2 HFR.out).cells; have HRES : Hid (∃ VL EL, GrC w2 gb vb eb (VL.map Vr.v) (EL.map Er.e) ∧ RgL w2 rb B VL EL ∧ (VL.map Vr.v, EL.map Er.e) = stepG V E x ∧ Fr16 w w2 vb eb rb) := Lib.hid ⟨VL2, EL2, by (rw [hv2, he2]; rcases hw2 with rfl | ⟨p, v, rfl, hp⟩; exact HG1.out.below hb2; exact (HG1.out.below hb2).inRow hp), hr2, by rw [hv2, he2, HST.out], HFW.out _ HFR.out⟩; clear hr2 hb2 hw2 hv2 he2) | fail)
    all_goals
      go_wp2_with fail
      go_ret
      exact ⟨by first | rfl | simp, HRES.out⟩
  have n3 : (x.kind == 3) = false := by simpa using k3
  by_cases k4 : x.kind = 4
  · have n4 : (x.kind == 4) = true := by simpa using k4
    have HST : Hid (stepG V E x = ((dropG V E x.edge x.id).2.2.1, (dropG V E x.edge x.id).2.2.2)) := Lib.hid (by unfold stepG; simp only [k4]; first | rfl | (simp; done))
    clear k4
    obtain ⟨z, hz⟩ : ∃ z, z = (dropG V E x.edge x.id).1 := ⟨_, rfl⟩
    obtain ⟨gl, hgl⟩ : ∃ z, z = (dropG V E x.edge x.id).2.1 := ⟨_, rfl⟩
    have hd := gdrop_any gb vb eb V E x.edge x.id W HG.out HX.out.id (by have := HE1.out; omega)
    unfold DpPost at hd
    rw [← hz, ← hgl] at hd
    have HD := Lib.hid hd
    have HGL := Lib.hid hgl
    have HZL := Lib.hid hz
    clear hz hgl hd
    go_enter Tryz.func17, Tryz.ntmps17
    go_upto_region 1 with fail
    rw [← HW.out, ← HAB.out]
    go_wp2_with fail
    refine HD.out.mono ?_
    rintro e w1 ⟨v, rfl, ho, hg1, hc1⟩
    have HG1 := Lib.hid hg1
    have HCH1 := Lib.hid hc1
    have HO1 := Lib.hid ho
    have HR1 := Lib.hid (HSF.out w1 hc1)
    clear p0 p1 p2 p3 p4 p5 p6 p7 p8 p9 p10 p11 p12 pl ho hg1
    obtain ⟨p0, p1, p2, p3, p4, p5, p6, p7, p8, p9, p10, p11, p12, pl⟩ := KBX.out w1 (CH1.out _ hc1)
    clear hc1
    have hq := r16drop_same HR1.out.2.2.2.2.1 HPG.out HR1.out.2.2.2.2.2 x.edge x.id (by have := HNL.out; omega) (by have := HNL.out; omega)
    rw [← HVE.out.1, ← HVE.out.2, ← HZL.out, ← HGL.out] at hq
    have HQ := Lib.hid hq
    clear hq
    go_upto_region 13 with (go_at_call 88; (with_reducible refine HQ.out.mono ?_); rintro e w2 ⟨a6, c6, VL2, EL2, rfl, hv6, hr2, hv2, he2, hc2, hn2⟩; have HFR := Lib.hid (Fr16.add HCH1.out HNB.out.1 HNB.out.2 hc2 hn2); have HV6 := Lib.hid hv6; have HRES : Hid (∃ VL EL, GrC w2 gb vb eb (VL.map Vr.v) (EL.map Er.e) ∧ RgL w2 rb B VL EL ∧ (VL.map Vr.v, EL.map Er.e) = stepG V E x ∧ Fr16 W w2 vb eb rb) := Lib.hid ⟨VL2, EL2, by rw [hv2, he2]; exact HGF.out w1 w2 _ _ HG1.out HR1.out.2.2.2.2.1 hc2, hr2, by rw [hv2, he2, HST.out], HFR.out⟩; have HC2 := Lib.hid hc2; have HN2R := Lib.hid hn2; clear hv6 hr2 hv2 he2 hc2 hn2)
    obtain ⟨a5, c5, rfl⟩ := HO1.out.shape
    have t1 : (z == z) = true := by simp
    have HO2 : Hid (kI.V w2 a5 gl) := Lib.hid (RowK.Own.toV (HO1.out.chg HC2.out (fun j hj e => by have := (HO1.out.lt j hj).1; have := HNB.out.1; omega)))
    have HI := Lib.hid (ints10_any a5 a6 c5 c6 gl gl w2 HO2.out HV6.out (by
      have h1 := dropG_len V E x.edge x.id
      rw [← HGL.out] at h1
      have := HE1.out
      omega))
    rw [decide_eq_true (rfl : gl = gl)] at HI
    go_wp2_with fail
    refine HI.out.mono ?_
    rintro e w3 ⟨rfl, hb3⟩
    have HF3 : Hid (∃ VL EL, GrC w3 gb vb eb (VL.map Vr.v) (EL.map Er.e) ∧ RgL w3 rb B VL EL ∧ (VL.map Vr.v, EL.map Er.e) = stepG V E x ∧ Fr16 w w3 vb eb rb) := Lib.hid (by
      obtain ⟨VL2, EL2, g1, g2, g3, g4⟩ := HRES.out
      exact ⟨VL2, EL2, g1.below hb3, g2.below hb3, g3, HFW.out _ (Fr16.add HCH1.out HNB.out.1 HNB.out.2 (HC2.out.trans (Chg.of_below hb3 _) (fun _ _ h => h)) (fun i v hv => HN2R.out i v (by rw [← hb3.cell (p := ⟨rb, i, none⟩) (Nat.lt_of_lt_of_le HNB.out.1 (Nat.le_trans HCH1.out.size HC2.out.size))]; exact hv)))⟩)
    clear hb3
    go_wp2_with fail
    go_ret
    exact ⟨by first | rfl | simp, HF3.out⟩
  have n4 : (x.kind == 4) = false := by simpa using k4
  have HST : Hid (stepG V E x = (V, E)) := Lib.hid (by unfold stepG; rw [if_neg k0, if_neg k1, if_neg k2, if_neg k3, if_neg k4])
  go_enter Tryz.func17, Tryz.ntmps17
  go_upto_region 1 with fail
  rw [← HW.out, ← HAB.out]
  go_wp2_with fail
  go_ret
  exact ⟨rfl, VL, EL, by rw [← HVE.out.1, ← HVE.out.2]; exact HG.out, HRN.out, by rw [HST.out, ← HVE.out.1, ← HVE.out.2], HFW.out _ (Fr16.set (Chg.refl W _) HNB.out.1 HNB.out.2 (Below.refl _ _) (.inl rfl))⟩
end Go.Proofs.YtonilojjahfboaaGreat
