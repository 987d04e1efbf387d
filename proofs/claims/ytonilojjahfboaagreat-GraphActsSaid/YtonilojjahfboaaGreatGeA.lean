/- Acts upon a graph, in memory; which are small. Conditions: each contract's own premises. Set and Drop of the document's empty graph; a graph stays where blocks with no text of properties are written. Conditions: each contract's own premises. An act done to a graph and to the document's empty one. Conditions: the contract's own premises. GraphEnds: each edge stands once in the lists of its ends. Conditions: the law's own premises. -/
import Derived.Test.YtonilojjahfboaaGreatPgA
import Derived.Test.YtonilojjahfboaaGreatGc7
import Derived.Test.YtonilojjahfboaaGreatRg3
import Derived.Test.YtonilojjahfboaaGreatGs3
import Derived.Test.YtonilojjahfboaaGreatGjA
import Derived.Test.YtonilojjahfboaaGreatPb5
import Derived.Test.YtonilojjahfboaaGreatGi5
namespace Go.Proofs.YtonilojjahfboaaGreat
open Go.RowKit Go.Maps

/-- an act -/
structure Ac where
  kind : Int
  id : Int
  edge : Bool
  v : Vr
  e : Er
  pa : Option Addr
  pc : Nat
  ps : List Pr
  ka : Option Addr
  kc : Nat
  ks : List ByteArray
def Ac.enc (x : Ac) : List Value := [.int .i64 x.kind, .int .i64 x.id, .bool x.edge, .int .i64 x.v.v.id, .string x.v.v.label, .slice x.v.a x.v.v.ps.length x.v.c, .int .i64 x.e.e.id, .string x.e.e.label, .int .i64 x.e.e.fr, .int .i64 x.e.e.to, .slice x.e.a x.e.e.ps.length x.e.c, .slice x.pa x.ps.length x.pc, .slice x.ka x.ks.length x.kc]
theorem infoAc : (Tryz.prog.info? 33).map (fun i => (i.zero, i.size, i.bytes)) = some (some (.agg #[.int .i64 0, .int .i64 0, .bool false, .int .i64 0, .string ByteArray.empty, .slice none 0 0, .int .i64 0, .string ByteArray.empty, .int .i64 0, .int .i64 0, .slice none 0 0, .slice none 0 0, .slice none 0 0]), 13, 184) := by kernel_rfl
def kAc : RowK Tryz.prog Ac where
  t := 22
  e := 33
  size := 13
  bytes := 184
  z := .agg #[.int .i64 0, .int .i64 0, .bool false, .int .i64 0, .string ByteArray.empty, .slice none 0 0, .int .i64 0, .string ByteArray.empty, .int .i64 0, .int .i64 0, .slice none 0 0, .slice none 0 0, .slice none 0 0]
  enc := Ac.enc
  ht := Tryz.underlying22
  info := infoAc
  hz := rfl
  pos := by decide
  small := by decide
  len := fun _ => rfl
  one := fun x u hu => by
    simp [Ac.enc] at hu
    rcases hu with rfl | rfl | rfl | rfl | rfl | rfl | rfl | rfl | rfl | rfl | rfl | rfl | rfl <;> rfl
/-- an act as it comes in -/
structure AcRaw (w : World) (x : Ac) : Prop where
  kind : I64 x.kind
  id : I64 x.id
  vp : PrV w x.v.a x.v.v.ps
  vn : x.v.a = none → x.v.c = 0 ∧ x.v.v.ps = []
  vl : x.v.v.ps.length ≤ maxLen
  vi : I64 x.v.v.id
  vs : x.v.v.label.size ≤ maxLen
  ep : PrV w x.e.a x.e.e.ps
  en : x.e.a = none → x.e.c = 0 ∧ x.e.e.ps = []
  el : x.e.e.ps.length ≤ maxLen
  ei : I64 x.e.e.id ∧ I64 x.e.e.fr ∧ I64 x.e.e.to
  es : x.e.e.label.size ≤ maxLen
  pp : PrV w x.pa x.ps
  pl : x.ps.length ≤ maxLen
  kk : SsV w x.ka x.ks
  kl : x.ks.length ≤ maxLen
theorem AcRaw.below {w w' : World} {x : Ac} (h : AcRaw w x) (hb : Below w.heap.size w w') : AcRaw w' x :=
  ⟨h.kind, h.id, h.vp.below hb, h.vn, h.vl, h.vi, h.vs, h.ep.below hb, h.en, h.el, h.ei, h.es, h.pp.below hb, h.pl, h.kk.below hb, h.kl⟩
def Ac.small (x : Ac) : Bool := smallP x.v.v.ps && smallP x.e.e.ps && smallP x.ps && decide (x.ks.length ≤ 10) && decide (x.v.v.label.size ≤ 200) && decide (x.e.e.label.size ≤ 200)
/-- an act's box -/
def AcBox (w : World) (ab : Nat) (x : Ac) : Prop := w.heap[ab]? = some (.cells #[.int .i64 x.kind, .int .i64 x.id, .bool x.edge, .int .i64 x.v.v.id, .string x.v.v.label, .slice x.v.a x.v.v.ps.length x.v.c, .int .i64 x.e.e.id, .string x.e.e.label, .int .i64 x.e.e.fr, .int .i64 x.e.e.to, .slice x.e.a x.e.e.ps.length x.e.c, .slice x.pa x.ps.length x.pc, .slice x.ka x.ks.length x.kc] 33 (0, 0))
theorem AcBox.cells {w' : World} {ab : Nat} {x : Ac} (h : AcBox w' ab x) : w'.cell? ⟨ab, 0, none⟩ = some (.int .i64 x.kind) ∧ w'.cell? ⟨ab, 1, none⟩ = some (.int .i64 x.id) ∧ w'.cell? ⟨ab, 2, none⟩ = some (.bool x.edge) ∧ w'.cell? ⟨ab, 3, none⟩ = some (.int .i64 x.v.v.id) ∧ w'.cell? ⟨ab, 4, none⟩ = some (.string x.v.v.label) ∧ w'.cell? ⟨ab, 5, none⟩ = some (.slice x.v.a x.v.v.ps.length x.v.c) ∧ w'.cell? ⟨ab, 6, none⟩ = some (.int .i64 x.e.e.id) ∧ w'.cell? ⟨ab, 7, none⟩ = some (.string x.e.e.label) ∧ w'.cell? ⟨ab, 8, none⟩ = some (.int .i64 x.e.e.fr) ∧ w'.cell? ⟨ab, 9, none⟩ = some (.int .i64 x.e.e.to) ∧ w'.cell? ⟨ab, 10, none⟩ = some (.slice x.e.a x.e.e.ps.length x.e.c) ∧ w'.cell? ⟨ab, 11, none⟩ = some (.slice x.pa x.ps.length x.pc) ∧ w'.cell? ⟨ab, 12, none⟩ = some (.slice x.ka x.ks.length x.kc) ∧ ab < w'.heap.size := by
  unfold AcBox at h
  exact ⟨by rw [cell_of_blk h]; rfl, by rw [cell_of_blk h]; rfl, by rw [cell_of_blk h]; rfl, by rw [cell_of_blk h]; rfl, by rw [cell_of_blk h]; rfl, by rw [cell_of_blk h]; rfl, by rw [cell_of_blk h]; rfl, by rw [cell_of_blk h]; rfl, by rw [cell_of_blk h]; rfl, by rw [cell_of_blk h]; rfl, by rw [cell_of_blk h]; rfl, by rw [cell_of_blk h]; rfl, by rw [cell_of_blk h]; rfl, (Array.getElem?_eq_some_iff.1 h).1⟩
set_option maxRecDepth 100000 in
set_option maxHeartbeats 4000000 in
theorem small16_any (x : Ac) (w : World) (h : AcRaw w x) : Calls Tryz.prog 16 #[.agg #[.int .i64 x.kind, .int .i64 x.id, .bool x.edge, .int .i64 x.v.v.id, .string x.v.v.label, .slice x.v.a x.v.v.ps.length x.v.c, .int .i64 x.e.e.id, .string x.e.e.label, .int .i64 x.e.e.fr, .int .i64 x.e.e.to, .slice x.e.a x.e.e.ps.length x.e.c, .slice x.pa x.ps.length x.pc, .slice x.ka x.ks.length x.kc]] w fun e w' => e = .returned (.bool x.small) ∧ Below w.heap.size w w' := by
  obtain ⟨W, hW⟩ : ∃ W, W = w.alloc (.cells #[.int .i64 x.kind, .int .i64 x.id, .bool x.edge, .int .i64 x.v.v.id, .string x.v.v.label, .slice x.v.a x.v.v.ps.length x.v.c, .int .i64 x.e.e.id, .string x.e.e.label, .int .i64 x.e.e.fr, .int .i64 x.e.e.to, .slice x.e.a x.e.e.ps.length x.e.c, .slice x.pa x.ps.length x.pc, .slice x.ka x.ks.length x.kc] 33) := ⟨_, rfl⟩
  have hBW : Below w.heap.size w W := by rw [hW]; exact below_box w _
  obtain ⟨ab, hab⟩ : ∃ b, b = w.heap.size := ⟨_, rfl⟩
  have hbx : AcBox W ab x := by unfold AcBox; rw [hW, hab]; exact heap_new w _
  obtain ⟨p0, p1, p2, p3, p4, p5, p6, p7, p8, p9, p10, p11, p12, pl⟩ := hbx.cells
  have HH := Lib.hid (h.below hBW)
  have HW := Lib.hid hW
  have HAB := Lib.hid hab
  have HBW := Lib.hid hBW
  have hv := props16_any x.v.a x.v.c x.v.v.ps W HH.out.vp HH.out.vl
  have he := props16_any x.e.a x.e.c x.e.e.ps W HH.out.ep HH.out.el
  have hp := props16_any x.pa x.pc x.ps W HH.out.pp HH.out.pl
  have hsz := HH.out.vs
  have hsz2 := HH.out.es
  have hkl := HH.out.kl
  unfold maxLen at hsz hsz2 hkl
  clear h hW hab hBW hbx
  obtain ⟨q, hq⟩ : ∃ q, q = x.small := ⟨_, rfl⟩
  rw [← hq]
  unfold Ac.small at hq
  have HQ := Lib.hid hq
  clear hq
  cases h1 : smallP x.v.v.ps
  · rw [h1] at hv
    obtain rfl : q = false := by rw [HQ.out, h1]; simp
    have HV := Lib.hid hv
    have HE := Lib.hid he
    have HP := Lib.hid hp
    clear hv he hp
    go_enter Tryz.func16, Tryz.ntmps16
    go_upto_region 1 with fail
    rw [← HW.out, ← HAB.out]
    go_wp2_with (go_at_call 82; (first | (with_reducible refine HV.out.mono ?_) | (with_reducible refine HE.out.mono ?_) | (with_reducible refine HP.out.mono ?_)); rintro e w1 ⟨rfl, rfl⟩)
    go_ret
    exact ⟨rfl, HBW.out⟩
  rw [h1] at hv
  cases h2 : smallP x.e.e.ps
  · rw [h2] at he
    obtain rfl : q = false := by rw [HQ.out, h2]; simp
    have HV := Lib.hid hv
    have HE := Lib.hid he
    have HP := Lib.hid hp
    clear hv he hp
    go_enter Tryz.func16, Tryz.ntmps16
    go_upto_region 1 with fail
    rw [← HW.out, ← HAB.out]
    go_wp2_with (go_at_call 82; (first | (with_reducible refine HV.out.mono ?_) | (with_reducible refine HE.out.mono ?_) | (with_reducible refine HP.out.mono ?_)); rintro e w1 ⟨rfl, rfl⟩)
    go_ret
    exact ⟨rfl, HBW.out⟩
  rw [h2] at he
  cases h3 : smallP x.ps
  · rw [h3] at hp
    obtain rfl : q = false := by rw [HQ.out, h3]; simp
    have HV := Lib.hid hv
    have HE := Lib.hid he
    have HP := Lib.hid hp
    clear hv he hp
    go_enter Tryz.func16, Tryz.ntmps16
    go_upto_region 1 with fail
    rw [← HW.out, ← HAB.out]
    go_wp2_with (go_at_call 82; (first | (with_reducible refine HV.out.mono ?_) | (with_reducible refine HE.out.mono ?_) | (with_reducible refine HP.out.mono ?_)); rintro e w1 ⟨rfl, rfl⟩)
    go_ret
    exact ⟨rfl, HBW.out⟩
  rw [h3] at hp
  by_cases h4 : x.ks.length ≤ 10
  · have t4 : decide ((x.ks.length : Int) ≤ 10) = true := decide_eq_true (by omega)
    by_cases h5 : x.v.v.label.size ≤ 200
    · have t5 : decide ((x.v.v.label.size : Int) ≤ 200) = true := decide_eq_true (by omega)
      by_cases h6 : x.e.e.label.size ≤ 200
      · have t6 : decide ((x.e.e.label.size : Int) ≤ 200) = true := decide_eq_true (by omega)
        obtain rfl : q = true := by rw [HQ.out, h1, h2, h3, decide_eq_true h4, decide_eq_true h5, decide_eq_true h6]; rfl
        have HV := Lib.hid hv
        have HE := Lib.hid he
        have HP := Lib.hid hp
        clear hv he hp
        go_enter Tryz.func16, Tryz.ntmps16
        go_upto_region 1 with fail
        rw [← HW.out, ← HAB.out]
        go_wp2_with (go_at_call 82; (first | (with_reducible refine HV.out.mono ?_) | (with_reducible refine HE.out.mono ?_) | (with_reducible refine HP.out.mono ?_)); rintro e w1 ⟨rfl, rfl⟩)
        go_ret
        exact ⟨rfl, HBW.out⟩
      · have t6 : decide ((x.e.e.label.size : Int) ≤ 200) = false := decide_eq_false (by omega)
        obtain rfl : q = false := by rw [HQ.out, decide_eq_false h6]; simp
        have HV := Lib.hid hv
        have HE := Lib.hid he
        have HP := Lib.hid hp
        clear hv he hp
        go_enter Tryz.func16, Tryz.ntmps16
        go_upto_region 1 with fail
        rw [← HW.out, ← HAB.out]
        go_wp2_with (go_at_call 82; (first | (with_reducible refine HV.out.mono ?_) | (with_reducible refine HE.out.mono ?_) | (with_reducible refine HP.out.mono ?_)); rintro e w1 ⟨rfl, rfl⟩)
        go_ret
        exact ⟨rfl, HBW.out⟩
    · have t5 : decide ((x.v.v.label.size : Int) ≤ 200) = false := decide_eq_false (by omega)
      obtain rfl : q = false := by rw [HQ.out, decide_eq_false h5]; simp
      have HV := Lib.hid hv
      have HE := Lib.hid he
      have HP := Lib.hid hp
      clear hv he hp
      go_enter Tryz.func16, Tryz.ntmps16
      go_upto_region 1 with fail
      rw [← HW.out, ← HAB.out]
      go_wp2_with (go_at_call 82; (first | (with_reducible refine HV.out.mono ?_) | (with_reducible refine HE.out.mono ?_) | (with_reducible refine HP.out.mono ?_)); rintro e w1 ⟨rfl, rfl⟩)
      go_ret
      exact ⟨rfl, HBW.out⟩
  · have t4 : decide ((x.ks.length : Int) ≤ 10) = false := decide_eq_false (by omega)
    obtain rfl : q = false := by rw [HQ.out, decide_eq_false h4]; simp
    have HV := Lib.hid hv
    have HE := Lib.hid he
    have HP := Lib.hid hp
    clear hv he hp
    go_enter Tryz.func16, Tryz.ntmps16
    go_upto_region 1 with fail
    rw [← HW.out, ← HAB.out]
    go_wp2_with (go_at_call 82; (first | (with_reducible refine HV.out.mono ?_) | (with_reducible refine HE.out.mono ?_) | (with_reducible refine HP.out.mono ?_)); rintro e w1 ⟨rfl, rfl⟩)
    go_ret
    exact ⟨rfl, HBW.out⟩
end Go.Proofs.YtonilojjahfboaaGreat
namespace Go.Proofs.YtonilojjahfboaaGreat
open Go.RowKit Go.Maps

theorem atB_nil {α : Type} {key : α → Int} {n r : Int} (h : AtB key ([] : List α) n r) : r = -1 := by
  rcases h with ⟨h, _⟩ | ⟨i, x, _, h, _⟩
  · exact h
  · simp at h
set_option maxRecDepth 100000 in
set_option maxHeartbeats 1000000 in
theorem r16set_nil {w : World} {rb B : Nat} (h : RgL w rb B [] []) (edge unset : Bool) (n : Int) (v1 v2 : Value) :
    Calls Tryz.prog 86 #[.pointer (some ⟨rb, 0, none⟩), .bool edge, .int .i64 n, v1, v2, .bool unset] w fun e w' => e = .returned (.int .i64 101) ∧ w = w' := by
  have HV := Lib.hid (r16V_any h (by simp) n)
  have HE := Lib.hid (r16E_any h (by simp) n)
  clear h
  cases edge
  all_goals
    go_enter Tryz.func86, Tryz.ntmps86
    go_wp2_with (first | (go_at_call 66; refine HV.out.mono ?_; rintro e w1 ⟨rfl, r, rfl, hr⟩; obtain rfl := atB_nil hr; clear hr) | (go_at_call 67; refine HE.out.mono ?_; rintro e w1 ⟨rfl, r, rfl, hr⟩; obtain rfl := atB_nil hr; clear hr))
    go_ret
    exact ⟨rfl, rfl⟩
set_option maxRecDepth 100000 in
set_option maxHeartbeats 1000000 in
theorem r16drop_nil {w : World} {rb B : Nat} (h : RgL w rb B [] []) (edge : Bool) (n : Int) :
    Calls Tryz.prog 88 #[.pointer (some ⟨rb, 0, none⟩), .bool edge, .int .i64 n] w fun e w' => e = .returned (.tuple #[.slice none 0 0, .int .i64 101]) ∧ w = w' := by
  have HV := Lib.hid (r16V_any h (by simp) n)
  have HE := Lib.hid (r16E_any h (by simp) n)
  clear h
  cases edge
  all_goals
    go_enter Tryz.func88, Tryz.ntmps88
    go_wp2_with (first | (go_at_call 66; refine HV.out.mono ?_; rintro e w1 ⟨rfl, r, rfl, hr⟩; obtain rfl := atB_nil hr; clear hr) | (go_at_call 67; refine HE.out.mono ?_; rintro e w1 ⟨rfl, r, rfl, hr⟩; obtain rfl := atB_nil hr; clear hr))
    go_ret2
    exact ⟨rfl, rfl⟩
theorem PsA.noText {w w' : World} {S : Nat → Prop} {a : Option Addr} {c : Nat} {ps : List Pr} (h : PsA w a c ps) (hc : Chg w w' S) (hS : ∀ j, S j → ∀ o s, w.cell? ⟨j, o, none⟩ ≠ Option.some (Value.string s)) : PsA w' a c ps := by
  refine ⟨fun hne => ?_, h.nil⟩
  obtain ⟨b, off, e, hat⟩ := h.v hne
  refine ⟨b, off, e, hat.of_block (hc.block b hat.lt (fun hs => ?_))⟩
  obtain ⟨p, hp⟩ := List.exists_mem_of_ne_nil ps hne
  obtain ⟨i, hi⟩ := List.getElem?_of_mem hp
  exact hS b hs _ _ (hat.cells i p hi).1
theorem VmOk.noText {w w' : World} {f : Lit → Option Value} {V : List Vt} {S : Nat → Prop} (h : VmOk w f V) (hc : Chg w w' S) (hS : ∀ j, S j → ∀ o s, w.cell? ⟨j, o, none⟩ ≠ Option.some (Value.string s)) : VmOk w' f V :=
  ⟨h.no, fun v hv => by obtain ⟨a, c, h1, h2⟩ := h.yes v hv; exact ⟨a, c, h1, h2.noText hc hS⟩⟩
theorem EmOk.noText {w w' : World} {f : Lit → Option Value} {E : List Eg} {S : Nat → Prop} (h : EmOk w f E) (hc : Chg w w' S) (hS : ∀ j, S j → ∀ o s, w.cell? ⟨j, o, none⟩ ≠ Option.some (Value.string s)) : EmOk w' f E :=
  ⟨h.no, fun v hv => by obtain ⟨a, c, h1, h2⟩ := h.yes v hv; exact ⟨a, c, h1, h2.noText hc hS⟩⟩
theorem GrC.noText {w w' : World} {gb vb eb : Nat} {V : List Vt} {E : List Eg} {S : Nat → Prop} (h : GrC w gb vb eb V E) (hc : Chg w w' S) (hg : ¬ S gb ∧ ¬ S vb ∧ ¬ S eb) (hS : ∀ j, S j → ∀ o s, w.cell? ⟨j, o, none⟩ ≠ Option.some (Value.string s)) : GrC w' gb vb eb V E := by
  obtain ⟨f, m, hf⟩ := h.vm
  obtain ⟨g, n, hn⟩ := h.em
  exact ⟨(hc.block _ h.lt hg.1).trans h.blk, ⟨f, m.of_block (hc.block _ m.lt hg.2.1), hf.noText hc hS⟩, ⟨g, n.of_block (hc.block _ n.lt hg.2.2), hn.noText hc hS⟩, h.ok, h.ne⟩
theorem SsV.noCell {w w' : World} {S : Nat → Prop} {a : Option Addr} {l : List ByteArray} (h : SsV w a l) (hc : Chg w w' S) (hS : ∀ j, S j → ∀ o, w.cell? ⟨j, o, none⟩ = none) : SsV w' a l := fun hne => by
  obtain ⟨b, off, e, hat⟩ := h hne
  refine ⟨b, off, e, hat.of_block (hc.block b hat.lt (fun hs => ?_))⟩
  obtain ⟨p, hp⟩ := List.exists_mem_of_ne_nil l hne
  obtain ⟨i, hi⟩ := List.getElem?_of_mem hp
  have := hat.cells i p hi
  rw [hS b hs] at this
  cases this
theorem nocell_ve {w : World} {gb vb eb : Nat} {V : List Vt} {E : List Eg} (h : GrC w gb vb eb V E) : ∀ j, (j = vb ∨ j = eb) → ∀ o, w.cell? ⟨j, o, none⟩ = none := by
  rintro j (e | e) o
  · exact nocell_v h j e o
  · exact nocell_e h j e o
/-- what an act makes of a graph -/
noncomputable def stepG (V : List Vt) (E : List Eg) (x : Ac) : List Vt × List Eg :=
  if x.kind = 0 then ((addV V x.v.v).2, E)
  else if x.kind = 1 then (V, (addE V E x.e.e).2)
  else if x.kind = 2 then (changeG V E x.edge x.id (setF x.ps)).2
  else if x.kind = 3 then (changeG V E x.edge x.id (dropF x.ks)).2
  else if x.kind = 4 then ((dropG V E x.edge x.id).2.2.1, (dropG V E x.edge x.id).2.2.2)
  else (V, E)
theorem rg_noText {w : World} {rb B : Nat} (h : RgL w rb B [] []) : ∀ j, j = rb → ∀ o s, w.cell? ⟨j, o, none⟩ ≠ Option.some (Value.string s) := by
  rintro j rfl o s hc
  obtain ⟨⟨va, vc, ea, ec, h1, _, _⟩, _⟩ := h
  rw [cell_of_blk h1] at hc
  match o with
  | 0 => simp at hc
  | 1 => simp at hc
  | o + 2 => simp at hc
theorem rg_type {w : World} {rb B gb vb eb : Nat} {V : List Vt} {E : List Eg} {VL : List Vr} {EL : List Er} (h : RgL w rb B VL EL) (hg : GrC w gb vb eb V E) : gb ≠ rb ∧ vb ≠ rb ∧ eb ≠ rb := by
  obtain ⟨⟨va, vc, ea, ec, h1, _, _⟩, _⟩ := h
  obtain ⟨f, ⟨_, ⟨_, _, hm, _⟩, _⟩, _⟩ := hg.vm
  obtain ⟨g, ⟨_, ⟨_, _, hn, _⟩, _⟩, _⟩ := hg.em
  refine ⟨?_, ?_, ?_⟩
  · rintro rfl
    have := hg.blk
    rw [h1] at this
    injection this with this
    injection this with _ e2 _
    exact absurd e2 (by decide)
  · rintro rfl; rw [h1] at hm; cases hm
  · rintro rfl; rw [h1] at hn; cases hn
end Go.Proofs.YtonilojjahfboaaGreat
namespace Go.Proofs.YtonilojjahfboaaGreat
open Go.RowKit Go.Maps

theorem dropG_len (V : List Vt) (E : List Eg) (edge : Bool) (n : Int) : (dropG V E edge n).2.1.length ≤ E.length + 1 := by
  unfold dropG
  repeat' split
  all_goals first | (simp; done) | (have := idsE_len E (touchP n); simp; omega) | (simp; omega)
def DsPost (w : World) (gb vb eb rb : Nat) (V : List Vt) (E : List Eg) (x : Ac) (e : Ending) (w' : World) : Prop :=
  (∃ q, e = .returned (.bool q)) ∧ GrC w' gb vb eb (stepG V E x).1 (stepG V E x).2 ∧ Chg w w' (fun i => i = vb ∨ i = eb ∨ i = rb)
set_option maxRecDepth 100000 in
set_option maxHeartbeats 8000000 in
theorem does16_nil (gb vb eb rb : Nat) (V : List Vt) (E : List Eg) (x : Ac) (w : World) (h : GrC w gb vb eb V E) (hr : RgL w rb (rb + 1) [] []) (hrs : rb + 1 ≤ w.heap.size) (hvb : vb < rb) (heb : eb < rb) (hx : AcRaw w x) (hs : x.small = true) (hV : V.length ≤ 1000) (hE : E.length ≤ 1000) :
    Calls Tryz.prog 17 #[.pointer (some ⟨gb, 0, none⟩), .pointer (some ⟨rb, 0, none⟩), .agg #[.int .i64 x.kind, .int .i64 x.id, .bool x.edge, .int .i64 x.v.v.id, .string x.v.v.label, .slice x.v.a x.v.v.ps.length x.v.c, .int .i64 x.e.e.id, .string x.e.e.label, .int .i64 x.e.e.fr, .int .i64 x.e.e.to, .slice x.e.a x.e.e.ps.length x.e.c, .slice x.pa x.ps.length x.pc, .slice x.ka x.ks.length x.kc]] w (DsPost w gb vb eb rb V E x) := by
  obtain ⟨hsm, hk10, hl1, hl2⟩ : (smallP x.v.v.ps = true ∧ smallP x.e.e.ps = true ∧ smallP x.ps = true) ∧ x.ks.length ≤ 10 ∧ x.v.v.label.size ≤ 200 ∧ x.e.e.label.size ≤ 200 := by
    unfold Ac.small at hs
    simp only [Bool.and_eq_true, decide_eq_true_eq] at hs
    exact ⟨⟨hs.1.1.1.1.1, hs.1.1.1.1.2, hs.1.1.1.2⟩, hs.1.1.2, hs.1.2, hs.2⟩
  obtain ⟨hs1, hs2, hs3⟩ := hsm
  have n30 : ∀ {l : List Pr}, smallP l = true → l.length ≤ 30 := fun {l} h => (of_decide_eq_true h).1
  obtain ⟨W, hW⟩ : ∃ W, W = w.alloc (.cells #[.int .i64 x.kind, .int .i64 x.id, .bool x.edge, .int .i64 x.v.v.id, .string x.v.v.label, .slice x.v.a x.v.v.ps.length x.v.c, .int .i64 x.e.e.id, .string x.e.e.label, .int .i64 x.e.e.fr, .int .i64 x.e.e.to, .slice x.e.a x.e.e.ps.length x.e.c, .slice x.pa x.ps.length x.pc, .slice x.ka x.ks.length x.kc] 33) := ⟨_, rfl⟩
  have hBW : Below w.heap.size w W := by rw [hW]; exact below_box w _
  obtain ⟨ab, hab⟩ : ∃ b, b = w.heap.size := ⟨_, rfl⟩
  have hbx : AcBox W ab x := by unfold AcBox; rw [hW, hab]; exact heap_new w _
  have HVB := Lib.hid hvb
  have HEB := Lib.hid heb
  have HRS := Lib.hid (Nat.le_trans hrs hBW.size)
  have hgW := h.below hBW
  have hrW := hr.below hBW
  have hxW := hx.below hBW
  have HG := Lib.hid hgW
  have HX := Lib.hid hxW
  have KBX : Hid (∀ w', Chg W w' (fun i => i = vb ∨ i = eb ∨ i = rb) → w'.cell? ⟨ab, 0, none⟩ = some (.int .i64 x.kind) ∧ w'.cell? ⟨ab, 1, none⟩ = some (.int .i64 x.id) ∧ w'.cell? ⟨ab, 2, none⟩ = some (.bool x.edge) ∧ w'.cell? ⟨ab, 3, none⟩ = some (.int .i64 x.v.v.id) ∧ w'.cell? ⟨ab, 4, none⟩ = some (.string x.v.v.label) ∧ w'.cell? ⟨ab, 5, none⟩ = some (.slice x.v.a x.v.v.ps.length x.v.c) ∧ w'.cell? ⟨ab, 6, none⟩ = some (.int .i64 x.e.e.id) ∧ w'.cell? ⟨ab, 7, none⟩ = some (.string x.e.e.label) ∧ w'.cell? ⟨ab, 8, none⟩ = some (.int .i64 x.e.e.fr) ∧ w'.cell? ⟨ab, 9, none⟩ = some (.int .i64 x.e.e.to) ∧ w'.cell? ⟨ab, 10, none⟩ = some (.slice x.e.a x.e.e.ps.length x.e.c) ∧ w'.cell? ⟨ab, 11, none⟩ = some (.slice x.pa x.ps.length x.pc) ∧ w'.cell? ⟨ab, 12, none⟩ = some (.slice x.ka x.ks.length x.kc) ∧ ab < w'.heap.size) := Lib.hid (fun w' hc => by
    have hl := (Array.getElem?_eq_some_iff.1 hbx).1
    exact AcBox.cells ((hc.block ab hl (by rintro (e | e | e) <;> omega)).trans hbx))
  -- what a write into the maps keeps
  have HSF : Hid (∀ w1, Chg W w1 (fun i => i = vb ∨ i = eb) → PsA w1 x.v.a x.v.c x.v.v.ps ∧ PsA w1 x.e.a x.e.c x.e.e.ps ∧ PsV w1 x.pa x.ps ∧ SsV w1 x.ka x.ks ∧ RgL w1 rb (rb + 1) [] [] ∧ rb + 1 ≤ w1.heap.size) := Lib.hid (fun w1 hc => by
    have nt : ∀ j, (j = vb ∨ j = eb) → ∀ o s, W.cell? ⟨j, o, none⟩ ≠ some (Value.string s) := fun j hj o s e => by rw [nocell_ve hgW j hj o] at e; cases e
    have a1 : PsA W x.pa (if x.pa = none then 0 else x.pc) (if x.pa = none then [] else x.ps) := by
      cases hp : x.pa with
      | none => exact psA_nil W
      | some a =>
        simp only [reduceCtorEq, if_false]
        have := hxW.pp.small hs3
        rw [hp] at this
        exact ⟨this, fun e => by cases e⟩
    refine ⟨PsA.noText ⟨hxW.vp.small hs1, hxW.vn⟩ hc nt, PsA.noText ⟨hxW.ep.small hs2, hxW.en⟩ hc nt, fun hne => ?_, hxW.kk.noCell hc (nocell_ve hgW), hrW.chg hc (by rintro j (e | e) <;> omega), Nat.le_trans (Nat.le_trans hrs hBW.size) hc.size⟩
    obtain ⟨b, off, e, hat⟩ := (hxW.pp.small hs3) hne
    rw [e] at a1
    simp only [reduceCtorEq, if_false] at a1
    have := (a1.noText hc nt).v hne
    rw [e]; exact this)
  -- what a write into the document's graph keeps
  have HGF : Hid (∀ w1 w2 (V' : List Vt) (E' : List Eg), GrC w1 gb vb eb V' E' → RgL w1 rb (rb + 1) [] [] → Chg w1 w2 (fun i => i = rb) → GrC w2 gb vb eb V' E') := Lib.hid (fun w1 w2 V' E' g1 r1 hc => g1.noText hc (rg_type r1 g1) (rg_noText r1))
  have CH1 : Hid (∀ w1, Chg W w1 (fun i => i = vb ∨ i = eb) → Chg W w1 (fun i => i = vb ∨ i = eb ∨ i = rb)) := Lib.hid (fun w1 hc => hc.mono (fun i _ e => by rcases e with e | e; exact .inl e; exact .inr (.inl e)))
  have CH2 : Hid (∀ w1 w2, Chg W w1 (fun i => i = vb ∨ i = eb) → Chg w1 w2 (fun i => i = rb) → Chg W w2 (fun i => i = vb ∨ i = eb ∨ i = rb)) := Lib.hid (fun w1 w2 hc hc2 => (hc.mono (fun i _ e => by rcases e with e | e; exact .inl e; exact .inr (.inl e))).trans (hc2.mono (fun i _ e => .inr (.inr e))) (fun _ _ h => h))
  have CHW : Hid (∀ w2, Chg W w2 (fun i => i = vb ∨ i = eb ∨ i = rb) → Chg w w2 (fun i => i = vb ∨ i = eb ∨ i = rb)) := Lib.hid (fun w2 hc => (Chg.of_below hBW _).trans hc (fun _ _ h => h))
  have HN1 := Lib.hid (n30 hs1)
  have HN2 := Lib.hid (n30 hs2)
  have HN3 := Lib.hid (n30 hs3)
  have HK10 := Lib.hid hk10
  have HL1 := Lib.hid hl1
  have HL2 := Lib.hid hl2
  have HVL : Hid (V.length < maxLen) := Lib.hid (by unfold maxLen; omega)
  have HEL : Hid (E.length < maxLen) := Lib.hid (by unfold maxLen; omega)
  have HE1 := Lib.hid hE
  have HW := Lib.hid hW
  have HAB := Lib.hid hab
  have hbd : Chg W W.drew (fun i => i = vb ∨ i = eb) := (Chg.refl W _).drew
  have HGD := Lib.hid (hgW.below (below_drewN (Below.refl _ _) 1))
  have HS0 := Lib.hid (KBX.out W.drew ((Chg.refl W _).drew))
  have HSD := Lib.hid (HSF.out _ hbd)
  obtain ⟨p0, p1, p2, p3, p4, p5, p6, p7, p8, p9, p10, p11, p12, pl⟩ := KBX.out W (Chg.refl _ _)
  have HBD := Lib.hid hbd
  clear h hr hrs hvb heb hx hs hV hE hs1 hs2 hs3 hk10 hl1 hl2 n30 hgW hrW hxW hW hBW hab hbx hbd
  by_cases k0 : x.kind = 0
  · have n0 : (x.kind == 0) = true := by simpa using k0
    have HST : Hid (stepG V E x = ((addV V x.v.v).2, E)) := Lib.hid (by unfold stepG; simp only [k0]; first | rfl | (simp; done))
    clear k0
    go_enter Tryz.func17, Tryz.ntmps17
    go_upto_region 1 with fail
    rw [← HW.out, ← HAB.out]
    go_upto_region 3 with fail
    have hc1 := gaddV_any gb vb eb V E x.v.v x.v.a x.v.c W.drew HGD.out HSD.out.1 (by have := HN1.out; omega) HX.out.vi HX.out.vs HVL.out
    unfold Vt.val at hc1
    have HC1 := Lib.hid hc1
    clear hc1
    go_region_held3 (fun w' => w'.cell? ⟨ab, 0, none⟩ = some (.int .i64 x.kind) ∧ w'.cell? ⟨ab, 1, none⟩ = some (.int .i64 x.id) ∧ w'.cell? ⟨ab, 2, none⟩ = some (.bool x.edge) ∧ w'.cell? ⟨ab, 3, none⟩ = some (.int .i64 x.v.v.id) ∧ w'.cell? ⟨ab, 4, none⟩ = some (.string x.v.v.label) ∧ w'.cell? ⟨ab, 5, none⟩ = some (.slice x.v.a x.v.v.ps.length x.v.c) ∧ w'.cell? ⟨ab, 6, none⟩ = some (.int .i64 x.e.e.id) ∧ w'.cell? ⟨ab, 7, none⟩ = some (.string x.e.e.label) ∧ w'.cell? ⟨ab, 8, none⟩ = some (.int .i64 x.e.e.fr) ∧ w'.cell? ⟨ab, 9, none⟩ = some (.int .i64 x.e.e.to) ∧ w'.cell? ⟨ab, 10, none⟩ = some (.slice x.e.a x.e.e.ps.length x.e.c) ∧ w'.cell? ⟨ab, 11, none⟩ = some (.slice x.pa x.ps.length x.pc) ∧ w'.cell? ⟨ab, 12, none⟩ = some (.slice x.ka x.ks.length x.kc) ∧ ab < w'.heap.size)
      (first | exact HS0.out | exact HSA.out | exact HSB.out)
      (first | (go_at_call 79; (with_reducible refine HC1.out.mono ?_); rintro e w1 ⟨rfl, hg1, hc1⟩; have HG1 := Lib.hid hg1; have HCH1 := Lib.hid (HBD.out.trans (hc1.mono (fun i _ e => .inl e)) (fun _ _ h => h)); have HSA := Lib.hid (KBX.out w1 (CH1.out _ HCH1.out)); have HR1 := Lib.hid (HSF.out w1 HCH1.out); clear hg1 hc1) | (go_at_call 83; have hq := r16addV_any x.v.v x.v.a x.v.c HR1.out.2.2.2.2.1 HR1.out.2.2.2.2.2 HR1.out.1 (by have := HN1.out; omega) HX.out.vi (by have := HL1.out; omega) (by simp) (by simp); unfold Vt.val at hq; (with_reducible refine hq.mono ?_); clear hq; rintro e w2 ⟨rfl, hr2, hc2⟩; have HCH2 := Lib.hid (CH2.out w1 w2 HCH1.out hc2); have HSB := Lib.hid (KBX.out w2 HCH2.out); have HG2 := Lib.hid (HGF.out w1 w2 _ _ HG1.out HR1.out.2.2.2.2.1 hc2); clear hr2 hc2) | fail)
    all_goals
      go_wp2_with fail
      go_ret
      unfold DsPost
      rw [HST.out]
      exact ⟨⟨_, rfl⟩, HG2.out, CHW.out _ HCH2.out⟩
  have n0 : (x.kind == 0) = false := by simpa using k0
  by_cases k1 : x.kind = 1
  · have n1 : (x.kind == 1) = true := by simpa using k1
    have HST : Hid (stepG V E x = (V, (addE V E x.e.e).2)) := Lib.hid (by unfold stepG; simp only [k1]; first | rfl | (simp; done))
    clear k1
    go_enter Tryz.func17, Tryz.ntmps17
    go_upto_region 1 with fail
    rw [← HW.out, ← HAB.out]
    go_upto_region 5 with fail
    have hc1 := gaddE_any gb vb eb V E x.e.e x.e.a x.e.c W.drew HGD.out HSD.out.2.1 (by have := HN2.out; omega) HX.out.ei HX.out.es HEL.out
    unfold Eg.val at hc1
    have HC1 := Lib.hid hc1
    clear hc1
    go_region_held3 (fun w' => w'.cell? ⟨ab, 0, none⟩ = some (.int .i64 x.kind) ∧ w'.cell? ⟨ab, 1, none⟩ = some (.int .i64 x.id) ∧ w'.cell? ⟨ab, 2, none⟩ = some (.bool x.edge) ∧ w'.cell? ⟨ab, 3, none⟩ = some (.int .i64 x.v.v.id) ∧ w'.cell? ⟨ab, 4, none⟩ = some (.string x.v.v.label) ∧ w'.cell? ⟨ab, 5, none⟩ = some (.slice x.v.a x.v.v.ps.length x.v.c) ∧ w'.cell? ⟨ab, 6, none⟩ = some (.int .i64 x.e.e.id) ∧ w'.cell? ⟨ab, 7, none⟩ = some (.string x.e.e.label) ∧ w'.cell? ⟨ab, 8, none⟩ = some (.int .i64 x.e.e.fr) ∧ w'.cell? ⟨ab, 9, none⟩ = some (.int .i64 x.e.e.to) ∧ w'.cell? ⟨ab, 10, none⟩ = some (.slice x.e.a x.e.e.ps.length x.e.c) ∧ w'.cell? ⟨ab, 11, none⟩ = some (.slice x.pa x.ps.length x.pc) ∧ w'.cell? ⟨ab, 12, none⟩ = some (.slice x.ka x.ks.length x.kc) ∧ ab < w'.heap.size)
      (first | exact HS0.out | exact HSA.out | exact HSB.out)
      (first | (go_at_call 80; (with_reducible refine HC1.out.mono ?_); rintro e w1 ⟨rfl, hg1, hc1⟩; have HG1 := Lib.hid hg1; have HCH1 := Lib.hid (HBD.out.trans (hc1.mono (fun i _ e => .inr e)) (fun _ _ h => h)); have HSA := Lib.hid (KBX.out w1 (CH1.out _ HCH1.out)); have HR1 := Lib.hid (HSF.out w1 HCH1.out); clear hg1 hc1) | (go_at_call 84; have hq := r16addE_any x.e.e x.e.a x.e.c HR1.out.2.2.2.2.1 HR1.out.2.2.2.2.2 HR1.out.2.1 (by have := HN2.out; omega) HX.out.ei (by have := HL2.out; omega) (by simp) (by simp); unfold Eg.val at hq; (with_reducible refine hq.mono ?_); clear hq; rintro e w2 ⟨rfl, hr2, hc2⟩; have HCH2 := Lib.hid (CH2.out w1 w2 HCH1.out hc2); have HSB := Lib.hid (KBX.out w2 HCH2.out); have HG2 := Lib.hid (HGF.out w1 w2 _ _ HG1.out HR1.out.2.2.2.2.1 hc2); clear hr2 hc2) | fail)
    all_goals
      go_wp2_with fail
      go_ret
      unfold DsPost
      rw [HST.out]
      exact ⟨⟨_, rfl⟩, HG2.out, CHW.out _ HCH2.out⟩
  have n1 : (x.kind == 1) = false := by simpa using k1
  by_cases k2 : x.kind = 2
  · have n2 : (x.kind == 2) = true := by simpa using k2
    have HST : Hid (stepG V E x = (changeG V E x.edge x.id (setF x.ps)).2) := Lib.hid (by unfold stepG; simp only [k2]; first | rfl | (simp; done))
    clear k2
    go_enter Tryz.func17, Tryz.ntmps17
    go_upto_region 1 with fail
    rw [← HW.out, ← HAB.out]
    go_upto_region 7 with fail
    have hc1 := gset_any gb vb eb V E x.edge x.id x.pa x.pc x.ps W.drew HGD.out HX.out.id HVL.out HEL.out HSD.out.2.2.1 (by have := HN3.out; omega)
    skip
    have HC1 := Lib.hid hc1
    clear hc1
    go_region_held3 (fun w' => w'.cell? ⟨ab, 0, none⟩ = some (.int .i64 x.kind) ∧ w'.cell? ⟨ab, 1, none⟩ = some (.int .i64 x.id) ∧ w'.cell? ⟨ab, 2, none⟩ = some (.bool x.edge) ∧ w'.cell? ⟨ab, 3, none⟩ = some (.int .i64 x.v.v.id) ∧ w'.cell? ⟨ab, 4, none⟩ = some (.string x.v.v.label) ∧ w'.cell? ⟨ab, 5, none⟩ = some (.slice x.v.a x.v.v.ps.length x.v.c) ∧ w'.cell? ⟨ab, 6, none⟩ = some (.int .i64 x.e.e.id) ∧ w'.cell? ⟨ab, 7, none⟩ = some (.string x.e.e.label) ∧ w'.cell? ⟨ab, 8, none⟩ = some (.int .i64 x.e.e.fr) ∧ w'.cell? ⟨ab, 9, none⟩ = some (.int .i64 x.e.e.to) ∧ w'.cell? ⟨ab, 10, none⟩ = some (.slice x.e.a x.e.e.ps.length x.e.c) ∧ w'.cell? ⟨ab, 11, none⟩ = some (.slice x.pa x.ps.length x.pc) ∧ w'.cell? ⟨ab, 12, none⟩ = some (.slice x.ka x.ks.length x.kc) ∧ ab < w'.heap.size)
      (first | exact HS0.out | exact HSA.out | exact HSB.out)
      (first | (go_at_call 85; (with_reducible refine HC1.out.mono ?_); rintro e w1 ⟨rfl, hg1, hc1⟩; have HG1 := Lib.hid hg1; have HCH1 := Lib.hid (HBD.out.trans (hc1.mono (fun i _ e => e)) (fun _ _ h => h)); have HSA := Lib.hid (KBX.out w1 (CH1.out _ HCH1.out)); have HR1 := Lib.hid (HSF.out w1 HCH1.out); clear hg1 hc1) | (go_at_call 86; (with_reducible refine (r16set_nil HR1.out.2.2.2.2.1 _ _ _ _ _).mono ?_); rintro e w2 ⟨rfl, rfl⟩; have HCH2 := Lib.hid (CH1.out w1 HCH1.out); have HSB := Lib.hid (KBX.out w1 HCH2.out); have HG2 := Lib.hid HG1.out) | fail)
    all_goals
      go_wp2_with fail
      go_ret
      unfold DsPost
      rw [HST.out]
      exact ⟨⟨_, rfl⟩, HG2.out, CHW.out _ HCH2.out⟩
  have n2 : (x.kind == 2) = false := by simpa using k2
  by_cases k3 : x.kind = 3
  · have n3 : (x.kind == 3) = true := by simpa using k3
    have HST : Hid (stepG V E x = (changeG V E x.edge x.id (dropF x.ks)).2) := Lib.hid (by unfold stepG; simp only [k3]; first | rfl | (simp; done))
    clear k3
    go_enter Tryz.func17, Tryz.ntmps17
    go_upto_region 1 with fail
    rw [← HW.out, ← HAB.out]
    go_upto_region 9 with fail
    have hc1 := gunset_any gb vb eb V E x.edge x.id x.ka x.kc x.ks W.drew HGD.out HX.out.id HVL.out HEL.out HSD.out.2.2.2.1 (by have := HK10.out; omega)
    skip
    have HC1 := Lib.hid hc1
    clear hc1
    go_region_held3 (fun w' => w'.cell? ⟨ab, 0, none⟩ = some (.int .i64 x.kind) ∧ w'.cell? ⟨ab, 1, none⟩ = some (.int .i64 x.id) ∧ w'.cell? ⟨ab, 2, none⟩ = some (.bool x.edge) ∧ w'.cell? ⟨ab, 3, none⟩ = some (.int .i64 x.v.v.id) ∧ w'.cell? ⟨ab, 4, none⟩ = some (.string x.v.v.label) ∧ w'.cell? ⟨ab, 5, none⟩ = some (.slice x.v.a x.v.v.ps.length x.v.c) ∧ w'.cell? ⟨ab, 6, none⟩ = some (.int .i64 x.e.e.id) ∧ w'.cell? ⟨ab, 7, none⟩ = some (.string x.e.e.label) ∧ w'.cell? ⟨ab, 8, none⟩ = some (.int .i64 x.e.e.fr) ∧ w'.cell? ⟨ab, 9, none⟩ = some (.int .i64 x.e.e.to) ∧ w'.cell? ⟨ab, 10, none⟩ = some (.slice x.e.a x.e.e.ps.length x.e.c) ∧ w'.cell? ⟨ab, 11, none⟩ = some (.slice x.pa x.ps.length x.pc) ∧ w'.cell? ⟨ab, 12, none⟩ = some (.slice x.ka x.ks.length x.kc) ∧ ab < w'.heap.size)
      (first | exact HS0.out | exact HSA.out | exact HSB.out)
      (first | (go_at_call 87; (with_reducible refine HC1.out.mono ?_); rintro e w1 ⟨rfl, hg1, hc1⟩; have HG1 := Lib.hid hg1; have HCH1 := Lib.hid (HBD.out.trans (hc1.mono (fun i _ e => e)) (fun _ _ h => h)); have HSA := Lib.hid (KBX.out w1 (CH1.out _ HCH1.out)); have HR1 := Lib.hid (HSF.out w1 HCH1.out); clear hg1 hc1) | (go_at_call 86; (with_reducible refine (r16set_nil HR1.out.2.2.2.2.1 _ _ _ _ _).mono ?_); rintro e w2 ⟨rfl, rfl⟩; have HCH2 := Lib.hid (CH1.out w1 HCH1.out); have HSB := Lib.hid (KBX.out w1 HCH2.out); have HG2 := Lib.hid HG1.out) | fail)
    all_goals
      go_wp2_with fail
      go_ret
      unfold DsPost
      rw [HST.out]
      exact ⟨⟨_, rfl⟩, HG2.out, CHW.out _ HCH2.out⟩
  have n3 : (x.kind == 3) = false := by simpa using k3
  by_cases k4 : x.kind = 4
  · have n4 : (x.kind == 4) = true := by simpa using k4
    have HST : Hid (stepG V E x = ((dropG V E x.edge x.id).2.2.1, (dropG V E x.edge x.id).2.2.2)) := Lib.hid (by unfold stepG; simp only [k4]; first | rfl | (simp; done))
    clear k4
    obtain ⟨z, hz⟩ : ∃ z, z = (dropG V E x.edge x.id).1 := ⟨_, rfl⟩
    obtain ⟨gl, hgl⟩ : ∃ z, z = (dropG V E x.edge x.id).2.1 := ⟨_, rfl⟩
    have hd := gdrop_any gb vb eb V E x.edge x.id W HG.out HX.out.id (by have := HE1.out; omega)
    unfold DpPost at hd
    rw [← hz, ← hgl] at hd
    have HD := Lib.hid hd
    have HGL := Lib.hid hgl
    clear hz hgl hd
    go_enter Tryz.func17, Tryz.ntmps17
    go_upto_region 1 with fail
    rw [← HW.out, ← HAB.out]
    go_wp2_with fail
    refine HD.out.mono ?_
    rintro e w1 ⟨v, rfl, ho, hg1, hc1⟩
    have HG1 := Lib.hid hg1
    have HCH1 := Lib.hid hc1
    have HO1 := Lib.hid ho
    have HR1 := Lib.hid (HSF.out w1 hc1)
    have HF : Hid (DsPost w gb vb eb rb V E x (.returned (.bool false)) w1) := Lib.hid (by unfold DsPost; rw [HST.out]; exact ⟨⟨_, rfl⟩, hg1, CHW.out _ (CH1.out _ hc1)⟩)
    clear p0 p1 p2 p3 p4 p5 p6 p7 p8 p9 p10 p11 p12 pl ho hg1
    obtain ⟨p0, p1, p2, p3, p4, p5, p6, p7, p8, p9, p10, p11, p12, pl⟩ := KBX.out w1 (CH1.out _ hc1)
    clear hc1
    go_upto_region 13 with (go_at_call 88; refine (r16drop_nil HR1.out.2.2.2.2.1 _ _).mono ?_; rintro e w2 ⟨rfl, rfl⟩)
    obtain ⟨a5, c5, rfl⟩ := HO1.out.shape
    by_cases hz : z = 101
    · have t1 : (z == 101) = true := by simpa using hz
      clear hz
      have HI := Lib.hid (ints10_any a5 none c5 0 gl [] w1 HO1.out.toV (fun h => absurd rfl h) (by
        have h1 := dropG_len V E x.edge x.id
        rw [← HGL.out] at h1
        have := HE1.out
        omega))
      go_wp2_with fail
      refine HI.out.mono ?_
      rintro e w3 ⟨rfl, hb3⟩
      have HF3 : Hid (∃ q, DsPost w gb vb eb rb V E x (.returned (.bool q)) w3) := Lib.hid (by
        refine ⟨false, ?_⟩
        unfold DsPost; rw [HST.out]
        exact ⟨⟨_, rfl⟩, HG1.out.below hb3, CHW.out _ ((CH1.out _ HCH1.out).trans (Chg.of_below hb3 _) (fun _ _ h => h))⟩)
      clear hb3
      go_wp2_with fail
      all_goals
        go_ret
        obtain ⟨q, hq⟩ := HF3.out
        exact ⟨⟨_, rfl⟩, hq.2⟩
    · have t1 : (z == 101) = false := by simpa using hz
      clear hz
      go_wp2_with fail
      go_ret
      exact HF.out
  have n4 : (x.kind == 4) = false := by simpa using k4
  have HST : Hid (stepG V E x = (V, E)) := Lib.hid (by unfold stepG; rw [if_neg k0, if_neg k1, if_neg k2, if_neg k3, if_neg k4])
  go_enter Tryz.func17, Tryz.ntmps17
  go_upto_region 1 with fail
  rw [← HW.out, ← HAB.out]
  go_wp2_with fail
  go_ret
  unfold DsPost
  rw [HST.out]
  exact ⟨⟨_, rfl⟩, HG.out, CHW.out _ (Chg.refl _ _)⟩
end Go.Proofs.YtonilojjahfboaaGreat
namespace Go.Proofs.YtonilojjahfboaaGreat
open Go.RowKit Go.Maps

theorem idsE_at {E : List Eg} (hs : SortB Eg.id E) {p : Eg → Bool} {j : Nat} {m : Int} (h : (idsE E p)[j]? = some m) : ∃ e, findB Eg.id E m = some e ∧ p e = true := by
  obtain ⟨e, he, rfl⟩ := List.mem_map.1 (List.mem_of_getElem? h)
  obtain ⟨h1, h2⟩ := List.mem_filter.1 he
  exact ⟨e, findB_mem hs h1, h2⟩
theorem incI_at {l : List Int} (h : IncI l) {j : Nat} {a b : Int} (ha : l[j]? = some a) (hb : l[j + 1]? = some b) : a < b := by
  obtain ⟨h1, rfl⟩ := List.getElem?_eq_some_iff.1 ha
  obtain ⟨h2, rfl⟩ := List.getElem?_eq_some_iff.1 hb
  exact List.pairwise_iff_getElem.1 h j (j + 1) h1 h2 (by omega)
/-- how many edges some vertices have -/
def sumE (E : List Eg) (l : List Vt) : Nat := (l.map (fun v => (idsE E (outP v.id)).length + (idsE E (inP v.id)).length)).sum
theorem sumE_snoc (E : List Eg) (l : List Vt) (v : Vt) : sumE E (l ++ [v]) = sumE E l + ((idsE E (outP v.id)).length + (idsE E (inP v.id)).length) := by
  unfold sumE
  rw [List.map_append, List.sum_append]
  simp
theorem once_sum (l : List Int) (hn : l.Nodup) {n : Int} (h : n ∈ l) : (l.map (fun m => if n = m then 1 else 0)).sum = 1 := by
  induction l with
  | nil => cases h
  | cons a t ih =>
    rw [List.map_cons, List.sum_cons]
    have hn2 := List.nodup_cons.1 hn
    by_cases e : n = a
    · subst e
      have : (t.map (fun m => if n = m then 1 else 0)).sum = 0 := by
        have h0 : ∀ x ∈ t.map (fun m => if n = m then (1 : Nat) else 0), x = 0 := fun x hx => by
          obtain ⟨m, hm, rfl⟩ := List.mem_map.1 hx
          exact if_neg (fun (e : n = m) => hn2.1 (by rw [e]; exact hm))
        exact List.sum_eq_zero_iff_forall_eq_nat.2 h0
      rw [if_pos rfl, this]
    · rw [if_neg e, ih hn2.2 ((List.mem_cons.1 h).resolve_left e)]
theorem side_sum (f : Eg → Int) (l : List Int) (hn : l.Nodup) : ∀ {E : List Eg}, (∀ e ∈ E, f e ∈ l) → (l.map (fun m => ((E.filter (fun e => f e == m)).map Eg.id).length)).sum = E.length
  | [], _ => by
    simp only [List.filter_nil, List.map_nil, List.length_nil]
    exact List.sum_eq_zero_iff_forall_eq_nat.2 (fun x hx => by obtain ⟨m, _, rfl⟩ := List.mem_map.1 hx; rfl)
  | e :: t, h => by
    have h1 := once_sum l hn (h e List.mem_cons_self)
    have h2 := side_sum f l hn (E := t) (fun x hx => h x (List.mem_cons_of_mem _ hx))
    have key : ∀ q : List Int, (q.map (fun m => (((e :: t).filter (fun e => f e == m)).map Eg.id).length)).sum = (q.map (fun m => if f e = m then 1 else 0)).sum + (q.map (fun m => ((t.filter (fun e => f e == m)).map Eg.id).length)).sum := by
      intro q
      induction q with
      | nil => rfl
      | cons a q ih =>
        simp only [List.map_cons, List.sum_cons]
        simp only [List.length_map] at ih ⊢
        rw [ih]
        by_cases e1 : f e = a
        · have : (f e == a) = true := by simpa using e1
          rw [List.filter_cons, this, if_pos e1]
          simp
          omega
        · have : (f e == a) = false := by simpa using e1
          rw [List.filter_cons, this, if_neg e1]
          simp
          omega
    rw [key, h1, h2, List.length_cons]
    omega
theorem ends_sum {V : List Vt} {E : List Eg} (h : PGo V E) : sumE E V = 2 * E.length := by
  have hn : (V.map Vt.id).Nodup := (sortB_nodup h.sv).imp (fun h => Int.ne_of_lt h)
  have h1 := side_sum Eg.fr (V.map Vt.id) hn (E := E) (fun e he => by obtain ⟨⟨a, ha, e1⟩, _⟩ := h.ends e he; exact List.mem_map.2 ⟨a, ha, e1⟩)
  have h2 := side_sum Eg.to (V.map Vt.id) hn (E := E) (fun e he => by obtain ⟨_, a, ha, e1⟩ := h.ends e he; exact List.mem_map.2 ⟨a, ha, e1⟩)
  have key : ∀ q : List Vt, sumE E q = ((q.map Vt.id).map (fun m => ((E.filter (fun e => e.fr == m)).map Eg.id).length)).sum + ((q.map Vt.id).map (fun m => ((E.filter (fun e => e.to == m)).map Eg.id).length)).sum := by
    intro q
    induction q with
    | nil => rfl
    | cons a q ih =>
      have e1 : sumE E (a :: q) = ((idsE E (outP a.id)).length + (idsE E (inP a.id)).length) + sumE E q := by unfold sumE; simp
      rw [e1, ih]
      simp only [List.map_cons, List.sum_cons]
      have e2 : idsE E (outP a.id) = (E.filter (fun e => e.fr == a.id)).map Eg.id := rfl
      have e3 : idsE E (inP a.id) = (E.filter (fun e => e.to == a.id)).map Eg.id := rfl
      rw [e2, e3]
      omega
  rw [key, h1, h2]
  omega
theorem chgB_len2 {α : Type} {key : α → Int} {l : List α} {n : Int} {x : α} : (chgB key l n x).length ≤ l.length := Nat.le_of_eq chgB_len
theorem stepG_len (V : List Vt) (E : List Eg) (x : Ac) : (stepG V E x).1.length ≤ V.length + 1 ∧ (stepG V E x).2.length ≤ E.length + 1 := by
  unfold stepG
  split
  · refine ⟨?_, Nat.le_succ _⟩
    unfold addV
    repeat' split
    all_goals first | (simp [len_insB]; done) | simp
  split
  · refine ⟨Nat.le_succ _, ?_⟩
    unfold addE
    repeat' split
    all_goals first | (simp [len_insB]; done) | simp
  have hch : ∀ f, (changeG V E x.edge x.id f).2.1.length ≤ V.length + 1 ∧ (changeG V E x.edge x.id f).2.2.length ≤ E.length + 1 := by
    intro f
    unfold changeG
    repeat' split
    all_goals first | (simp [chgB_len]; done) | (constructor <;> simp [chgB_len])
  split
  · exact hch _
  split
  · exact hch _
  split
  · unfold dropG
    have h1 : ∀ p : Eg → Bool, (E.filter p).length ≤ E.length + 1 := fun p => Nat.le_succ_of_le (List.length_filter_le _ _)
    have h2 : ∀ n, (offB Vt.id V n).length ≤ V.length + 1 := fun n => Nat.le_succ_of_le (List.length_filter_le _ _)
    have h3 : ∀ n, (offB Eg.id E n).length ≤ E.length + 1 := fun n => Nat.le_succ_of_le (List.length_filter_le _ _)
    repeat' split
    all_goals first | exact ⟨Nat.le_succ _, h3 _⟩ | exact ⟨h2 _, h1 _⟩ | exact ⟨Nat.le_succ _, Nat.le_succ _⟩
  · exact ⟨Nat.le_succ _, Nat.le_succ _⟩
end Go.Proofs.YtonilojjahfboaaGreat
