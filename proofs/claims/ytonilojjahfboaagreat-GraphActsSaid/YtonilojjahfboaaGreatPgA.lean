/- A graph's properties changed: plain words, and in memory. Conditions: each lemma's own premises. graph.change, Set, Unset. Conditions: each contract's own premises. graph.Set, graph.Unset. Conditions: each contract's own premises. -/
import Derived.Test.YtonilojjahfboaaGreatPqA
import Derived.Test.YtonilojjahfboaaGreatGrA
namespace Go.Proofs.YtonilojjahfboaaGreat
open Go.RowKit Go.Maps

def Vt.setPs (v : Vt) (l : List Pr) : Vt := ⟨v.id, v.label, l⟩
def Eg.setPs (v : Eg) (l : List Pr) : Eg := ⟨v.id, v.label, v.fr, v.to, l⟩
section
variable {α : Type} {key : α → Int}
/-- one of an id is another -/
def chgB (key : α → Int) (l : List α) (n : Int) (x : α) : List α := l.map (fun y => if key y = n then x else y)
theorem chgB_keys {l : List α} {n : Int} {x : α} (hx : key x = n) : (chgB key l n x).map key = l.map key := by
  unfold chgB
  rw [List.map_map]
  refine List.map_congr_left fun y _ => ?_
  show key (if key y = n then x else y) = key y
  split
  · rename_i e; rw [hx, e]
  · rfl
theorem chgB_len {l : List α} {n : Int} {x : α} : (chgB key l n x).length = l.length := List.length_map _
theorem chgB_sort {l : List α} {n : Int} {x : α} (hx : key x = n) (h : SortB key l) : SortB key (chgB key l n x) := by
  have h1 : (l.map key).Pairwise (· < ·) := List.pairwise_map.2 h
  rw [← chgB_keys hx] at h1
  exact List.pairwise_map.1 h1
theorem mem_chgB {l : List α} {n : Int} {x y : α} (h : y ∈ chgB key l n x) : y = x ∨ (y ∈ l ∧ key y ≠ n) := by
  unfold chgB at h
  obtain ⟨z, hz, e⟩ := List.mem_map.1 h
  split at e
  · exact .inl e.symm
  · rename_i hn
    rw [← e]; exact .inr ⟨hz, hn⟩
theorem mem_chgB' {l : List α} {n : Int} {x y : α} (h : y ∈ l) (hn : key y ≠ n) : y ∈ chgB key l n x := List.mem_map.2 ⟨y, h, if_neg hn⟩
theorem find_chgB {l : List α} {n m : Int} {x : α} (hx : key x = n) : findB key (chgB key l n x) m = if m = n then (if (findB key l n).isSome then some x else none) else findB key l m := by
  induction l with
  | nil => simp [chgB, findB]
  | cons y t ih =>
    unfold chgB findB at *
    rw [List.map_cons, List.find?_cons, List.find?_cons, List.find?_cons]
    by_cases e : key y = n
    · rw [if_pos e, hx]
      by_cases em : m = n
      · subst em
        simp [e]
      · rw [if_neg em] at ih ⊢
        have e1 : (n == m) = false := by simp; omega
        have e2 : (key y == m) = false := by simp; omega
        rw [e1, e2]
        exact ih
    · rw [if_neg e]
      by_cases em : m = n
      · subst em
        have e2 : (key y == m) = false := by simpa using e
        rw [if_pos rfl] at ih ⊢
        rw [e2]
        exact ih
      · rw [if_neg em] at ih ⊢
        by_cases e3 : key y = m
        · have e4 : (key y == m) = true := by simpa using e3
          rw [e4]
        · have e4 : (key y == m) = false := by simpa using e3
          rw [e4]
          exact ih
end
/-- what a change of properties says, and leaves -/
def changeG (V : List Vt) (E : List Eg) (edge : Bool) (n : Int) (f : List Pr → Except Int (List Pr)) : Int × List Vt × List Eg :=
  if edge = true then match findB Eg.id E n with
    | none => (101, V, E)
    | some x => match f x.ps with
      | .ok l => (0, V, chgB Eg.id E n (x.setPs l))
      | .error z => (z, V, E)
  else match findB Vt.id V n with
    | none => (101, V, E)
    | some x => match f x.ps with
      | .ok l => (0, chgB Vt.id V n (x.setPs l), E)
      | .error z => (z, V, E)
/-- a change that keeps properties right -/
structure GoodF (f : List Pr → Except Int (List Pr)) : Prop where
  right : ∀ ps l, rightPs ps = true → f ps = .ok l → rightPs l = true
  err : ∀ ps z, rightPs ps = true → f ps = .error z → z ≠ 0
theorem checkR_setPs {label : ByteArray} {ps l : List Pr} {ids : List Int} (h : checkR label ps ids = 0) (hl : rightPs l = true) : checkR label l ids = 0 := by
  obtain ⟨h1, h2, _⟩ := checkR_zero h
  unfold checkR
  rw [if_neg (by rw [h1]; decide), if_neg (by rw [h2]; decide), if_pos hl]
theorem PGo.chgV {V : List Vt} {E : List Eg} (h : PGo V E) {n : Int} {x : Vt} (hf : findB Vt.id V n = some x) {l : List Pr} (hl : rightPs l = true) : PGo (chgB Vt.id V n (x.setPs l)) E := by
  obtain ⟨hx, hn⟩ := findB_some hf
  have hk : (x.setPs l).id = n := hn
  refine ⟨chgB_sort hk h.sv, h.se, fun v hv => ?_, h.e, fun e he => ?_⟩
  · rcases mem_chgB hv with rfl | ⟨hv, _⟩
    · exact checkR_setPs (h.v x hx) hl
    · exact h.v v hv
  · have key : ∀ m, (∃ a ∈ V, a.id = m) → ∃ a ∈ chgB Vt.id V n (x.setPs l), a.id = m := by
      rintro m ⟨a, ha, rfl⟩
      have h1 : a.id ∈ (chgB Vt.id V n (x.setPs l)).map Vt.id := by rw [chgB_keys hk]; exact List.mem_map.2 ⟨a, ha, rfl⟩
      exact List.mem_map.1 h1
    obtain ⟨h1, h2⟩ := h.ends e he
    exact ⟨key _ h1, key _ h2⟩
theorem PGo.chgE {V : List Vt} {E : List Eg} (h : PGo V E) {n : Int} {x : Eg} (hf : findB Eg.id E n = some x) {l : List Pr} (hl : rightPs l = true) : PGo V (chgB Eg.id E n (x.setPs l)) := by
  obtain ⟨hx, hn⟩ := findB_some hf
  have hk : (x.setPs l).id = n := hn
  refine ⟨h.sv, chgB_sort hk h.se, h.v, fun v hv => ?_, fun e he => ?_⟩
  · rcases mem_chgB hv with rfl | ⟨hv, _⟩
    · exact checkR_setPs (h.e x hx) hl
    · exact h.e v hv
  · rcases mem_chgB he with rfl | ⟨he, _⟩
    · exact h.ends x hx
    · exact h.ends e he
theorem PGo.change {V : List Vt} {E : List Eg} (h : PGo V E) (edge : Bool) (n : Int) {f : List Pr → Except Int (List Pr)} (hf : GoodF f) : PGo (changeG V E edge n f).2.1 (changeG V E edge n f).2.2 := by
  unfold changeG
  split
  · split
    · exact h
    · rename_i x hx
      split
      · rename_i l hl
        exact h.chgE hx (hf.right _ l (checkR_zero (h.e x (findB_some hx).1)).2.2 hl)
      · exact h
  · split
    · exact h
    · rename_i x hx
      split
      · rename_i l hl
        exact h.chgV hx (hf.right _ l (checkR_zero (h.v x (findB_some hx).1)).2.2 hl)
      · exact h
open Classical in
theorem VmOk.chg {w : World} {f : Lit → Option Value} {V : List Vt} (h : VmOk w f V) {n : Int} {x : Vt} {a : Option Addr} {c : Nat} (hp : PsA w a c x.ps) (hx : x.id = n) (hs : (findB Vt.id V n).isSome = true) : VmOk w (upd f (.int .i64 n) (some (x.val a c))) (chgB Vt.id V n x) := by
  refine ⟨fun m hi hf => ?_, fun y hy => ?_⟩
  · rw [find_chgB hx] at hf
    split at hf
    · cases hf
    · rename_i e
      unfold upd
      rw [if_neg (fun e2 => e (lit_int.1 e2))]
      exact h.no m hi hf
  · rcases mem_chgB hy with rfl | ⟨hy, hn⟩
    · exact ⟨a, c, by simp [upd, hx], hp⟩
    · obtain ⟨a', c', h1, h2⟩ := h.yes y hy
      refine ⟨a', c', ?_, h2⟩
      unfold upd
      rw [if_neg (fun e2 => hn (lit_int.1 e2))]
      exact h1
open Classical in
theorem EmOk.chg {w : World} {f : Lit → Option Value} {V : List Eg} (h : EmOk w f V) {n : Int} {x : Eg} {a : Option Addr} {c : Nat} (hp : PsA w a c x.ps) (hx : x.id = n) (hs : (findB Eg.id V n).isSome = true) : EmOk w (upd f (.int .i64 n) (some (x.val a c))) (chgB Eg.id V n x) := by
  refine ⟨fun m hi hf => ?_, fun y hy => ?_⟩
  · rw [find_chgB hx] at hf
    split at hf
    · cases hf
    · rename_i e
      unfold upd
      rw [if_neg (fun e2 => e (lit_int.1 e2))]
      exact h.no m hi hf
  · rcases mem_chgB hy with rfl | ⟨hy, hn⟩
    · exact ⟨a, c, by simp [upd, hx], hp⟩
    · obtain ⟨a', c', h1, h2⟩ := h.yes y hy
      refine ⟨a', c', ?_, h2⟩
      unfold upd
      rw [if_neg (fun e2 => hn (lit_int.1 e2))]
      exact h1
/-- a vertex laid anew in its map -/
theorem GrC.reV {w : World} {gb vb eb : Nat} {V : List Vt} {E : List Eg} (h : GrC w gb vb eb V E) {n : Int} {x : Vt} {l : List Pr} {a : Option Addr} {c : Nat} (hf : findB Vt.id V n = some x) (hl : rightPs l = true) (hp : PsA w a c l) (hlt : V.length < maxLen) :
    ∃ w2, (Instr.mapUpdate 163 (.map (some vb)) (.int .i64 n) (.agg #[.int .i64 x.id, .string x.label, .slice a l.length c])).run Tryz.prog w = .ok () w2 ∧ GrC w2 gb vb eb (chgB Vt.id V n (x.setPs l)) E ∧ w.mapTurned w2 vb := by
  obtain ⟨hx, hn⟩ := findB_some hf
  have hid : I64 n := by rw [← hn]; exact checkR_ids (h.ok.v x hx) (by simp)
  obtain ⟨f, m, hm⟩ := h.vm
  obtain ⟨g, mg, hg⟩ := h.em
  have hsome : (f (.int .i64 n)).isSome = true := by
    obtain ⟨a', c', e, _⟩ := hm.yes x hx
    rw [hn] at e; rw [e]; rfl
  obtain ⟨w2, hrun, m2, t2⟩ := m.store (val := (x.setPs l).val a c) lawI Tryz.underlying163 hlt (keyI hid)
  rw [if_pos hsome] at m2
  have hz := turned_size t2
  have hcl := turned_cell t2
  refine ⟨w2, hrun, ⟨(turned_block t2 h.neG.1).trans h.blk, ⟨_, by rw [chgB_len]; exact m2, (hm.stay hcl (Nat.le_of_eq hz.symm)).chg (hp.stay hcl (Nat.le_of_eq hz.symm)) hn (by rw [hf]; rfl)⟩, ⟨g, mg.of_block (turned_block t2 h.ne.symm), hg.stay hcl (Nat.le_of_eq hz.symm)⟩, h.ok.chgV hf hl, h.ne⟩, t2⟩
/-- an edge laid anew in its map -/
theorem GrC.reE {w : World} {gb vb eb : Nat} {V : List Vt} {E : List Eg} (h : GrC w gb vb eb V E) {n : Int} {x : Eg} {l : List Pr} {a : Option Addr} {c : Nat} (hf : findB Eg.id E n = some x) (hl : rightPs l = true) (hp : PsA w a c l) (hlt : E.length < maxLen) :
    ∃ w2, (Instr.mapUpdate 164 (.map (some eb)) (.int .i64 n) (.agg #[.int .i64 x.id, .string x.label, .int .i64 x.fr, .int .i64 x.to, .slice a l.length c])).run Tryz.prog w = .ok () w2 ∧ GrC w2 gb vb eb V (chgB Eg.id E n (x.setPs l)) ∧ w.mapTurned w2 eb := by
  obtain ⟨hx, hn⟩ := findB_some hf
  have hid : I64 n := by rw [← hn]; exact checkR_ids (h.ok.e x hx) (by simp)
  obtain ⟨f, m, hm⟩ := h.em
  obtain ⟨g, mg, hg⟩ := h.vm
  have hsome : (f (.int .i64 n)).isSome = true := by
    obtain ⟨a', c', e, _⟩ := hm.yes x hx
    rw [hn] at e; rw [e]; rfl
  obtain ⟨w2, hrun, m2, t2⟩ := m.store (val := (x.setPs l).val a c) lawI Tryz.underlying164 hlt (keyI hid)
  rw [if_pos hsome] at m2
  have hz := turned_size t2
  have hcl := turned_cell t2
  refine ⟨w2, hrun, ⟨(turned_block t2 h.neG.2).trans h.blk, ⟨g, mg.of_block (turned_block t2 h.ne), hg.stay hcl (Nat.le_of_eq hz.symm)⟩, ⟨_, by rw [chgB_len]; exact m2, (hm.stay hcl (Nat.le_of_eq hz.symm)).chg (hp.stay hcl (Nat.le_of_eq hz.symm)) hn (by rw [hf]; rfl)⟩, h.ok.chgE hf hl, h.ne⟩, t2⟩
end Go.Proofs.YtonilojjahfboaaGreat
namespace Go.Proofs.YtonilojjahfboaaGreat
open Go.RowKit Go.Maps

/-- what a closure that changes properties hands back -/
def ByPost (f : List Pr → Except Int (List Pr)) (w : World) (ps : List Pr) (e : Ending) (w' : World) : Prop :=
  Below w.heap.size w w' ∧ match f ps with
  | .ok l => ∃ a c, e = .returned (.tuple #[.slice a l.length c, .int .i64 0]) ∧ PsB w' w.heap.size a c l
  | .error z => e = .returned (.tuple #[.slice none 0 0, .int .i64 z])
def ChPost (w : World) (gb vb eb : Nat) (V : List Vt) (E : List Eg) (edge : Bool) (n : Int) (f : List Pr → Except Int (List Pr)) (e : Ending) (w' : World) : Prop :=
  e = .returned (.int .i64 (changeG V E edge n f).1) ∧ GrC w' gb vb eb (changeG V E edge n f).2.1 (changeG V E edge n f).2.2 ∧ Chg w w' (fun i => i = vb ∨ i = eb)
theorem below_frozen {u v : World} {n : Nat} (hb : Below u.heap.size u v) (i : Nat) (hn : n < u.heap.size) (h : u.frozen? ⟨n, i, none⟩ = false) : v.frozen? ⟨n, i, none⟩ = false := by
  rw [World.frozen?_of_block (a := ⟨n, i, none⟩) (hb.block n hn)]; exact h
set_option maxRecDepth 100000 in
set_option maxHeartbeats 4000000 in
theorem gchange_by (g : Nat) (cb : Array Value) (f : List Pr → Except Int (List Pr)) (gb vb eb : Nat) (V : List Vt) (E : List Eg) (edge : Bool) (n : Int) (w : World) (h : GrC w gb vb eb V E) (hn : I64 n) (hV : V.length < maxLen) (hE : E.length < maxLen)
    (eg : ∀ args w, (callFunc g args).run Tryz.prog w = .ok (.enter g args) w) (hf : GoodF f)
    (hby : ∀ (W : World) (a : Option Addr) (c : Nat) (ps : List Pr), Below w.heap.size w W → PsA W a c ps → rightPs ps = true → Calls Tryz.prog g (#[.slice a ps.length c] ++ cb) W (ByPost f W ps)) :
    Calls Tryz.prog 165 #[.pointer (some ⟨gb, 0, none⟩), .bool edge, .int .i64 n, .func (.func g) #[] cb] w (ChPost w gb vb eb V E edge n f) := by
  have HB := Lib.hid hby
  have HF := Lib.hid hf
  have HN := Lib.hid hn
  have HG := Lib.hid h
  have HG0 := Lib.hid h
  have HVL := Lib.hid hV
  have HEL := Lib.hid hE
  obtain ⟨va, vc, hlv, hpv, _⟩ := look_v h hn
  obtain ⟨y, hy⟩ : ∃ y, y = getV V n := ⟨_, rfl⟩
  obtain ⟨kv, hkv⟩ : ∃ k, k = (findB Vt.id V n).isSome := ⟨_, rfl⟩
  rw [← hy, ← hkv] at hlv
  rw [← hy] at hpv
  have HY := Lib.hid hy
  have HKV := Lib.hid hkv
  have HPV := Lib.hid hpv
  have g0 : w.cell? ⟨gb, 0, none⟩ = some (.map (some vb)) := by rw [cell_of_blk h.blk]; rfl
  have hlg := h.lt
  unfold Vt.val at hlv
  obtain ⟨W1, hW1⟩ : ∃ W1, W1 = w.alloc (.cells #[.int .i64 y.id, .string y.label, .slice va y.ps.length vc] 28) := ⟨_, rfl⟩
  have hB1 : Below w.heap.size w W1 := by rw [hW1]; exact below_box w _
  have e1 : W1.heap[w.heap.size]? = some (.cells #[.int .i64 y.id, .string y.label, .slice va y.ps.length vc] 28) := by rw [hW1]; exact heap_new w _
  obtain ⟨ea, ec, hle, hpe, _⟩ := look_e (h.below hB1) hn
  obtain ⟨x, hx⟩ : ∃ y, y = getE E n := ⟨_, rfl⟩
  obtain ⟨ke, hke⟩ : ∃ k, k = (findB Eg.id E n).isSome := ⟨_, rfl⟩
  rw [← hx, ← hke] at hle
  rw [← hx] at hpe
  have HX := Lib.hid hx
  have HKE := Lib.hid hke
  unfold Eg.val at hle
  have g1 : W1.cell? ⟨gb, 1, none⟩ = some (.map (some eb)) := by rw [cell_of_blk (h.below hB1).blk]; rfl
  have hlg1 := (h.below hB1).lt
  obtain ⟨W2, hW2⟩ : ∃ W2, W2 = W1.alloc (.cells #[.int .i64 x.id, .string x.label, .int .i64 x.fr, .int .i64 x.to, .slice ea x.ps.length ec] 30) := ⟨_, rfl⟩
  have hB2 : Below W1.heap.size W1 W2 := by rw [hW2]; exact below_box W1 _
  have e2 : W2.heap[W1.heap.size]? = some (.cells #[.int .i64 x.id, .string x.label, .int .i64 x.fr, .int .i64 x.to, .slice ea x.ps.length ec] 30) := by rw [hW2]; exact heap_new W1 _
  obtain ⟨b1, hb1⟩ : ∃ b, b = w.heap.size := ⟨_, rfl⟩
  obtain ⟨b2, hb2⟩ : ∃ b, b = W1.heap.size := ⟨_, rfl⟩
  rw [← hb1] at e1
  rw [← hb2] at e2
  have HB1 := Lib.hid hb1
  have HB2 := Lib.hid hb2
  have HBW : Hid (Below w.heap.size w W2) := Lib.hid (below_then hB1 hB2)
  have HE1 : Hid (W2.heap[b1]? = some (.cells #[.int .i64 y.id, .string y.label, .slice va y.ps.length vc] 28)) := Lib.hid ((hB2.block _ (Array.getElem?_eq_some_iff.1 e1).1).trans e1)
  have HE2 := Lib.hid e2
  have HPE : Hid (PsA W2 ea ec x.ps) := Lib.hid (hpe.below hB2)
  replace HPV : Hid (PsA W2 va vc y.ps) := Lib.hid (HPV.out.below HBW.out)
  replace HG : Hid (GrC W2 gb vb eb V E) := Lib.hid (HG.out.below HBW.out)
  have HW1 := Lib.hid hW1
  have HW2 := Lib.hid hW2
  clear h hn hV hE hby hf hy hkv hpv hW1 hB1 e1 hpe hx hke hW2 hB2 e2 hb1 hb2
  go_enter Tryz.func165, Tryz.ntmps165
  go_upto_region 2 with fail
  rw [← HW1.out, ← HB1.out]
  clear hlv g0
  go_upto_region 3 with fail
  rw [← HW2.out, ← HB2.out]
  clear hle g1
  cases edge
  · have HBL : Hid (w.heap.size ≤ b1 ∧ b1 < W2.heap.size) := Lib.hid ⟨by have h1 := congrArg (fun W : World => W.heap.size) HW1.out; simp at h1; have := HB1.out; have := HB2.out; omega, (Array.getElem?_eq_some_iff.1 HE1.out).1⟩
    cases kv
    · have HR : Hid (changeG V E false n f = (101, V, E)) := Lib.hid (by
        unfold changeG
        have h1 := HKV.out.symm
        rw [Option.isSome_eq_false_iff, Option.isNone_iff_eq_none] at h1
        simp only [h1, Bool.false_eq_true, if_false])
      go_wp2_with fail
      go_ret
      unfold ChPost
      rw [HR.out]
      exact ⟨rfl, HG.out, Chg.of_below HBW.out _⟩
    · obtain ⟨x0, hx0⟩ := Option.isSome_iff_exists.1 HKV.out.symm
      have hxe : y = x0 := by rw [HY.out]; unfold getV; rw [hx0]; rfl
      have HX0 : Hid (findB Vt.id V n = some y) := Lib.hid (by rw [hxe]; exact hx0)
      have HRP : Hid (rightPs y.ps = true) := Lib.hid (by have h := HG.out; exact (checkR_zero (h.ok.v y (findB_some HX0.out).1)).2.2)
      have hcall := HB.out _ va vc y.ps HBW.out HPV.out HRP.out
      unfold ByPost at hcall
      have p2 := cell_of_blk HE1.out 2
      have p3 := frozen_of_blk HE1.out 2
      simp at p2
      have hblt := HBL.out.2
      clear hx0 hxe
      cases hfx : f y.ps with
      | error z =>
        rw [hfx] at hcall
        have HC := Lib.hid hcall
        have hz := HF.out.err _ z HRP.out hfx
        have hz0 : (z == 0) = false := by simpa using hz
        have HR : Hid (changeG V E false n f = (z, V, E)) := Lib.hid (by
          unfold changeG
          simp only [HX0.out, Bool.false_eq_true, if_false, hfx])
        clear hcall hfx hz
        go_wp2_with (go_at_fn g; refine HC.out.mono ?_; rintro e W3 ⟨hb3, rfl⟩; have HB3 := Lib.hid hb3; have r2 := below_cell hb3 2 hblt p2; have r3 := below_frozen hb3 2 hblt p3; have hblt3 := Nat.lt_of_lt_of_le hblt hb3.size; clear hb3)
        go_ret
        unfold ChPost
        rw [HR.out]
        have hbz := (below_then HBW.out HB3.out).setCell (p := ⟨b1, 2, none⟩) HBL.out.1 (.slice none 0 0)
        exact ⟨rfl, HG0.out.below hbz, Chg.of_below hbz _⟩
      | ok l =>
        rw [hfx] at hcall
        have HC := Lib.hid hcall
        have HR : Hid (changeG V E false n f = (0, chgB Vt.id V n (y.setPs l), E)) := Lib.hid (by
          unfold changeG
          simp only [HX0.out, Bool.false_eq_true, if_false, hfx])
        have HRL := Lib.hid (HF.out.right _ l HRP.out hfx)
        clear hcall hfx
        go_upto_region 12 with (go_at_fn g; refine HC.out.mono ?_; rintro e W3 ⟨hb3, la, lc, rfl, hpb⟩; have HB3 := Lib.hid hb3; have HPB := Lib.hid hpb; have r2 := below_cell hb3 2 hblt p2; have r3 := below_frozen hb3 2 hblt p3; have hblt3 := Nat.lt_of_lt_of_le hblt hb3.size; clear hb3 hpb)
        obtain ⟨W4, hW4⟩ : ∃ W4, W4 = W3.setCell ⟨b1, 2, none⟩ (.slice la l.length lc) := ⟨_, rfl⟩
        rw [← hW4]
        have hB4 : Below w.heap.size w W4 := by rw [hW4]; exact (below_then HBW.out HB3.out).setCell (p := ⟨b1, 2, none⟩) HBL.out.1 _
        have hb9 := (HB3.out.block _ HBL.out.2).trans HE1.out
        have he4 : W4.heap[b1]? = some (.cells #[.int .i64 y.id, .string y.label, .slice la l.length lc] 28 (0, 0)) := by
          rw [hW4]
          have := blk_setCell hb9 (.slice la l.length lc) (i := 2)
          simpa using this
        have hp4 : PsA W4 la lc l := by
          rw [hW4]
          refine HPB.out.1.keep (n := b1) (fun b off e _ => ?_) (fun i _ hi => set_ne _ _ _ _ hi)
          have := HPB.out.2 b off e
          have := HBL.out.2
          omega
        have HE4 := Lib.hid he4
        have hg4 := HG0.out.below hB4
        have g9 : W4.cell? ⟨gb, 0, none⟩ = some (.map (some vb)) := by rw [cell_of_blk hg4.blk]; rfl
        have hlg9 := hg4.lt
        obtain ⟨W5, hrun, hg5, ht5⟩ := GrC.reV (w := W4.drew) (hg4.below (below_drewN (Below.refl _ _) 1)) HX0.out HRL.out (hp4.below (below_drewN (Below.refl _ _) 1)) HVL.out
        have HG5 := Lib.hid hg5
        have HC5 : Hid (Chg w W5 (fun i => i = vb ∨ i = eb)) := Lib.hid ((Chg.of_below hB4.drew _).turned ht5 (fun _ => .inl rfl))
        have q0 := cell_of_blk HE4.out 0
        have q1 := cell_of_blk HE4.out 1
        have q2 := cell_of_blk HE4.out 2
        simp at q0 q1 q2
        have hbl4 := (Array.getElem?_eq_some_iff.1 he4).1
        clear hW4 hB4 hb9 he4 hp4 hg4 hg5 ht5 r2 r3
        go_region
        all_goals
          go_wp2_with fail
          go_ret
          unfold ChPost
          rw [HR.out]
          exact ⟨rfl, HG5.out, HC5.out⟩
  · have HBL : Hid (w.heap.size ≤ b2 ∧ b2 < W2.heap.size) := Lib.hid ⟨by have h1 := congrArg (fun W : World => W.heap.size) HW1.out; simp at h1; have := HB1.out; have := HB2.out; omega, (Array.getElem?_eq_some_iff.1 HE2.out).1⟩
    cases ke
    · have HR : Hid (changeG V E true n f = (101, V, E)) := Lib.hid (by
        unfold changeG
        have h1 := HKE.out.symm
        rw [Option.isSome_eq_false_iff, Option.isNone_iff_eq_none] at h1
        simp only [h1, if_true])
      go_wp2_with fail
      go_ret
      unfold ChPost
      rw [HR.out]
      exact ⟨rfl, HG.out, Chg.of_below HBW.out _⟩
    · obtain ⟨x0, hx0⟩ := Option.isSome_iff_exists.1 HKE.out.symm
      have hxe : x = x0 := by rw [HX.out]; unfold getE; rw [hx0]; rfl
      have HX0 : Hid (findB Eg.id E n = some x) := Lib.hid (by rw [hxe]; exact hx0)
      have HRP : Hid (rightPs x.ps = true) := Lib.hid (by have h := HG.out; exact (checkR_zero (h.ok.e x (findB_some HX0.out).1)).2.2)
      have hcall := HB.out _ ea ec x.ps HBW.out HPE.out HRP.out
      unfold ByPost at hcall
      have p2 := cell_of_blk HE2.out 4
      have p3 := frozen_of_blk HE2.out 4
      simp at p2
      have hblt := HBL.out.2
      clear hx0 hxe
      cases hfx : f x.ps with
      | error z =>
        rw [hfx] at hcall
        have HC := Lib.hid hcall
        have hz := HF.out.err _ z HRP.out hfx
        have hz0 : (z == 0) = false := by simpa using hz
        have HR : Hid (changeG V E true n f = (z, V, E)) := Lib.hid (by
          unfold changeG
          simp only [HX0.out, if_true, hfx])
        clear hcall hfx hz
        go_wp2_with (go_at_fn g; refine HC.out.mono ?_; rintro e W3 ⟨hb3, rfl⟩; have HB3 := Lib.hid hb3; have r2 := below_cell hb3 4 hblt p2; have r3 := below_frozen hb3 4 hblt p3; have hblt3 := Nat.lt_of_lt_of_le hblt hb3.size; clear hb3)
        go_ret
        unfold ChPost
        rw [HR.out]
        have hbz := (below_then HBW.out HB3.out).setCell (p := ⟨b2, 4, none⟩) HBL.out.1 (.slice none 0 0)
        exact ⟨rfl, HG0.out.below hbz, Chg.of_below hbz _⟩
      | ok l =>
        rw [hfx] at hcall
        have HC := Lib.hid hcall
        have HR : Hid (changeG V E true n f = (0, V, chgB Eg.id E n (x.setPs l))) := Lib.hid (by
          unfold changeG
          simp only [HX0.out, if_true, hfx])
        have HRL := Lib.hid (HF.out.right _ l HRP.out hfx)
        clear hcall hfx
        go_upto_region 8 with (go_at_fn g; refine HC.out.mono ?_; rintro e W3 ⟨hb3, la, lc, rfl, hpb⟩; have HB3 := Lib.hid hb3; have HPB := Lib.hid hpb; have r2 := below_cell hb3 4 hblt p2; have r3 := below_frozen hb3 4 hblt p3; have hblt3 := Nat.lt_of_lt_of_le hblt hb3.size; clear hb3 hpb)
        obtain ⟨W4, hW4⟩ : ∃ W4, W4 = W3.setCell ⟨b2, 4, none⟩ (.slice la l.length lc) := ⟨_, rfl⟩
        rw [← hW4]
        have hB4 : Below w.heap.size w W4 := by rw [hW4]; exact (below_then HBW.out HB3.out).setCell (p := ⟨b2, 4, none⟩) HBL.out.1 _
        have hb9 := (HB3.out.block _ HBL.out.2).trans HE2.out
        have he4 : W4.heap[b2]? = some (.cells #[.int .i64 x.id, .string x.label, .int .i64 x.fr, .int .i64 x.to, .slice la l.length lc] 30 (0, 0)) := by
          rw [hW4]
          have := blk_setCell hb9 (.slice la l.length lc) (i := 4)
          simpa using this
        have hp4 : PsA W4 la lc l := by
          rw [hW4]
          refine HPB.out.1.keep (n := b2) (fun b off e _ => ?_) (fun i _ hi => set_ne _ _ _ _ hi)
          have := HPB.out.2 b off e
          have := HBL.out.2
          omega
        have HE4 := Lib.hid he4
        have hg4 := HG0.out.below hB4
        have g9 : W4.cell? ⟨gb, 1, none⟩ = some (.map (some eb)) := by rw [cell_of_blk hg4.blk]; rfl
        have hlg9 := hg4.lt
        obtain ⟨W5, hrun, hg5, ht5⟩ := GrC.reE (w := W4.drew) (hg4.below (below_drewN (Below.refl _ _) 1)) HX0.out HRL.out (hp4.below (below_drewN (Below.refl _ _) 1)) HEL.out
        have HG5 := Lib.hid hg5
        have HC5 : Hid (Chg w W5 (fun i => i = vb ∨ i = eb)) := Lib.hid ((Chg.of_below hB4.drew _).turned ht5 (fun _ => .inr rfl))
        have q0 := cell_of_blk HE4.out 0
        have q1 := cell_of_blk HE4.out 1
        have q2 := cell_of_blk HE4.out 2
        have q3 := cell_of_blk HE4.out 3
        have q4 := cell_of_blk HE4.out 4
        simp at q0 q1 q2 q3 q4
        have hbl4 := (Array.getElem?_eq_some_iff.1 he4).1
        clear hW4 hB4 hb9 he4 hp4 hg4 hg5 ht5 r2 r3
        go_region
        all_goals
          go_wp2_with fail
          go_ret
          unfold ChPost
          rw [HR.out]
          exact ⟨rfl, HG5.out, HC5.out⟩
end Go.Proofs.YtonilojjahfboaaGreat
namespace Go.Proofs.YtonilojjahfboaaGreat
open Go.RowKit Go.Maps

/-- news laid -/
def setF (news : List Pr) (ps : List Pr) : Except Int (List Pr) := setGo ps news
/-- keys taken out -/
def dropF (ks : List ByteArray) (ps : List Pr) : Except Int (List Pr) := .ok (dropP ps ks)
theorem setGo_err : ∀ {news ps : List Pr} {z : Int}, setGo ps news = .error z → z = 30 ∨ z = 22 ∨ z = 32
  | [], ps, z, h => by
    unfold setGo at h
    split at h
    · cases h; omega
    · cases h
  | p :: t, ps, z, h => by
    unfold setGo at h
    split at h
    · cases h; omega
    · split at h
      · cases h; omega
      · exact setGo_err h
theorem goodF_set (news : List Pr) : GoodF (setF news) :=
  ⟨fun ps l hr h => by
    obtain ⟨h1, h2⟩ := RtP.news (rightPs_iff.1 hr).1 h
    exact rightPs_iff.2 ⟨h1, h2⟩, fun ps z _ h => by
    have := setGo_err (show setGo ps news = .error z from h)
    omega⟩
theorem goodF_drop (ks : List ByteArray) : GoodF (dropF ks) :=
  ⟨fun ps l hr h => by
    unfold dropF at h
    injection h with h
    subst h
    obtain ⟨h1, h2⟩ := rightPs_iff.1 hr
    exact rightPs_iff.2 ⟨h1.filter _, Nat.le_trans (List.length_filter_le _ _) h2⟩, fun ps z _ h => by
    unfold dropF at h
    cases h⟩
set_option maxRecDepth 100000 in
set_option maxHeartbeats 1000000 in
theorem gset1_any (bb : Nat) (a na : Option Addr) (c nc : Nat) (ps news : List Pr) (w : World) (hb : w.cell? ⟨bb, 0, none⟩ = some (.slice na news.length nc)) (_ : bb < w.heap.size) (hn : PsV w na news) (hnl : news.length ≤ 10000) (h : PsA w a c ps) (hr : rightPs ps = true) :
    Calls Tryz.prog 166 #[.slice a ps.length c, .pointer (some ⟨bb, 0, none⟩)] w (ByPost (setF news) w ps) := by
  have hc := pset_any a na c nc ps news w h hr hn hnl
  unfold StPost at hc
  unfold ByPost setF
  cases hs : setGo ps news with
  | error z =>
    rw [hs] at hc
    have HC := Lib.hid hc
    clear h hn hr hc hs
    go_enter Tryz.func166, Tryz.ntmps166
    go_wp2_with (go_at_call 167; refine HC.out.mono ?_; rintro e w1 ⟨hb1, rfl⟩; have HB1 := Lib.hid hb1; clear hb1)
    go_ret2
    exact ⟨HB1.out, rfl⟩
  | ok l =>
    rw [hs] at hc
    have HC := Lib.hid hc
    clear h hn hr hc hs
    go_enter Tryz.func166, Tryz.ntmps166
    go_wp2_with (go_at_call 167; refine HC.out.mono ?_; rintro e w1 ⟨hb1, la, lc, rfl, hp⟩; have HB1 := Lib.hid hb1; have HP := Lib.hid hp; clear hb1 hp)
    go_ret2
    exact ⟨HB1.out, la, lc, rfl, HP.out⟩
set_option maxRecDepth 100000 in
set_option maxHeartbeats 1000000 in
theorem gunset1_any (bb : Nat) (a na : Option Addr) (c nc : Nat) (ps : List Pr) (ks : List ByteArray) (w : World) (hb : w.cell? ⟨bb, 0, none⟩ = some (.slice na ks.length nc)) (_ : bb < w.heap.size) (hn : SsV w na ks) (hnl : ks.length ≤ 10000) (h : PsA w a c ps) (hr : rightPs ps = true) :
    Calls Tryz.prog 170 #[.slice a ps.length c, .pointer (some ⟨bb, 0, none⟩)] w (ByPost (dropF ks) w ps) := by
  have hc := pdrop_any a na c nc ps ks w h (by have := (rightPs_iff.1 hr).2; omega) hn (by omega)
  have HC := Lib.hid hc
  clear h hn hr hc
  unfold ByPost dropF
  go_enter Tryz.func170, Tryz.ntmps170
  go_wp2_with (go_at_call 171; refine HC.out.mono ?_; rintro e w1 ⟨la, lc, rfl, hp, hb1⟩; have HB1 := Lib.hid hb1; have HP := Lib.hid hp; clear hb1 hp)
  go_ret2
  exact ⟨HB1.out, la, lc, rfl, HP.out⟩
theorem eg_set1 : ∀ args w, (callFunc 166 args).run Tryz.prog w = .ok (.enter 166 args) w := enters_of Tryz.func166 (by kernel_rfl) rfl
theorem eg_unset1 : ∀ args w, (callFunc 170 args).run Tryz.prog w = .ok (.enter 170 args) w := enters_of Tryz.func170 (by kernel_rfl) rfl
set_option maxRecDepth 100000 in
set_option maxHeartbeats 1000000 in
theorem gset_any (gb vb eb : Nat) (V : List Vt) (E : List Eg) (edge : Bool) (n : Int) (na : Option Addr) (nc : Nat) (news : List Pr) (w : World) (h : GrC w gb vb eb V E) (hi : I64 n) (hV : V.length < maxLen) (hE : E.length < maxLen) (hn : PsV w na news) (hnl : news.length ≤ 10000) :
    Calls Tryz.prog 85 #[.pointer (some ⟨gb, 0, none⟩), .bool edge, .int .i64 n, .slice na news.length nc] w (ChPost w gb vb eb V E edge n (setF news)) := by
  obtain ⟨W, hW⟩ : ∃ W, W = w.alloc (.cells #[.slice na news.length nc] 26) := ⟨_, rfl⟩
  have hBW : Below w.heap.size w W := by rw [hW]; exact below_box w _
  have eW : W.heap[w.heap.size]? = some (.cells #[.slice na news.length nc] 26) := by rw [hW]; exact heap_new w _
  have hc := gchange_by 166 #[.pointer (some ⟨w.heap.size, 0, none⟩)] (setF news) gb vb eb V E edge n W (h.below hBW) hi hV hE eg_set1 (goodF_set news) (fun W' a c ps hb hp hr => by
    have e1 := (hb.block _ (Array.getElem?_eq_some_iff.1 eW).1).trans eW
    exact gset1_any w.heap.size a na c nc ps news W' (by rw [cell_of_blk e1]; rfl) (Array.getElem?_eq_some_iff.1 e1).1 ((hn.below hBW).below hb) hnl hp hr)
  have HC := Lib.hid hc
  have HW := Lib.hid hW
  have HBW := Lib.hid hBW
  clear h hn hc hW hBW eW
  go_enter Tryz.func85, Tryz.ntmps85
  go_upto_region 1 with fail
  rw [← HW.out]
  go_wp2_with fail
  refine HC.out.mono ?_
  rintro e w1 ⟨rfl, hg, hch⟩
  have HG := Lib.hid hg
  have HCH := Lib.hid hch
  clear hg hch
  go_wp2_with fail
  go_ret
  exact ⟨rfl, HG.out, (Chg.of_below HBW.out _).trans HCH.out (fun _ _ h => h)⟩
set_option maxRecDepth 100000 in
set_option maxHeartbeats 1000000 in
theorem gunset_any (gb vb eb : Nat) (V : List Vt) (E : List Eg) (edge : Bool) (n : Int) (na : Option Addr) (nc : Nat) (ks : List ByteArray) (w : World) (h : GrC w gb vb eb V E) (hi : I64 n) (hV : V.length < maxLen) (hE : E.length < maxLen) (hn : SsV w na ks) (hnl : ks.length ≤ 10000) :
    Calls Tryz.prog 87 #[.pointer (some ⟨gb, 0, none⟩), .bool edge, .int .i64 n, .slice na ks.length nc] w (ChPost w gb vb eb V E edge n (dropF ks)) := by
  obtain ⟨W, hW⟩ : ∃ W, W = w.alloc (.cells #[.slice na ks.length nc] 31) := ⟨_, rfl⟩
  have hBW : Below w.heap.size w W := by rw [hW]; exact below_box w _
  have eW : W.heap[w.heap.size]? = some (.cells #[.slice na ks.length nc] 31) := by rw [hW]; exact heap_new w _
  have hc := gchange_by 170 #[.pointer (some ⟨w.heap.size, 0, none⟩)] (dropF ks) gb vb eb V E edge n W (h.below hBW) hi hV hE eg_unset1 (goodF_drop ks) (fun W' a c ps hb hp hr => by
    have e1 := (hb.block _ (Array.getElem?_eq_some_iff.1 eW).1).trans eW
    exact gunset1_any w.heap.size a na c nc ps ks W' (by rw [cell_of_blk e1]; rfl) (Array.getElem?_eq_some_iff.1 e1).1 ((hn.below hBW).below hb) hnl hp hr)
  have HC := Lib.hid hc
  have HW := Lib.hid hW
  have HBW := Lib.hid hBW
  clear h hn hc hW hBW eW
  go_enter Tryz.func87, Tryz.ntmps87
  go_upto_region 1 with fail
  rw [← HW.out]
  go_wp2_with fail
  refine HC.out.mono ?_
  rintro e w1 ⟨rfl, hg, hch⟩
  have HG := Lib.hid hg
  have HCH := Lib.hid hch
  clear hg hch
  go_wp2_with fail
  go_ret
  exact ⟨rfl, HG.out, (Chg.of_below HBW.out _).trans HCH.out (fun _ _ h => h)⟩
end Go.Proofs.YtonilojjahfboaaGreat
