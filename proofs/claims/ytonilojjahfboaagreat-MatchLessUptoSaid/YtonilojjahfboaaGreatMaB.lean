/- slices.ContainsFunc of links by a closure that changes the world, of nodes by one that does not. Conditions: each contract's own premises. A vertex and a label as a key of a map; what is known of who is next. Conditions: each lemma's own premises. What match.Run's inner steps stand on, in memory. Conditions: each lemma's own premises. slices.Index, slices.Contains, slices.Clone of ints. Conditions: each contract's own premises. -/
import Derived.Test.YtonilojjahfboaaGreatMa3
import Derived.Test.YtonilojjahfboaaGreatRnA
import Derived.Shelf.Abstract
import Derived.Deep.Cut
import Derived.Test.YtonilojjahfboaaGreatMaA
import Derived.Test.YtonilojjahfboaaGreatKyBase
import Derived.Test.YtonilojjahfboaaGreatIn1
import Derived.Test.YtonilojjahfboaaGreatGlA
namespace Go.Proofs.YtonilojjahfboaaGreat
open Go.RowKit Go.Maps

def IxsPost (R : Nat → World → Prop) (D : Nat → World → Prop) (n : Nat) (e : Ending) (w' : World) : Prop := (e = .returned (.int .i64 (-1)) ∧ R n w') ∨ ∃ k : Nat, k < n ∧ e = .returned (.int .i64 k) ∧ D k w'
def CnPost (R : Nat → World → Prop) (D : Nat → World → Prop) (n : Nat) (e : Ending) (w' : World) : Prop := (e = .returned (.bool false) ∧ R n w') ∨ ∃ k : Nat, k < n ∧ e = .returned (.bool true) ∧ D k w'
set_option maxRecDepth 100000 in
set_option maxHeartbeats 2000000 in
theorem idxLk_st (g : Nat) (cb : Array Value) (R D : Nat → World → Prop) (a : Option Addr) (cap : Nat) (l : List Lk) (w : World) (eg : ∀ args w, (callFunc g args).run Tryz.prog w = .ok (.enter g args) w) (hl : l.length ≤ 1000000)
    (h0 : R 0 w) (hv : ∀ k W, R k W → kLk.V W a l)
    (hp : ∀ (k : Nat) (W : World) (x : Lk), l[k]? = some x → R k W → Calls Tryz.prog g (#[.agg #[.int .i64 x.fr, .int .i64 x.tt, .string x.lab]] ++ cb) W fun e w' => (e = .returned (.bool false) ∧ R (k + 1) w') ∨ (e = .returned (.bool true) ∧ D k w')) :
    Calls Tryz.prog 366 #[.slice a l.length cap, .func (.func g) #[] cb] w (IxsPost R D l.length) := by
  have H0 := Lib.hid h0
  have HV := Lib.hid hv
  have HP := Lib.hid hp
  clear h0 hv hp
  go_enter Tryz.func366, Tryz.ntmps366
  go_wp2_with fail
  go_loopw [8] (fun i wr => ∃ k : Nat, k ≤ l.length ∧ i = .int .i64 k ∧ Hid (R k wr)) (fun i _ => l.length - (intOf i).toNat)
  case atStart => exact ⟨0, by omega, rfl, H0⟩
  case round =>
    obtain ⟨k, hk, rfl, HI⟩ := hrel
    by_cases hlt : k < l.length
    · obtain ⟨x, hx⟩ : ∃ x, l[k]? = some x := ⟨_, List.getElem?_eq_getElem hlt⟩
      obtain ⟨b, off, rfl, hat⟩ := HV.out k wr HI.out (fun e => by rw [e] at hlt; simp at hlt)
      obtain ⟨c0, c1, c2⟩ := kLk_cells hat hx
      have HC := Lib.hid (HP.out k wr x hx HI.out)
      clear hx hat
      go_wp2_with fail
      go_at_fn g
      refine HC.out.mono ?_
      rintro e w1 (⟨rfl, hq⟩ | ⟨rfl, hq⟩)
      · have HQ := Lib.hid hq
        clear hq
        go_wp2_with fail
        exact ⟨⟨k + 1, by omega, by go_num, HQ⟩, by simp [intOf]; omega⟩
      · have HQ := Lib.hid hq
        clear hq
        go_wp2_with fail
        go_ret
        exact .inr ⟨k, hlt, rfl, HQ.out⟩
    · obtain rfl : k = l.length := by omega
      go_wp2_with fail
      go_ret
      exact .inl ⟨rfl, HI.out⟩
set_option maxRecDepth 100000 in
theorem conLk_st (g : Nat) (cb : Array Value) (R D : Nat → World → Prop) (a : Option Addr) (cap : Nat) (l : List Lk) (w : World) (eg : ∀ args w, (callFunc g args).run Tryz.prog w = .ok (.enter g args) w) (hl : l.length ≤ 1000000)
    (h0 : R 0 w) (hv : ∀ k W, R k W → kLk.V W a l)
    (hp : ∀ (k : Nat) (W : World) (x : Lk), l[k]? = some x → R k W → Calls Tryz.prog g (#[.agg #[.int .i64 x.fr, .int .i64 x.tt, .string x.lab]] ++ cb) W fun e w' => (e = .returned (.bool false) ∧ R (k + 1) w') ∨ (e = .returned (.bool true) ∧ D k w')) :
    Calls Tryz.prog 310 #[.slice a l.length cap, .func (.func g) #[] cb] w (CnPost R D l.length) := by
  have HC := Lib.hid (idxLk_st g cb R D a cap l w eg hl h0 hv hp)
  clear h0 hv hp
  go_enter Tryz.func310, Tryz.ntmps310
  go_wp2_with fail
  refine HC.out.mono ?_
  rintro e w1 (⟨rfl, hq⟩ | ⟨k, hk, rfl, hq⟩)
  · have HQ := Lib.hid hq
    clear hq HC
    go_wp2_with fail
    go_ret
    exact .inl ⟨rfl, HQ.out⟩
  · have HQ := Lib.hid hq
    have t1 : decide ((0 : Int) ≤ (k : Int)) = true := decide_eq_true (by omega)
    clear hq HC
    go_wp2_with fail
    go_ret
    exact .inr ⟨k, hk, ret_bool t1, HQ.out⟩
set_option maxRecDepth 100000 in
set_option maxHeartbeats 2000000 in
theorem idxNd_by (g : Nat) (cb : Array Value) (p : Nd → Bool) (a : Option Addr) (cap : Nat) (l : List Nd) (w : World) (eg : ∀ args w, (callFunc g args).run Tryz.prog w = .ok (.enter g args) w) (hv : kNd.V w a l) (hl : l.length ≤ 1000000)
    (hp : ∀ (W : World) (x : Nd), x ∈ l → Below w.heap.size w W → Calls Tryz.prog g (#[.agg #[.string x.lab, .string x.key, .int .i64 x.low.kind, .int .i64 x.low.n, .string x.low.s, .int .i64 x.high.kind, .int .i64 x.high.n, .string x.high.s]] ++ cb) W fun e w' => e = .returned (.bool (p x)) ∧ Below W.heap.size W w') :
    Calls Tryz.prog 229 #[.slice a l.length cap, .func (.func g) #[] cb] w fun e w' => e = .returned (.int .i64 (idxG p l 0)) ∧ Below w.heap.size w w' := by
  have HR := Lib.hid hv
  have HP := Lib.hid hp
  clear hv hp
  go_enter Tryz.func229, Tryz.ntmps229
  go_wp2_with fail
  go_loopw [8] (fun i wr => ∃ k : Nat, k ≤ l.length ∧ i = .int .i64 k ∧ Hid (idxG p l 0 = idxG p (l.drop k) k) ∧ Below w.heap.size w wr) (fun i _ => l.length - (intOf i).toNat)
  case atStart => exact ⟨0, by omega, rfl, Lib.hid rfl, Below.refl _ _⟩
  case round =>
    obtain ⟨k, hk, rfl, HI, hbr⟩ := hrel
    by_cases hlt : k < l.length
    · obtain ⟨x, hx⟩ : ∃ x, l[k]? = some x := ⟨_, List.getElem?_eq_getElem hlt⟩
      obtain ⟨b, off, rfl, hat⟩ := HR.out (fun e => by rw [e] at hlt; simp at hlt)
      obtain ⟨c0, c1, c2, c3, c4, c5, c6, c7⟩ := kNd_cells (hat.below hbr) hx
      have hc := HP.out wr x (List.mem_of_getElem? hx) hbr
      have hD := Lib.hid (idxG_drop (p := p) hx)
      obtain ⟨q, hq⟩ : ∃ q, p x = q := ⟨_, rfl⟩
      have HQ := Lib.hid hq
      rw [hq] at hc
      have HC := Lib.hid hc
      clear hx hat hq hc
      cases q
      · have HN : Hid (idxG p l 0 = idxG p (l.drop (k + 1)) ((k + 1 : Nat) : Int)) := Lib.hid (by rw [HI.out, hD.out, HQ.out, if_neg (by decide)]; rfl)
        go_wp2_with (go_at_fn g; refine HC.out.mono ?_; rintro e w1 ⟨rfl, b1⟩; have HB1 := Lib.hid (below_then hbr b1); clear b1)
        exact ⟨⟨k + 1, by omega, by go_num, HN, HB1.out⟩, by simp [intOf]; omega⟩
      · have HN : Hid (idxG p l 0 = k) := Lib.hid (by rw [HI.out, hD.out, HQ.out, if_pos rfl])
        go_wp2_with (go_at_fn g; refine HC.out.mono ?_; rintro e w1 ⟨rfl, b1⟩; have HB1 := Lib.hid (below_then hbr b1); clear b1)
        go_ret
        exact ⟨by rw [HN.out]; rfl, HB1.out⟩
    · obtain rfl : k = l.length := by omega
      have HN : Hid (idxG p l 0 = -1) := Lib.hid (by rw [HI.out, List.drop_length]; rfl)
      go_wp2_with fail
      go_ret
      exact ⟨by rw [HN.out]; rfl, hbr⟩
theorem idxG_any {α : Type} (p : α → Bool) (l : List α) : (idxG p l 0 = -1 ∧ l.any p = false) ∨ (0 ≤ idxG p l 0 ∧ l.any p = true) := by
  rcases idxG_cases p l 0 with ⟨h1, h2⟩ | ⟨k, x, h1, h2, h3, h4⟩
  · exact .inl ⟨h1, List.any_eq_false.2 (fun x hx => by rw [h2 x hx]; decide)⟩
  · exact .inr ⟨by rw [show idxG p l 0 = ((0 + k : Nat) : Int) from h1]; omega, List.any_eq_true.2 ⟨x, List.mem_of_getElem? h2, h3⟩⟩
set_option maxRecDepth 100000 in
theorem conNd_by (g : Nat) (cb : Array Value) (p : Nd → Bool) (a : Option Addr) (cap : Nat) (l : List Nd) (w : World) (eg : ∀ args w, (callFunc g args).run Tryz.prog w = .ok (.enter g args) w) (hv : kNd.V w a l) (hl : l.length ≤ 1000000)
    (hp : ∀ (W : World) (x : Nd), x ∈ l → Below w.heap.size w W → Calls Tryz.prog g (#[.agg #[.string x.lab, .string x.key, .int .i64 x.low.kind, .int .i64 x.low.n, .string x.low.s, .int .i64 x.high.kind, .int .i64 x.high.n, .string x.high.s]] ++ cb) W fun e w' => e = .returned (.bool (p x)) ∧ Below W.heap.size W w') :
    Calls Tryz.prog 132 #[.slice a l.length cap, .func (.func g) #[] cb] w fun e w' => e = .returned (.bool (l.any p)) ∧ Below w.heap.size w w' := by
  have HC := Lib.hid (idxNd_by g cb p a cap l w eg hv hl hp)
  obtain ⟨r, hr⟩ : ∃ r, r = idxG p l 0 := ⟨_, rfl⟩
  have hd : decide ((0 : Int) ≤ r) = l.any p := by
    rw [hr]
    rcases idxG_any p l with ⟨h1, h2⟩ | ⟨h1, h2⟩
    · rw [h1, h2]; rfl
    · rw [h2]; exact decide_eq_true h1
  rw [← hr] at HC
  have HD := Lib.hid hd
  clear hv hp hr hd
  go_enter Tryz.func132, Tryz.ntmps132
  go_wp2_with fail
  refine HC.out.mono ?_
  rintro e w1 ⟨rfl, hq⟩
  have HQ := Lib.hid hq
  clear hq HC
  go_wp2_with fail
  go_ret
  exact ⟨ret_bool HD.out, HQ.out⟩
end Go.Proofs.YtonilojjahfboaaGreat
namespace Go.Proofs.YtonilojjahfboaaGreat
open Go.RowKit Go.Maps Go.WideMaps

def stLit (id : Int) (lab : ByteArray) : Lit := .string (keyBytes [.int .i64 id, .string lab.data.toList])
theorem rowSt : (465 : TypeId) < Tryz.prog.types.size := of_decide_eq_true (by kernel_rfl)
theorem wideSt : (match Tryz.prog.underlying 465 with | some (.array _ _) | some (.struct _) => true | _ => false) = true := by kernel_rfl
theorem deepSt3 : Tryz.prog.keyTypeAt 3 465 = true := by kernel_rfl
set_option maxRecDepth 100000 in
theorem lawSt0 : KeyLaw Tryz.prog 465 := deep_law_laid laidOut (m := 3) (by omega) rowSt deepSt3 wideSt
theorem lawSt : Keyed Tryz.prog 465 := Keyed.of_law lawSt0
theorem deepSt : Tryz.prog.keyTypeAt (Tryz.prog.types.size + 1) 465 = true := by kernel_rfl
theorem cellsSt : Tryz.prog.cellsOf 465 = 2 := by kernel_rfl
theorem keySt {id : Int} {lab : ByteArray} (h1 : I64 id) (h2 : lab.size ≤ maxLen) : keyOf Tryz.prog 465 (.agg #[.int .i64 id, .string lab]) = some (stLit id lab) := by
  obtain ⟨m, hm⟩ := typesSize
  have w1 := h1.wf
  unfold keyOf
  simp only [Tryz.underlying465]
  have e1 : Tryz.prog.cellsOf 3 = 1 := by kernel_rfl
  have e2 : Tryz.prog.cellsOf 9 = 1 := by kernel_rfl
  rw [if_pos (by simp [show Tryz.prog.keyType 465 = true from deepSt, Value.formed, Tryz.underlying465, cellsSt]), hm]
  unfold Program.keyLits
  simp only [Tryz.underlying465, Value.cells]
  rw [if_pos (by constructor <;> simp [cellsSt])]
  simp [Program.keyLits, e1, e2, Tryz.underlying3, Tryz.underlying9, w1, h2, stLit]
theorem stLit_inj {id id' : Int} {lab lab' : ByteArray} (h1 : I64 id) (h2 : lab.size ≤ maxLen) (h3 : I64 id') (h4 : lab'.size ≤ maxLen) (e : stLit id lab = stLit id' lab') : id = id' ∧ lab = lab' := by
  have e1 := keySt h1 h2
  have e2 := keySt h3 h4
  rw [e] at e1
  have := lawSt0.inj e1 e2
  simpa using this
/-- what is known of who is next -/
abbrev Ca := List ((Int × ByteArray) × Ws)
open Classical in
noncomputable def lookC (C : Ca) (p : Int × ByteArray) : Option Ws := (C.find? (fun x => decide (x.1 = p))).map (·.2)
def keysC (C : Ca) : List (Int × ByteArray) := C.map (·.1)
open Classical in
theorem lookC_cons (C : Ca) (p q : Int × ByteArray) (x : Ws) : lookC ((p, x) :: C) q = if q = p then some x else lookC C q := by
  unfold lookC
  rw [List.find?_cons]
  by_cases h : q = p
  · subst h; simp
  · rw [if_neg h]
    simp [Ne.symm h]
open Classical in
theorem lookC_none {C : Ca} {p : Int × ByteArray} : lookC C p = none ↔ p ∉ keysC C := by
  unfold lookC keysC
  rw [Option.map_eq_none_iff, List.find?_eq_none]
  constructor
  · intro h hm
    obtain ⟨x, hx, e⟩ := List.mem_map.1 hm
    exact h x hx (by simpa using e)
  · intro h x hx e
    exact h (List.mem_map.2 ⟨x, hx, by simpa using e⟩)
open Classical in
theorem lookC_mem {C : Ca} {p : Int × ByteArray} {x : Ws} (h : lookC C p = some x) : (p, x) ∈ C := by
  unfold lookC at h
  obtain ⟨y, hy, e⟩ := Option.map_eq_some_iff.1 h
  have h1 := List.mem_of_find?_eq_some hy
  have h2 := List.find?_some hy
  simp at h2
  rw [← h2, ← e]
  exact h1
/-- numbers in a block of their own, which is not a given one -/
def FrX (u : World) (B : Nat) (r : Option Nat) (x : Ws) : Prop := (x.a = none ∧ x.l = []) ∨ ∃ (g : Nat) (cur : Array Value), x.a = some ⟨g, 0, none⟩ ∧ B ≤ g ∧ some g ≠ r ∧ u.heap[g]? = some (.cells cur 3 (0, 0)) ∧ ∀ (i : Nat) (n : Int), x.l[i]? = some n → cur[i]? = some (.int .i64 n)
section
variable {u u' : World} {B : Nat} {r r' : Option Nat} {x : Ws}
theorem FrX.of_fresh {w : World} (h : FreshI B w x.a x.l) (hr : ∀ g, r = some g → g < B) : FrX w B r x := by
  rcases h with h | ⟨g, cur, h1, h2, h3, h4⟩
  · exact .inl h
  · exact .inr ⟨g, cur, h1, h2, fun e => by have := hr g e.symm; omega, h3, h4⟩
theorem FrX.fresh (h : FrX u B r x) : FreshI B u x.a x.l := by
  rcases h with h | ⟨g, cur, h1, h2, _, h3, h4⟩
  · exact .inl h
  · exact .inr ⟨g, cur, h1, h2, h3, h4⟩
theorem FrX.mono {B' : Nat} (h : FrX u B r x) (hB : B' ≤ B) : FrX u B' r x := by
  rcases h with h | ⟨g, cur, h1, h2, h3⟩
  · exact .inl h
  · exact .inr ⟨g, cur, h1, by omega, h3⟩
/-- blocks of numbers stay, but for the given one; another one is given now, which is new -/
theorem FrX.keep (h : FrX u B r x) (hk : ∀ (g : Nat) (cur : Array Value), u.heap[g]? = some (.cells cur 3 (0, 0)) → some g ≠ r → u'.heap[g]? = some (.cells cur 3 (0, 0))) (hr : r' = r ∨ r' = some u.heap.size) : FrX u' B r' x := by
  rcases h with h | ⟨g, cur, h1, h2, h3, h4, h5⟩
  · exact .inl h
  · refine .inr ⟨g, cur, h1, h2, ?_, hk g cur h4 h3, h5⟩
    rcases hr with rfl | rfl
    · exact h3
    · intro e
      have := (Array.getElem?_eq_some_iff.1 h4).1
      injection e with e
      omega
end
end Go.Proofs.YtonilojjahfboaaGreat
namespace Go.Proofs.YtonilojjahfboaaGreat
open Go.RowKit Go.Maps

theorem WkS.chgM {w0 w w' : World} {wb gb : Nat} {st : Option Nat} {S : Nat → Prop} (h : WkS w0 w wb gb st) (hc : Chg w w' S) (hn : ¬ S wb) (hS : ∀ j, S j → w0.heap.size ≤ j) : WkS w0 w' wb gb st :=
  ⟨⟨hc.os.trans h.bel.os, hc.tape.trans h.bel.tape, hc.output.trans h.bel.output, Nat.le_trans h.bel.size hc.size, fun k hk => (hc.block k (Nat.lt_of_lt_of_le hk h.bel.size) (fun hs => by have := hS k hs; omega)).trans (h.bel.block k hk)⟩, h.new, (hc.block _ h.lt hn).trans h.blk, h.small⟩
/-- what stays while one goes on: the walk's base, the graph, the pattern, where all lies -/
structure Mq where
  w0 : World
  wb : Nat
  gb : Nat
  vb : Nat
  eb : Nat
  V : List Vt
  E : List Eg
  na : Option Addr
  la : Option Addr
  nc : Nat
  lc : Nat
  NS : List Nd
  LS : List Lk
  B : Nat
  rb : Nat
  mb : Nat
  oa : Option Addr
  oc : Nat
  OF : List Ws
  most : Nat
/-- all vertices with all labels of links -/
def uniP (V : List Vt) (LS : List Lk) : List (Int × ByteArray) := LS.flatMap (fun l => V.map (fun v => (v.id, l.lab)))
def costP (E : List Eg) (p : Int × ByteArray) : Nat := 1 + (idsE E (sideP true p.1)).length
noncomputable def potQ (q : Mq) (C : Ca) : Nat := potC (costP q.E) (keysC C) (uniP q.V q.LS)
structure Mq.Ok (q : Mq) : Prop where
  g : GrC q.w0 q.gb q.vb q.eb q.V q.E
  wbB : q.wb < q.B
  rbB : q.B ≤ q.rb
  mbB : q.B ≤ q.mb
  vl : q.V.length ≤ 1000
  el : q.E.length ≤ 1000
  ll : q.LS.length ≤ 100
  lr : ∀ l ∈ q.LS, rightLk q.NS.length l = true
  ls : ∀ l ∈ q.LS, l.lab.size ≤ maxLen
  ol : q.OF.length = q.NS.length
  nl : q.NS.length ≤ 8
  oL : ∀ x ∈ q.OF, x.l.length ≤ q.V.length
  os : ∀ x ∈ q.OF, ∀ n ∈ x.l, n ∈ q.V.map Vt.id
  mo : q.most ≤ 4096
/-- the pattern's links stay where they are -/
def Mq.Kp (q : Mq) (w : World) : Prop := ∀ u, Chg w u (fun j => j = q.wb ∨ q.B ≤ j) → kLk.V u q.la q.LS
theorem Mq.Kp.chg {q : Mq} {w w' : World} (h : q.Kp w) (hc : Chg w w' (fun j => j = q.wb ∨ q.B ≤ j)) : q.Kp w' := fun u hu => h u (hc.trans hu (fun _ _ e => e))
/-- which vertices a node has, as they were found -/
def candQ (q : Mq) (i : Nat) : List Int := match q.OF[i]? with
  | some x => x.l
  | none => []
structure MrI (q : Mq) (u : World) (st : Option Nat) (C : Ca) (row : List Int) (vr : Value) (out : List Ws) (vo : Value) : Prop where
  blk : u.heap[q.rb]? = some (.cells #[.pointer (some ⟨q.wb, 0, none⟩), .slice q.na q.NS.length q.nc, .slice q.la q.LS.length q.lc, .slice q.oa q.OF.length q.oc, .map (some q.mb), vr, vo, .int .i64 q.most] 222 (0, 0))
  wk : WkS q.w0 u q.wb q.gb st
  ofo : kW2.Own u q.B (.slice q.oa q.OF.length q.oc) q.OF
  ofc : ∀ x ∈ q.OF, FrX u q.B vr.ownBlock x
  mp : ∃ f, mapR u Tryz.prog 465 q.mb C.length f ∧ ∀ id lab, I64 id → lab.size ≤ maxLen → f (stLit id lab) = (lookC C (id, lab)).map (fun x => .slice x.a x.l.length x.c)
  mc : ∀ p ∈ C, FrX u q.B vr.ownBlock p.2
  mr : st.isSome = true → ∀ p ∈ C, p.2.l = nextL q.E true p.1.2 p.1.1
  ml : ∀ p ∈ C, p.2.l.length ≤ 1000
  kn : (keysC C).Nodup
  ku : ∀ p ∈ keysC C, p ∈ uniP q.V q.LS
  rowo : kI.Own u q.B vr row
  rl : row.length ≤ 8
  rv : ∀ n ∈ row, n ∈ q.V.map Vt.id
  outo : kW2.Own u q.B vo out
  outc : ∀ x ∈ out, FrX u q.B vr.ownBlock x
  ol : out.length ≤ q.most + 1
  sep : ∀ j, vo.ownBlock = some j → (Value.slice q.oa q.OF.length q.oc).ownBlock ≠ some j
section
variable {q : Mq} {u u' : World} {st st' : Option Nat} {C C' : Ca} {row : List Int} {vr : Value} {out : List Ws} {vo : Value}
theorem MrI.lt (h : MrI q u st C row vr out vo) : q.rb < u.heap.size := (Array.getElem?_eq_some_iff.1 h.blk).1
theorem MrI.cells (h : MrI q u st C row vr out vo) : u.cell? ⟨q.rb, 0, none⟩ = some (.pointer (some ⟨q.wb, 0, none⟩)) ∧ u.cell? ⟨q.rb, 1, none⟩ = some (.slice q.na q.NS.length q.nc) ∧ u.cell? ⟨q.rb, 2, none⟩ = some (.slice q.la q.LS.length q.lc) ∧ u.cell? ⟨q.rb, 3, none⟩ = some (.slice q.oa q.OF.length q.oc) ∧ u.cell? ⟨q.rb, 4, none⟩ = some (.map (some q.mb)) ∧ u.cell? ⟨q.rb, 5, none⟩ = some vr ∧ u.cell? ⟨q.rb, 6, none⟩ = some vo ∧ u.cell? ⟨q.rb, 7, none⟩ = some (.int .i64 q.most) ∧ q.rb < u.heap.size :=
  ⟨by rw [cell_of_blk h.blk]; rfl, by rw [cell_of_blk h.blk]; rfl, by rw [cell_of_blk h.blk]; rfl, by rw [cell_of_blk h.blk]; rfl, by rw [cell_of_blk h.blk]; rfl, by rw [cell_of_blk h.blk]; rfl, by rw [cell_of_blk h.blk]; rfl, by rw [cell_of_blk h.blk]; rfl, h.lt⟩
theorem MrI.mapB (h : MrI q u st C row vr out vo) : ∃ es clock, u.heap[q.mb]? = some (.map es clock) := by
  obtain ⟨f, ⟨D, ⟨es, clock, hb, _⟩, _⟩, _⟩ := h.mp
  exact ⟨es, clock, hb⟩
theorem cells_ne {b : Nat} {c c' : Array Value} {t t' : TypeId} {z z' : Nat × Nat} (h : u.heap[b]? = some (.cells c t z)) (h' : u.heap[b]? = some (.cells c' t' z')) (hn : t ≠ t') : False := by
  rw [h] at h'
  injection h' with h'
  injection h' with e1 e2
  exact hn e2
/-- where blocks of numbers, and of slices, do not lie -/
theorem MrI.int_ne (h : MrI q u st C row vr out vo) {g : Nat} {cur : Array Value} (hg : u.heap[g]? = some (.cells cur 3 (0, 0))) : g ≠ q.rb ∧ g ≠ q.wb ∧ g ≠ q.mb :=
  ⟨fun e => by subst e; exact cells_ne hg h.blk (by decide), fun e => by subst e; exact cells_ne hg h.wk.blk (by decide), fun e => by
    obtain ⟨es, cl, hm⟩ := h.mapB
    rw [← e, hg] at hm
    cases hm⟩
theorem MrI.sl_ne (h : MrI q u st C row vr out vo) {g : Nat} {cur : Array Value} (hg : u.heap[g]? = some (.cells cur 42 (0, 0))) : g ≠ q.rb ∧ g ≠ q.wb ∧ g ≠ q.mb :=
  ⟨fun e => by subst e; exact cells_ne hg h.blk (by decide), fun e => by subst e; exact cells_ne hg h.wk.blk (by decide), fun e => by
    obtain ⟨es, cl, hm⟩ := h.mapB
    rw [← e, hg] at hm
    cases hm⟩
theorem ownI_block {w : World} {B : Nat} {v : Value} {l : List Int} (h : kI.Own w B v l) {j : Nat} (hj : v.ownBlock = some j) : ∃ cur, w.heap[j]? = some (.cells cur 3 (0, 0)) := by
  rcases h.2 with ⟨h1, _⟩ | ⟨g, cp, cur, h1, _, hg, _⟩
  · rw [h1] at hj; cases hj
  · rw [h1] at hj
    injection hj with hj
    subst hj
    exact ⟨cur, hg⟩
theorem ownW_block {w : World} {B : Nat} {v : Value} {l : List Ws} (h : kW2.Own w B v l) {j : Nat} (hj : v.ownBlock = some j) : ∃ cur, w.heap[j]? = some (.cells cur 42 (0, 0)) := by
  rcases h.2 with ⟨h1, _⟩ | ⟨g, cp, cur, h1, _, hg, _⟩
  · rw [h1] at hj; cases hj
  · rw [h1] at hj
    injection hj with hj
    subst hj
    exact ⟨cur, hg⟩
/-- the walk and the map have changed, nothing else -/
theorem MrI.turn (h : MrI q u st C row vr out vo) (hc : Chg u u' (fun j => j = q.wb ∨ j = q.mb)) (hne : q.rb ≠ q.mb) (hwr : q.wb ≠ q.rb) (wk : WkS q.w0 u' q.wb q.gb st')
    (mp : ∃ f, mapR u' Tryz.prog 465 q.mb C'.length f ∧ ∀ id lab, I64 id → lab.size ≤ maxLen → f (stLit id lab) = (lookC C' (id, lab)).map (fun x => .slice x.a x.l.length x.c))
    (mc : ∀ p ∈ C', FrX u' q.B vr.ownBlock p.2) (mr : st'.isSome = true → ∀ p ∈ C', p.2.l = nextL q.E true p.1.2 p.1.1) (ml : ∀ p ∈ C', p.2.l.length ≤ 1000) (kn : (keysC C').Nodup) (ku : ∀ p ∈ keysC C', p ∈ uniP q.V q.LS) :
    MrI q u' st' C' row vr out vo := by
  have ki : ∀ (g : Nat) (cur : Array Value), u.heap[g]? = some (.cells cur 3 (0, 0)) → u'.heap[g]? = some (.cells cur 3 (0, 0)) := fun g cur hg =>
    (hc.block g (Array.getElem?_eq_some_iff.1 hg).1 (fun e => by have := h.int_ne hg; rcases e with e | e; exact this.2.1 e; exact this.2.2 e)).trans hg
  have ks : ∀ (g : Nat) (cur : Array Value), u.heap[g]? = some (.cells cur 42 (0, 0)) → u'.heap[g]? = u.heap[g]? := fun g cur hg =>
    hc.block g (Array.getElem?_eq_some_iff.1 hg).1 (fun e => by have := h.sl_ne hg; rcases e with e | e; exact this.2.1 e; exact this.2.2 e)
  have kf : ∀ x, FrX u q.B vr.ownBlock x → FrX u' q.B vr.ownBlock x := fun x hx => hx.keep (fun g cur hg _ => ki g cur hg) (.inl rfl)
  exact ⟨(hc.block _ h.lt (fun e => by rcases e with e | e; exact hwr e.symm; exact hne e)).trans h.blk, wk,
    ownsRow_of_block h.ofo (fun j hj => by obtain ⟨cur, hg⟩ := ownW_block h.ofo hj; exact ks j cur hg), fun x hx => kf x (h.ofc x hx), mp, mc, mr, ml, kn, ku,
    ownsRow_of_block h.rowo (fun j hj => by obtain ⟨cur, hg⟩ := ownI_block h.rowo hj; rw [ki j cur hg, hg]), h.rl, h.rv,
    ownsRow_of_block h.outo (fun j hj => by obtain ⟨cur, hg⟩ := ownW_block h.outo hj; exact ks j cur hg), fun x hx => kf x (h.outc x hx), h.ol, h.sep⟩
theorem MrI.below (h : MrI q u st C row vr out vo) (hb : Below u.heap.size u u') : MrI q u' st C row vr out vo := by
  have ki : ∀ (g : Nat) (cur : Array Value), u.heap[g]? = some (.cells cur 3 (0, 0)) → u'.heap[g]? = some (.cells cur 3 (0, 0)) := fun g cur hg => (hb.block g (Array.getElem?_eq_some_iff.1 hg).1).trans hg
  have kf : ∀ x, FrX u q.B vr.ownBlock x → FrX u' q.B vr.ownBlock x := fun x hx => hx.keep (fun g cur hg _ => ki g cur hg) (.inl rfl)
  obtain ⟨f, m, hf⟩ := h.mp
  exact ⟨(hb.block _ h.lt).trans h.blk, h.wk.below hb, h.ofo.below hb, fun x hx => kf x (h.ofc x hx), ⟨f, m.of_block (hb.block _ m.lt), hf⟩, fun p hp => kf _ (h.mc p hp), h.mr, h.ml, h.kn, h.ku, h.rowo.below hb, h.rl, h.rv, h.outo.below hb, fun x hx => kf x (h.outc x hx), h.ol, h.sep⟩
theorem MrI.paid (h : MrI q u st C row vr out vo) (hwr : q.wb ≠ q.rb) (hwm : q.wb ≠ q.mb) (hne : q.rb ≠ q.mb) (hc : Chg u u' (fun j => j = q.wb)) (wk : WkS q.w0 u' q.wb q.gb st') (hst : st'.isSome = true → st.isSome = true) : MrI q u' st' C row vr out vo := by
  have ki : ∀ (g : Nat) (cur : Array Value), u.heap[g]? = some (.cells cur 3 (0, 0)) → u'.heap[g]? = some (.cells cur 3 (0, 0)) := fun g cur hg => (hc.block g (Array.getElem?_eq_some_iff.1 hg).1 (fun e => (h.int_ne hg).2.1 e)).trans hg
  obtain ⟨f, m, hf⟩ := h.mp
  exact h.turn (hc.mono (fun j _ e => .inl e)) hne hwr wk ⟨f, m.of_block (hc.block _ m.lt (fun e => hwm e.symm)), hf⟩ (fun p hp => (h.mc p hp).keep (fun g cur hg _ => ki g cur hg) (.inl rfl)) (fun hs => h.mr (hst hs)) h.ml h.kn h.ku
end
end Go.Proofs.YtonilojjahfboaaGreat
namespace Go.Proofs.YtonilojjahfboaaGreat
open Go.RowKit Go.Maps

set_option maxRecDepth 100000 in
theorem indexI_any (a : Option Addr) (cap : Nat) (l : List Int) (n : Int) (w : World) (hv : kI.V w a l) (hl : l.length ≤ 1000000) :
    Calls Tryz.prog 309 #[.slice a l.length cap, .int .i64 n] w fun e w' => ∃ r : Int, e = .returned (.int .i64 r) ∧ ((r = -1 ∧ l.contains n = false) ∨ (0 ≤ r ∧ l.contains n = true)) ∧ w = w' := by
  have HR := Lib.hid hv
  clear hv
  go_enter Tryz.func309, Tryz.ntmps309
  go_wp2_with fail
  go_loopw [8] (fun i wr => ∃ k : Nat, k ≤ l.length ∧ i = .int .i64 k ∧ Hid (∀ y ∈ l.take k, y ≠ n) ∧ w = wr) (fun i _ => l.length - (intOf i).toNat)
  case atStart => exact ⟨0, by omega, rfl, Lib.hid (fun y hy => by simp at hy), rfl⟩
  case round =>
    obtain ⟨k, hk, rfl, HI, rfl⟩ := hrel
    by_cases hlt : k < l.length
    · obtain ⟨x, hx⟩ : ∃ x, l[k]? = some x := ⟨_, List.getElem?_eq_getElem hlt⟩
      obtain ⟨b, off, rfl, hat⟩ := HR.out (fun e => by rw [e] at hlt; simp at hlt)
      have c0 := kI_cell hat hx
      have HX := Lib.hid hx
      clear hx hat
      by_cases hq : n = x
      · have q1 : (n == x) = true := by simpa using hq
        have HQ := Lib.hid hq
        clear hq
        go_wp2_with fail
        go_ret
        exact ⟨_, rfl, .inr ⟨by omega, by rw [HQ.out]; simpa using List.mem_of_getElem? HX.out⟩, rfl⟩
      · have q1 : (n == x) = false := by simpa using hq
        have HQ := Lib.hid hq
        clear hq
        go_wp2_with fail
        refine ⟨⟨k + 1, by omega, by go_num, Lib.hid (fun y hy => ?_), by first | rfl | trivial⟩, by simp [intOf]; omega⟩
        rw [List.take_add_one, HX.out] at hy
        rcases List.mem_append.1 hy with hy | hy
        · exact HI.out y hy
        · simp at hy
          rw [hy]
          exact fun e => HQ.out e.symm
    · obtain rfl : k = l.length := by omega
      go_wp2_with fail
      go_ret
      refine ⟨_, rfl, .inl ⟨rfl, ?_⟩, rfl⟩
      have := HI.out
      rw [List.take_length] at this
      simpa using fun h => this n h rfl
theorem contI_any (a : Option Addr) (cap : Nat) (l : List Int) (n : Int) (w : World) (hv : kI.V w a l) (hl : l.length ≤ 1000000) :
    Calls Tryz.prog 224 #[.slice a l.length cap, .int .i64 n] w fun e w' => e = .returned (.bool (l.contains n)) ∧ w = w' := by
  have HI := Lib.hid (indexI_any a cap l n w hv hl)
  obtain ⟨q, hq⟩ : ∃ q, l.contains n = q := ⟨_, rfl⟩
  rw [hq] at HI ⊢
  clear hv hq
  go_enter Tryz.func224, Tryz.ntmps224
  go_wp2_with fail
  refine HI.out.mono ?_
  rintro e w1 ⟨r, rfl, hr, rfl⟩
  rcases hr with ⟨rfl, rfl⟩ | ⟨h0, rfl⟩
  · go_wp2_with fail
    go_ret
    exact ⟨rfl, rfl⟩
  · have h1 : decide (0 ≤ r) = true := decide_eq_true h0
    go_wp2_with fail
    go_ret
    exact ⟨rfl, rfl⟩
theorem nilI_some (a : Addr) (n c : Nat) (w : World) : (binOp .eql 42 (.slice (some a) n c) (.slice none 0 0)).run Tryz.prog w = .ok (.bool false) w := by kernel_rfl
theorem nilI_none (w : World) : (binOp .eql 42 (.slice none 0 0) (.slice none 0 0)).run Tryz.prog w = .ok (.bool true) w := by kernel_rfl
def CiPost (w : World) (l : List Int) (e : Ending) (w' : World) : Prop := ∃ a c, e = .returned (.slice a l.length c) ∧ kI.Own w' w.heap.size (.slice a l.length c) l ∧ Below w.heap.size w w'
set_option maxRecDepth 100000 in
set_option maxHeartbeats 400000 in
theorem cloneI_any (a : Option Addr) (c : Nat) (l : List Int) (w : World) (h : kI.V w a l) (hn : a = none → c = 0 ∧ l = []) (hl : l.length ≤ 100000) :
    Calls Tryz.prog 223 #[.slice a l.length c] w (CiPost w l) := by
  cases a with
  | none =>
    obtain ⟨rfl, rfl⟩ := hn rfl
    have hq := nilI_none w
    clear h hn
    go_enter Tryz.func223, Tryz.ntmps223
    go_wp2
    go_ret
    exact ⟨none, 0, rfl, RowK.Own.nil kI _ _, Below.refl _ _⟩
  | some a =>
    have HO : Hid (kI.Own (w.alloc (.cells #[] 3)) w.heap.size (.slice (some ⟨w.heap.size, 0, none⟩) 0 0) []) := Lib.hid (RowK.Own.new (k := kI) (heap_new w _) (Nat.le_refl _) rfl (Nat.zero_le _))
    have HV := Lib.hid (h.below (below_box w (.cells #[] 3)))
    have HL := Lib.hid hl
    have hq := nilI_some a l.length c w
    clear h hl hn
    go_enter Tryz.func223, Tryz.ntmps223
    go_wp2_with (at_builtin; refine RowK.wpList_app (k := kI) rfl (.tmp 5) (.tmp 6) rfl rfl HO.out (some a) l.length l c rfl rfl HV.out (fun e => by cases e) (by have := HL.out; simp; omega) (by simp) ?_; intro v8 w8 hA; have HA8 := Lib.hid hA; clear hA)
    obtain ⟨oA, gA, kA⟩ := HA8.out
    rw [List.nil_append] at oA
    obtain ⟨a2, c2, rfl⟩ := oA.shape
    have HOA := Lib.hid oA
    have HB : Hid (Below w.heap.size w w8) := Lib.hid ((below_box w (.cells #[] 3)).grown gA (by simp) (fun j hj => (HO.out.lt j hj).1))
    clear oA gA kA
    go_wp2_with fail
    go_ret
    exact ⟨a2, c2, rfl, HOA.out, HB.out⟩
end Go.Proofs.YtonilojjahfboaaGreat
