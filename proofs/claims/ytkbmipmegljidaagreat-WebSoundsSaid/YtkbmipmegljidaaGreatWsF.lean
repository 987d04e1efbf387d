/- Writes in plain form and in a row; slices.IndexFunc of writes. Conditions: each contract's own premises. (Lines of Rd1, Rd10, Oc5, Rp1, Rp2, by themselves.) Stable sort of writes by any closure, 1: swapRangeCmpFunc, rotateCmpFunc, insertionSortCmpFunc, symMergeCmpFunc where a part is one. Conditions: each contract's own premises. (Printed by gen_sw.py out of the sort of ints.) -/
import Derived.Test.YtkbmipmegljidaaGreatWsD
import Derived.Test.YtkbmipmegljidaaGreatRow
import Derived.Test.YtkbmipmegljidaaGreatWsE
import Derived.Shelf.Abstract
import Derived.Deep.Cut
import Derived.Deep.RegionHeld3
import Derived.BigRegion
import Derived.Test.YtkbmipmegljidaaGreatWsG
namespace Go.Proofs.YtkbmipmegljidaaGreat
open Go.RowKit Go.Maps

/-- a write -/
structure Wr where
  k : Ky
  val : ByteArray
  has : Bool
def Wr.cells (w : Wr) : List Value := [.int .i64 w.k.kind, .int .i64 w.k.a, .int .i64 w.k.b, .string w.k.s, .string w.val, .bool w.has]
structure Wr.Ok (w : Wr) : Prop where
  k : w.k.Ok
  val : w.val.size ≤ maxLen
theorem infoWr : (Tryz.prog.info? 44).map (fun i => (i.zero, i.size, i.bytes)) = some (some (.agg #[.int .i64 0, .int .i64 0, .int .i64 0, .string ⟨#[]⟩, .string ⟨#[]⟩, .bool false]), 6, 64) := by kernel_rfl
/-- writes, as elements -/
def kW : RowK Tryz.prog Wr where
  t := 35
  e := 44
  size := 6
  bytes := 64
  z := .agg #[.int .i64 0, .int .i64 0, .int .i64 0, .string ⟨#[]⟩, .string ⟨#[]⟩, .bool false]
  enc := Wr.cells
  ht := Tryz.underlying35
  info := infoWr
  hz := rfl
  pos := by decide
  small := by decide
  len := fun _ => rfl
  one := fun x u hu => by
    simp [Wr.cells] at hu
    rcases hu with rfl | rfl | rfl | rfl | rfl | rfl <;> rfl
theorem kW_cells {w : World} {b off : Nat} {l : List Wr} (h : kW.At w b off l) {i : Nat} {p : Wr} (hp : l[i]? = some p) :
    w.cell? ⟨b, off + i * 6, none⟩ = some (.int .i64 p.k.kind) ∧ w.cell? ⟨b, off + i * 6 + 1, none⟩ = some (.int .i64 p.k.a) ∧ w.cell? ⟨b, off + i * 6 + 2, none⟩ = some (.int .i64 p.k.b) ∧ w.cell? ⟨b, off + i * 6 + 3, none⟩ = some (.string p.k.s) ∧ w.cell? ⟨b, off + i * 6 + 4, none⟩ = some (.string p.val) ∧ w.cell? ⟨b, off + i * 6 + 5, none⟩ = some (.bool p.has) :=
  ⟨h.cells i p hp 0 _ rfl, h.cells i p hp 1 _ rfl, h.cells i p hp 2 _ rfl, h.cells i p hp 3 _ rfl, h.cells i p hp 4 _ rfl, h.cells i p hp 5 _ rfl⟩
set_option maxRecDepth 100000 in
set_option maxHeartbeats 2000000 in
theorem idxWr_by (g : Nat) (cb : Array Value) (p : Wr → Bool) (a : Option Addr) (cap : Nat) (l : List Wr) (w : World) (eg : ∀ args w, (callFunc g args).run Tryz.prog w = .ok (.enter g args) w) (hv : kW.V w a l) (hl : l.length ≤ 1000000)
    (hp : ∀ (W : World) (x : Wr), x ∈ l → Below w.heap.size w W → Calls Tryz.prog g (#[.agg #[.int .i64 x.k.kind, .int .i64 x.k.a, .int .i64 x.k.b, .string x.k.s, .string x.val, .bool x.has]] ++ cb) W fun e w' => e = .returned (.bool (p x)) ∧ Below W.heap.size W w') :
    Calls Tryz.prog 94 #[.slice a l.length cap, .func (.func g) #[] cb] w fun e w' => e = .returned (.int .i64 (idxG p l 0)) ∧ Below w.heap.size w w' := by
  have HR := Lib.hid hv
  have HP := Lib.hid hp
  clear hv hp
  go_enter Tryz.func94, Tryz.ntmps94
  go_wp2_with fail
  go_loopw [8] (fun i wr => ∃ k : Nat, k ≤ l.length ∧ i = .int .i64 k ∧ Hid (idxG p l 0 = idxG p (l.drop k) k) ∧ Below w.heap.size w wr) (fun i _ => l.length - (intOf i).toNat)
  case atStart => exact ⟨0, by omega, rfl, Lib.hid rfl, Below.refl _ _⟩
  case round =>
    obtain ⟨k, hk, rfl, HI, hbr⟩ := hrel
    by_cases hlt : k < l.length
    · obtain ⟨x, hx⟩ : ∃ x, l[k]? = some x := ⟨_, List.getElem?_eq_getElem hlt⟩
      obtain ⟨b, off, rfl, hat⟩ := HR.out (fun e => by rw [e] at hlt; simp at hlt)
      obtain ⟨c0, c1, c2, c3, c4, c5⟩ := kW_cells (hat.below hbr) hx
      have hc := HP.out wr x (List.mem_of_getElem? hx) hbr
      have hD := Lib.hid (idxG_drop (p := p) hx)
      obtain ⟨q, hq⟩ : ∃ q, p x = q := ⟨_, rfl⟩
      have HQ := Lib.hid hq
      rw [hq] at hc
      have HC := Lib.hid hc
      clear hx hat hq hc
      cases q
      · have HN : Hid (idxG p l 0 = idxG p (l.drop (k + 1)) ((k + 1 : Nat) : Int)) := Lib.hid (by rw [HI.out, hD.out, HQ.out, if_neg (by decide)]; rfl)
        go_wp2_with (go_at_fn g; refine HC.out.mono ?_; rintro e w1 ⟨rfl, b1⟩; have HB1 := Lib.hid (below_then hbr b1); clear b1)
        exact ⟨⟨k + 1, by omega, by go_num, HN, HB1.out⟩, by simp [intOf]; omega⟩
      · have HN : Hid (idxG p l 0 = k) := Lib.hid (by rw [HI.out, hD.out, HQ.out, if_pos rfl])
        go_wp2_with (go_at_fn g; refine HC.out.mono ?_; rintro e w1 ⟨rfl, b1⟩; have HB1 := Lib.hid (below_then hbr b1); clear b1)
        go_ret
        exact ⟨by rw [HN.out]; rfl, HB1.out⟩
    · obtain rfl : k = l.length := by omega
      have HN : Hid (idxG p l 0 = -1) := Lib.hid (by rw [HI.out, List.drop_length]; rfl)
      go_wp2_with fail
      go_ret
      exact ⟨by rw [HN.out]; rfl, hbr⟩
/-- a write, as a value -/
def Wr.agg (w : Wr) : Value := .agg #[.int .i64 w.k.kind, .int .i64 w.k.a, .int .i64 w.k.b, .string w.k.s, .string w.val, .bool w.has]
theorem cell_six_new (w : World) (x y z s r q : Value) (t : TypeId) : ∀ j u, [x, y, z, s, r, q][j]? = some u → (w.alloc (.cells #[x, y, z, s, r, q] t)).cell? ((⟨w.heap.size, 0, none⟩ : Addr).add j) = some u := by
  intro j u hj
  have hn := heap_new w (.cells #[x, y, z, s, r, q] t)
  match j, hj with
  | 0, hj => injection hj with hj; subst hj; exact cell_of_blk hn 0
  | 1, hj => injection hj with hj; subst hj; exact cell_of_blk hn 1
  | 2, hj => injection hj with hj; subst hj; exact cell_of_blk hn 2
  | 3, hj => injection hj with hj; subst hj; exact cell_of_blk hn 3
  | 4, hj => injection hj with hj; subst hj; exact cell_of_blk hn 4
  | 5, hj => injection hj with hj; subst hj; exact cell_of_blk hn 5
/-- are two keys one? -/
def Ky.eqB (a b : Ky) : Bool := a.kind == b.kind && (a.a == b.a && (a.b == b.b && a.s.toList == b.s.toList))
theorem Ky.eqB_iff (a b : Ky) : a.eqB b = true ↔ a = b := by
  unfold Ky.eqB
  cases a; cases b
  simp [ByteArray.toList_eq]
  intro _ _ _
  rw [ByteArray.ext_iff]
theorem eqKy (a b : Ky) (w : World) : (binOp .eql 41 (.agg #[.int .i64 a.kind, .int .i64 a.a, .int .i64 a.b, .string a.s]) (.agg #[.int .i64 b.kind, .int .i64 b.a, .int .i64 b.b, .string b.s])).run Tryz.prog w = .ok (.bool (a.eqB b)) w := by
  unfold Ky.eqB
  cases h1 : (a.kind == b.kind) <;> cases h2 : (a.a == b.a) <;> cases h3 : (a.b == b.b) <;> cases h4 : (a.s.toList == b.s.toList) <;> go_simp
end Go.Proofs.YtkbmipmegljidaaGreat
namespace Go.Proofs.YtkbmipmegljidaaGreat
open Go.RowKit Go.Maps


instance : Inhabited Wr := ⟨⟨⟨0, 0, 0, ByteArray.empty⟩, ByteArray.empty, false⟩⟩
/-- n writes of a list, in the order s, in block b from off on -/
def WAt (w : World) (b off n : Nat) (L : List Wr) (s : Nat → Nat) : Prop :=
  (∀ i, i < n → s i < n) ∧ ∃ cs, w.heap[b]? = some (.cells cs 44 (0, 0)) ∧ ∀ i, i < n → ∀ j v, (L[s i]!).cells[j]? = some v → cs[off + i * 6 + j]? = some v
theorem WAt.dom {w : World} {b off n : Nat} {L : List Wr} {s : Nat → Nat} (h : WAt w b off n L s) {i : Nat} (hi : i < n) : s i < n := h.1 i hi
theorem WAt.cellj {w : World} {b off n : Nat} {L : List Wr} {s : Nat → Nat} (h : WAt w b off n L s) {i : Nat} (hi : i < n) (j : Nat) (v : Value) (hj : (L[s i]!).cells[j]? = some v) : w.cell? ⟨b, off + i * 6 + j, none⟩ = some v := by
  obtain ⟨_, cs, hb, hc⟩ := h
  rw [cell_of_blk hb]; exact hc i hi j v hj
theorem WAt.cell0 {w : World} {b off n : Nat} {L : List Wr} {s : Nat → Nat} (h : WAt w b off n L s) {i : Nat} (hi : i < n) : w.cell? ⟨b, off + i * 6, none⟩ = some (.int .i64 (L[s i]!).k.kind) := h.cellj hi 0 _ rfl
theorem WAt.cell1 {w : World} {b off n : Nat} {L : List Wr} {s : Nat → Nat} (h : WAt w b off n L s) {i : Nat} (hi : i < n) : w.cell? ⟨b, off + i * 6 + 1, none⟩ = some (.int .i64 (L[s i]!).k.a) := h.cellj hi 1 _ rfl
theorem WAt.cell2 {w : World} {b off n : Nat} {L : List Wr} {s : Nat → Nat} (h : WAt w b off n L s) {i : Nat} (hi : i < n) : w.cell? ⟨b, off + i * 6 + 2, none⟩ = some (.int .i64 (L[s i]!).k.b) := h.cellj hi 2 _ rfl
theorem WAt.cell3 {w : World} {b off n : Nat} {L : List Wr} {s : Nat → Nat} (h : WAt w b off n L s) {i : Nat} (hi : i < n) : w.cell? ⟨b, off + i * 6 + 3, none⟩ = some (.string (L[s i]!).k.s) := h.cellj hi 3 _ rfl
theorem WAt.cell4 {w : World} {b off n : Nat} {L : List Wr} {s : Nat → Nat} (h : WAt w b off n L s) {i : Nat} (hi : i < n) : w.cell? ⟨b, off + i * 6 + 4, none⟩ = some (.string (L[s i]!).val) := h.cellj hi 4 _ rfl
theorem WAt.cell5 {w : World} {b off n : Nat} {L : List Wr} {s : Nat → Nat} (h : WAt w b off n L s) {i : Nat} (hi : i < n) : w.cell? ⟨b, off + i * 6 + 5, none⟩ = some (.bool (L[s i]!).has) := h.cellj hi 5 _ rfl
theorem WAt.frozen {w : World} {b off n : Nat} {L : List Wr} {s : Nat → Nat} (h : WAt w b off n L s) (i : Nat) : w.frozen? ⟨b, i, none⟩ = false := by
  obtain ⟨_, cs, hb, _⟩ := h
  exact frozen_of_blk hb i
theorem WAt.lt {w : World} {b off n : Nat} {L : List Wr} {s : Nat → Nat} (h : WAt w b off n L s) : b < w.heap.size := by
  obtain ⟨_, cs, hb, _⟩ := h
  exact (Array.getElem?_eq_some_iff.1 hb).1
theorem WAt.of_block {w w' : World} {b off n : Nat} {L : List Wr} {s : Nat → Nat} (h : WAt w b off n L s) (hb : w'.heap[b]? = w.heap[b]?) : WAt w' b off n L s := by
  obtain ⟨h0, cs, h1, h2⟩ := h
  exact ⟨h0, cs, hb.trans h1, h2⟩
theorem WAt.congr {w : World} {b off n : Nat} {L : List Wr} {s t : Nat → Nat} (h : WAt w b off n L s) (e : ∀ i, i < n → t i = s i) : WAt w b off n L t := by
  obtain ⟨h0, cs, h1, h2⟩ := h
  exact ⟨fun i hi => by rw [e i hi]; exact h0 i hi, cs, h1, fun i hi => by rw [e i hi]; exact h2 i hi⟩
theorem Wr.cells_lt {x : Wr} {j : Nat} {v : Value} (h : x.cells[j]? = some v) : j < 6 := (List.getElem?_eq_some_iff.1 h).1
/-- one write's cells are laid -/
theorem set6_get (cs : Array Value) (o : Nat) (x : Wr) (ho : o + 5 < cs.size) (k : Nat) :
    ((((((cs.setIfInBounds o (.int .i64 x.k.kind)).setIfInBounds (o + 1) (.int .i64 x.k.a)).setIfInBounds (o + 2) (.int .i64 x.k.b)).setIfInBounds (o + 3) (.string x.k.s)).setIfInBounds (o + 4) (.string x.val)).setIfInBounds (o + 5) (.bool x.has))[k]? = if o ≤ k ∧ k < o + 6 then x.cells[k - o]? else cs[k]? := by
  simp only [Array.getElem?_setIfInBounds, Array.size_setIfInBounds]
  by_cases h : o ≤ k ∧ k < o + 6
  · rw [if_pos h]
    obtain ⟨j, rfl⟩ : ∃ j, k = o + j := ⟨k - o, by omega⟩
    rw [show o + j - o = j by omega]
    have hj : j < 6 := by omega
    match j, hj with
    | 0, _ => simp [Wr.cells, show o < cs.size by omega]
    | 1, _ => simp [Wr.cells, show o + 1 < cs.size by omega]
    | 2, _ => simp [Wr.cells, show o + 2 < cs.size by omega]
    | 3, _ => simp [Wr.cells, show o + 3 < cs.size by omega]
    | 4, _ => simp [Wr.cells, show o + 4 < cs.size by omega]
    | 5, _ => simp [Wr.cells, show o + 5 < cs.size by omega]
  · rw [if_neg h, if_neg (by omega), if_neg (by omega), if_neg (by omega), if_neg (by omega), if_neg (by omega), if_neg (by omega)]
/-- two writes change places -/
theorem WAt.swap {w : World} {b off n : Nat} {L : List Wr} {s : Nat → Nat} (h : WAt w b off n L s) {x y : Nat} (hx : x < n) (hy : y < n) (hxy : x ≠ y) :
    WAt (((((((((((((w).setCell ⟨b, off + x * 6, none⟩ (.int .i64 (L[s y]!).k.kind)).setCell ⟨b, off + x * 6 + 1, none⟩ (.int .i64 (L[s y]!).k.a)).setCell ⟨b, off + x * 6 + 2, none⟩ (.int .i64 (L[s y]!).k.b)).setCell ⟨b, off + x * 6 + 3, none⟩ (.string (L[s y]!).k.s)).setCell ⟨b, off + x * 6 + 4, none⟩ (.string (L[s y]!).val)).setCell ⟨b, off + x * 6 + 5, none⟩ (.bool (L[s y]!).has)).setCell ⟨b, off + y * 6, none⟩ (.int .i64 (L[s x]!).k.kind)).setCell ⟨b, off + y * 6 + 1, none⟩ (.int .i64 (L[s x]!).k.a)).setCell ⟨b, off + y * 6 + 2, none⟩ (.int .i64 (L[s x]!).k.b)).setCell ⟨b, off + y * 6 + 3, none⟩ (.string (L[s x]!).k.s)).setCell ⟨b, off + y * 6 + 4, none⟩ (.string (L[s x]!).val)).setCell ⟨b, off + y * 6 + 5, none⟩ (.bool (L[s x]!).has)) b off n L (Srt.swap2 s x y) := by
  obtain ⟨h0, cs, h1, h2⟩ := h
  have hz : ∀ i, i < n → off + i * 6 + 5 < cs.size := fun i hi => (Array.getElem?_eq_some_iff.1 (h2 i hi 5 _ rfl)).1
  have zx := hz x hx
  have zy := hz y hy
  refine ⟨fun i hi => ?_, _, blk_setCell (blk_setCell (blk_setCell (blk_setCell (blk_setCell (blk_setCell (blk_setCell (blk_setCell (blk_setCell (blk_setCell (blk_setCell (blk_setCell h1 _) _) _) _) _) _) _) _) _) _) _) _, fun i hi j v hj => ?_⟩
  · by_cases e1 : i = x
    · subst e1; rw [Srt.swap2_x]; exact h0 y hy
    · by_cases e2 : i = y
      · subst e2; rw [Srt.swap2_y]; exact h0 x hx
      · rw [Srt.swap2_o _ _ _ e1 e2]; exact h0 i hi
  have hj6 := Wr.cells_lt hj
  have zi := hz i hi
  refine (set6_get _ _ _ (by simp only [Array.size_setIfInBounds]; exact zy) _).trans ?_
  by_cases e2 : i = y
  · subst e2
    rw [Srt.swap2_y] at hj
    rw [if_pos (by omega), show off + i * 6 + j - (off + i * 6) = j by omega]
    exact hj
  · rw [if_neg (by omega)]
    refine (set6_get _ _ _ zx _).trans ?_
    by_cases e1 : i = x
    · subst e1
      rw [Srt.swap2_x] at hj
      rw [if_pos (by omega), show off + i * 6 + j - (off + i * 6) = j by omega]
      exact hj
    · rw [if_neg (by omega)]
      rw [Srt.swap2_o _ _ _ e1 e2] at hj
      exact h2 i hi j v hj
theorem WAt.drew {w : World} {b off n : Nat} {L : List Wr} {s : Nat → Nat} (h : WAt w b off n L s) : WAt w.drew b off n L s := h.of_block rfl
/-- two change places, as a region leaves it -/
theorem swapW_rel {w0 w : World} {b off n : Nat} {L : List Wr} {s t : Nat → Nat} (h : WAt w b off n L s) (hc : Chg w0 w (fun k => k = b)) {x y : Nat} (hx : x < n) (hy : y < n) (hxy : x ≠ y) (ht : Srt.swap2 s x y = t) :
    WAt (((((((((((((w).setCell ⟨b, off + x * 6, none⟩ (.int .i64 (L[s y]!).k.kind)).setCell ⟨b, off + x * 6 + 1, none⟩ (.int .i64 (L[s y]!).k.a)).setCell ⟨b, off + x * 6 + 2, none⟩ (.int .i64 (L[s y]!).k.b)).setCell ⟨b, off + x * 6 + 3, none⟩ (.string (L[s y]!).k.s)).setCell ⟨b, off + x * 6 + 4, none⟩ (.string (L[s y]!).val)).setCell ⟨b, off + x * 6 + 5, none⟩ (.bool (L[s y]!).has)).setCell ⟨b, off + y * 6, none⟩ (.int .i64 (L[s x]!).k.kind)).setCell ⟨b, off + y * 6 + 1, none⟩ (.int .i64 (L[s x]!).k.a)).setCell ⟨b, off + y * 6 + 2, none⟩ (.int .i64 (L[s x]!).k.b)).setCell ⟨b, off + y * 6 + 3, none⟩ (.string (L[s x]!).k.s)).setCell ⟨b, off + y * 6 + 4, none⟩ (.string (L[s x]!).val)).setCell ⟨b, off + y * 6 + 5, none⟩ (.bool (L[s x]!).has)).drew b off n L t ∧
    Chg w0 (((((((((((((w).setCell ⟨b, off + x * 6, none⟩ (.int .i64 (L[s y]!).k.kind)).setCell ⟨b, off + x * 6 + 1, none⟩ (.int .i64 (L[s y]!).k.a)).setCell ⟨b, off + x * 6 + 2, none⟩ (.int .i64 (L[s y]!).k.b)).setCell ⟨b, off + x * 6 + 3, none⟩ (.string (L[s y]!).k.s)).setCell ⟨b, off + x * 6 + 4, none⟩ (.string (L[s y]!).val)).setCell ⟨b, off + x * 6 + 5, none⟩ (.bool (L[s y]!).has)).setCell ⟨b, off + y * 6, none⟩ (.int .i64 (L[s x]!).k.kind)).setCell ⟨b, off + y * 6 + 1, none⟩ (.int .i64 (L[s x]!).k.a)).setCell ⟨b, off + y * 6 + 2, none⟩ (.int .i64 (L[s x]!).k.b)).setCell ⟨b, off + y * 6 + 3, none⟩ (.string (L[s x]!).k.s)).setCell ⟨b, off + y * 6 + 4, none⟩ (.string (L[s x]!).val)).setCell ⟨b, off + y * 6 + 5, none⟩ (.bool (L[s x]!).has)).drew (fun k => k = b) := by
  subst ht
  exact ⟨(h.swap hx hy hxy).drew, (((((((((((((hc).setCell (p := ⟨b, off + x * 6, none⟩) (fun _ => rfl) _).setCell (p := ⟨b, off + x * 6 + 1, none⟩) (fun _ => rfl) _).setCell (p := ⟨b, off + x * 6 + 2, none⟩) (fun _ => rfl) _).setCell (p := ⟨b, off + x * 6 + 3, none⟩) (fun _ => rfl) _).setCell (p := ⟨b, off + x * 6 + 4, none⟩) (fun _ => rfl) _).setCell (p := ⟨b, off + x * 6 + 5, none⟩) (fun _ => rfl) _).setCell (p := ⟨b, off + y * 6, none⟩) (fun _ => rfl) _).setCell (p := ⟨b, off + y * 6 + 1, none⟩) (fun _ => rfl) _).setCell (p := ⟨b, off + y * 6 + 2, none⟩) (fun _ => rfl) _).setCell (p := ⟨b, off + y * 6 + 3, none⟩) (fun _ => rfl) _).setCell (p := ⟨b, off + y * 6 + 4, none⟩) (fun _ => rfl) _).setCell (p := ⟨b, off + y * 6 + 5, none⟩) (fun _ => rfl) _).drew⟩
/-- what a function leaves that turns the row alone -/
def SrwPost (w : World) (b off n : Nat) (L : List Wr) (t : Nat → Nat) (e : Ending) (w' : World) : Prop := e = .returned (.tuple #[]) ∧ WAt w' b off n L t ∧ Chg w w' (fun k => k = b)
set_option maxRecDepth 100000 in
set_option maxHeartbeats 2000000 in
theorem swaW_any (b off cap n : Nat) (L : List Wr) (s : Nat → Nat) (x y c : Nat) (g : Value) (w : World) (h : WAt w b off n L s) (hxy : x + c ≤ y) (hy : y + c ≤ n) (hn : n ≤ 1000000) :
    Calls Tryz.prog 179 #[.slice (some ⟨b, off, none⟩) n cap, .int .i64 x, .int .i64 y, .int .i64 c, g] w (SrwPost w b off n L (fun k => s (Srt.swI x y c k))) := by
  have HS0 := Lib.hid h
  clear h
  go_enter Tryz.func179, Tryz.ntmps179
  go_wp2_with fail
  go_loopw [10] (fun i wr => ∃ k : Nat, k ≤ c ∧ i = .int .i64 k ∧ Hid (WAt wr b off n L (fun z => s (Srt.swI x y k z)) ∧ Chg w wr (fun k => k = b))) (fun i _ => c - (intOf i).toNat)
  case atStart => exact ⟨0, by omega, rfl, Lib.hid ⟨HS0.out.congr (fun i _ => by rw [Srt.swI_zero]), Chg.refl _ _⟩⟩
  case round =>
    obtain ⟨k, hk, rfl, HR⟩ := hrel
    by_cases hlt : k < c
    · obtain ⟨p, hp⟩ : ∃ p, p = x + k := ⟨_, rfl⟩
      obtain ⟨q, hq⟩ : ∃ q, q = y + k := ⟨_, rfl⟩
      have hpn : p < n := by omega
      have hqn : q < n := by omega
      have hpq : p ≠ q := by omega
      obtain ⟨A, hA⟩ : ∃ A, A = L[s (Srt.swI x y k p)]! := ⟨_, rfl⟩
      obtain ⟨B, hB⟩ : ∃ B, B = L[s (Srt.swI x y k q)]! := ⟨_, rfl⟩
      have a0 := HR.out.1.cell0 hpn
      have a1 := HR.out.1.cell1 hpn
      have a2 := HR.out.1.cell2 hpn
      have a3 := HR.out.1.cell3 hpn
      have a4 := HR.out.1.cell4 hpn
      have a5 := HR.out.1.cell5 hpn
      have b0 := HR.out.1.cell0 hqn
      have b1 := HR.out.1.cell1 hqn
      have b2 := HR.out.1.cell2 hqn
      have b3 := HR.out.1.cell3 hqn
      have b4 := HR.out.1.cell4 hqn
      have b5 := HR.out.1.cell5 hqn
      have f0 := HR.out.1.frozen (off + p * 6)
      have f1 := HR.out.1.frozen (off + p * 6 + 1)
      have f2 := HR.out.1.frozen (off + p * 6 + 2)
      have f3 := HR.out.1.frozen (off + p * 6 + 3)
      have f4 := HR.out.1.frozen (off + p * 6 + 4)
      have f5 := HR.out.1.frozen (off + p * 6 + 5)
      have g0 := HR.out.1.frozen (off + q * 6)
      have g1 := HR.out.1.frozen (off + q * 6 + 1)
      have g2 := HR.out.1.frozen (off + q * 6 + 2)
      have g3 := HR.out.1.frozen (off + q * 6 + 3)
      have g4 := HR.out.1.frozen (off + q * 6 + 4)
      have g5 := HR.out.1.frozen (off + q * 6 + 5)
      rw [← hA] at a0 a1 a2 a3 a4 a5
      rw [← hB] at b0 b1 b2 b3 b4 b5
      have w1 : IntKind.i64.wrap ((x : Int) + (k : Int)) = (p : Int) := by rw [IntKind.wrap_i64]; omega
      have w2 : IntKind.i64.wrap ((y : Int) + (k : Int)) = (q : Int) := by rw [IntKind.wrap_i64]; omega
      have hpz : (p : Int) < (n : Int) := by omega
      have hqz : (q : Int) < (n : Int) := by omega
      have HH := Lib.hid (And.intro hp (And.intro hq (And.intro hA hB)))
      clear hp hq hA hB HS0
      go_wp2_with fail
      go_big_region
      all_goals (
        go_wp2_with fail
        obtain ⟨hp, hq, hA, hB⟩ := HH.out
        refine ⟨⟨k + 1, by omega, by go_num, Lib.hid ?_⟩, by simp [intOf]; omega⟩
        rw [hA, hB]
        refine swapW_rel HR.out.1 HR.out.2 hpn hqn hpq ?_
        rw [hp, hq]
        exact Srt.swI_succ s x y k (by omega))
    · obtain rfl : k = c := by omega
      go_wp2_with fail
      go_end0
      exact ⟨rfl, HR.out.1, HR.out.2⟩

set_option maxRecDepth 100000 in
set_option maxHeartbeats 2000000 in
theorem rotW_any (b off cap n : Nat) (L : List Wr) (s : Nat → Nat) (a m c : Nat) (g : Value) (w : World) (h : WAt w b off n L s) (ham : a < m) (hmc : m < c) (hc : c ≤ n) (hn : n ≤ 1000000) :
    Calls Tryz.prog 173 #[.slice (some ⟨b, off, none⟩) n cap, .int .i64 a, .int .i64 m, .int .i64 c, g] w (SrwPost w b off n L (fun k => s (Srt.rotI a m c k))) := by
  have HS0 := Lib.hid h
  obtain ⟨i0, hi0⟩ : ∃ i0, m = a + i0 := ⟨m - a, by omega⟩
  obtain ⟨j0, hj0⟩ : ∃ j0, c = m + j0 := ⟨c - m, by omega⟩
  have e1 : IntKind.i64.wrap ((m : Int) - (a : Int)) = (i0 : Int) := by rw [IntKind.wrap_i64]; omega
  have e2 : IntKind.i64.wrap ((c : Int) - (m : Int)) = (j0 : Int) := by rw [IntKind.wrap_i64]; omega
  have E1 := Lib.hid (show (m : Int) - (a : Int) = (i0 : Int) by omega)
  have E2 := Lib.hid (show (c : Int) - (m : Int) = (j0 : Int) by omega)
  have HI := Lib.hid (And.intro hi0 hj0)
  clear h hi0 hj0
  go_enter Tryz.func173, Tryz.ntmps173
  go_wp2_with fail
  go_loopw [10, 11] (fun i j wr => ∃ p q : Nat, 0 < p ∧ 0 < q ∧ p ≤ m ∧ m + q ≤ n ∧ i = .int .i64 p ∧ j = .int .i64 q ∧ Hid (∃ t, WAt wr b off n L t ∧ Chg w wr (fun k => k = b) ∧ ∀ k, t (Srt.rotI (m - p) m (m + q) k) = s (Srt.rotI a m c k))) (fun i j _ => (intOf i).toNat + (intOf j).toNat)
  case atStart =>
    obtain ⟨h1, h2⟩ := HI.out
    exact ⟨i0, j0, by omega, by omega, by omega, by omega, by first | rfl | rw [E1.out], by first | rfl | rw [E2.out], Lib.hid ⟨s, HS0.out, Chg.refl _ _, fun k => by rw [show m - i0 = a by omega, h2]⟩⟩
  case round =>
    obtain ⟨p, q, hp0, hq0, hpm, hqn, rfl, rfl, HR⟩ := hrel
    obtain ⟨t, hR⟩ := HR.out
    have HT := Lib.hid hR
    clear hR HR e1 e2
    by_cases hpq : p = q
    · subst hpq
      have t1 : ((p : Int) != (p : Int)) = false := by simp
      obtain ⟨z, hz⟩ : ∃ z, z = m - p := ⟨_, rfl⟩
      have w1 : IntKind.i64.wrap ((m : Int) - (p : Int)) = (z : Int) := by rw [IntKind.wrap_i64]; omega
      have w2 : (m : Int) - (p : Int) = (z : Int) := by omega
      have HZ := Lib.hid hz
      clear hz
      go_wp2_with fail
      try rw [w2]
      refine (swaW_any b off cap n L t z m p g _ HT.out.1 (by have := HZ.out; omega) (by omega) hn).mono ?_
      rintro e w1' ⟨rfl, h1, h2⟩
      have HF := Lib.hid (And.intro h1 h2)
      clear h1 h2
      go_wp2_with fail
      go_end0
      refine ⟨rfl, HF.out.1.congr fun k _ => ?_, HT.out.2.1.trans HF.out.2 (fun _ _ h => h)⟩
      rw [HZ.out, Srt.rot_last p m k hpm, HT.out.2.2 k]
    · have t1 : ((p : Int) != (q : Int)) = true := by simp; omega
      by_cases hlt : q < p
      · have t2 : decide ((q : Int) < (p : Int)) = true := by simp; omega
        obtain ⟨z, hz⟩ : ∃ z, z = m - p := ⟨_, rfl⟩
        obtain ⟨r, hr⟩ : ∃ r, r = p - q := ⟨_, rfl⟩
        have w2 : (m : Int) - (p : Int) = (z : Int) := by omega
        have w3 : (p : Int) - (q : Int) = (r : Int) := by omega
        have HZ := Lib.hid hz
        have HRR := Lib.hid hr
        clear hz hr
        go_wp2_with fail
        try rw [w2]
        refine (swaW_any b off cap n L t z m q g _ HT.out.1 (by have := HZ.out; omega) (by omega) hn).mono ?_
        rintro e w1' ⟨rfl, h1, h2⟩
        have HF := Lib.hid (And.intro h1 h2)
        clear h1 h2
        go_wp2_with fail
        have hz := HZ.out
        have hr := HRR.out
        refine ⟨⟨r, q, by omega, hq0, by omega, hqn, by first | rfl | rw [w3], rfl, Lib.hid ⟨_, HF.out.1, HT.out.2.1.trans HF.out.2 (fun _ _ h => h), fun k => ?_⟩⟩, by simp [intOf]; omega⟩
        rw [hz, hr, Srt.rot_more p q m k hpm hlt, HT.out.2.2 k]
      · have t2 : decide ((q : Int) < (p : Int)) = false := by simp; omega
        obtain ⟨z, hz⟩ : ∃ z, z = m - p := ⟨_, rfl⟩
        obtain ⟨y, hy⟩ : ∃ y, y = m + q - p := ⟨_, rfl⟩
        obtain ⟨r, hr⟩ : ∃ r, r = q - p := ⟨_, rfl⟩
        have w2 : (m : Int) - (p : Int) = (z : Int) := by omega
        have w4 : (m : Int) + (q : Int) - (p : Int) = (y : Int) := by omega
        have w3 : (q : Int) - (p : Int) = (r : Int) := by omega
        have HZ := Lib.hid (And.intro hz hy)
        have HRR := Lib.hid hr
        clear hz hr hy
        go_wp2_with fail
        try rw [w2, w4]
        refine (swaW_any b off cap n L t z y p g _ HT.out.1 (by have := HZ.out; omega) (by have := HZ.out; omega) hn).mono ?_
        rintro e w1' ⟨rfl, h1, h2⟩
        have HF := Lib.hid (And.intro h1 h2)
        clear h1 h2
        go_wp2_with fail
        have hz := HZ.out
        have hr := HRR.out
        refine ⟨⟨p, r, hp0, by omega, hpm, by omega, rfl, by first | rfl | rw [w3], Lib.hid ⟨_, HF.out.1, HT.out.2.1.trans HF.out.2 (fun _ _ h => h), fun k => ?_⟩⟩, by simp [intOf]; omega⟩
        rw [hz.1, hz.2, hr, Srt.rot_less p q m k hpm (by omega), HT.out.2.2 k]
end Go.Proofs.YtkbmipmegljidaaGreat
