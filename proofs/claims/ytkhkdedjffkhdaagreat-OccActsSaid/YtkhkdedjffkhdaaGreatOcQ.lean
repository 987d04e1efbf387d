/- slices.IndexFunc, DeleteFunc at writes, whatever the closure. Conditions: each contract's own premises. Printed by gen_oc5.py. slices.Reverse, slices.Clone at writes. Conditions: each contract's own premises. (*occ.Txn).Commit. Conditions: the contract's own premises. -/
import Derived.Test.YtkhkdedjffkhdaaGreatRdX
import Derived.Test.YtkhkdedjffkhdaaGreatRnA
import Derived.Shelf.Abstract
import Derived.Deep.Cut
import Derived.BigRegion
import Derived.Test.YtkhkdedjffkhdaaGreatOcP
import Derived.Test.YtkhkdedjffkhdaaGreatSxB
import Derived.Deep.CutRange
import Derived.Deep.RegionHeld3
namespace Go.Proofs.YtkhkdedjffkhdaaGreat
open Go.RowKit Go.Maps

theorem kW_cells {w : World} {b off : Nat} {l : List Wr} (h : kW.At w b off l) {i : Nat} {p : Wr} (hp : l[i]? = some p) :
    w.cell? ⟨b, off + i * 6, none⟩ = some (.int .i64 p.k.kind) ∧ w.cell? ⟨b, off + i * 6 + 1, none⟩ = some (.int .i64 p.k.a) ∧ w.cell? ⟨b, off + i * 6 + 2, none⟩ = some (.int .i64 p.k.b) ∧ w.cell? ⟨b, off + i * 6 + 3, none⟩ = some (.string p.k.s) ∧ w.cell? ⟨b, off + i * 6 + 4, none⟩ = some (.string p.val) ∧ w.cell? ⟨b, off + i * 6 + 5, none⟩ = some (.bool p.has) :=
  ⟨h.cells i p hp 0 _ rfl, h.cells i p hp 1 _ rfl, h.cells i p hp 2 _ rfl, h.cells i p hp 3 _ rfl, h.cells i p hp 4 _ rfl, h.cells i p hp 5 _ rfl⟩
set_option maxRecDepth 100000 in
set_option maxHeartbeats 2000000 in
theorem idxWr_by (g : Nat) (cb : Array Value) (p : Wr → Bool) (a : Option Addr) (cap : Nat) (l : List Wr) (w : World) (eg : ∀ args w, (callFunc g args).run Tryz.prog w = .ok (.enter g args) w) (hv : kW.V w a l) (hl : l.length ≤ 1000000)
    (hp : ∀ (W : World) (x : Wr), x ∈ l → Below w.heap.size w W → Calls Tryz.prog g (#[.agg #[.int .i64 x.k.kind, .int .i64 x.k.a, .int .i64 x.k.b, .string x.k.s, .string x.val, .bool x.has]] ++ cb) W fun e w' => e = .returned (.bool (p x)) ∧ Below W.heap.size W w') :
    Calls Tryz.prog 84 #[.slice a l.length cap, .func (.func g) #[] cb] w fun e w' => e = .returned (.int .i64 (idxG p l 0)) ∧ Below w.heap.size w w' := by
  have HR := Lib.hid hv
  have HP := Lib.hid hp
  clear hv hp
  go_enter Tryz.func84, Tryz.ntmps84
  go_wp2_with fail
  go_loopw [8] (fun i wr => ∃ k : Nat, k ≤ l.length ∧ i = .int .i64 k ∧ Hid (idxG p l 0 = idxG p (l.drop k) k) ∧ Below w.heap.size w wr) (fun i _ => l.length - (intOf i).toNat)
  case atStart => exact ⟨0, by omega, rfl, Lib.hid rfl, Below.refl _ _⟩
  case round =>
    obtain ⟨k, hk, rfl, HI, hbr⟩ := hrel
    by_cases hlt : k < l.length
    · obtain ⟨x, hx⟩ : ∃ x, l[k]? = some x := ⟨_, List.getElem?_eq_getElem hlt⟩
      obtain ⟨b, off, rfl, hat⟩ := HR.out (fun e => by rw [e] at hlt; simp at hlt)
      obtain ⟨c0, c1, c2, c3, c4, c5⟩ := kW_cells (hat.below hbr) hx
      have hc := HP.out wr x (List.mem_of_getElem? hx) hbr
      have hD := Lib.hid (idxG_drop (p := p) hx)
      obtain ⟨q, hq⟩ : ∃ q, p x = q := ⟨_, rfl⟩
      have HQ := Lib.hid hq
      rw [hq] at hc
      have HC := Lib.hid hc
      clear hx hat hq hc
      cases q
      · have HN : Hid (idxG p l 0 = idxG p (l.drop (k + 1)) ((k + 1 : Nat) : Int)) := Lib.hid (by rw [HI.out, hD.out, HQ.out, if_neg (by decide)]; rfl)
        go_wp2_with (go_at_fn g; refine HC.out.mono ?_; rintro e w1 ⟨rfl, b1⟩; have HB1 := Lib.hid (below_then hbr b1); clear b1)
        exact ⟨⟨k + 1, by omega, by go_num, HN, HB1.out⟩, by simp [intOf]; omega⟩
      · have HN : Hid (idxG p l 0 = k) := Lib.hid (by rw [HI.out, hD.out, HQ.out, if_pos rfl])
        go_wp2_with (go_at_fn g; refine HC.out.mono ?_; rintro e w1 ⟨rfl, b1⟩; have HB1 := Lib.hid (below_then hbr b1); clear b1)
        go_ret
        exact ⟨by rw [HN.out]; rfl, HB1.out⟩
    · obtain rfl : k = l.length := by omega
      have HN : Hid (idxG p l 0 = -1) := Lib.hid (by rw [HI.out, List.drop_length]; rfl)
      go_wp2_with fail
      go_ret
      exact ⟨by rw [HN.out]; rfl, hbr⟩
/-- what leaves some out, leaves -/
def DelWPost (w : World) (B b cap : Nat) (l : List Wr) (p : Wr → Bool) (e : Ending) (w' : World) : Prop :=
  e = .returned (.slice (some ⟨b, 0, none⟩) (l.filter (fun x => !p x)).length cap) ∧ kW.Own w' B (.slice (some ⟨b, 0, none⟩) (l.filter (fun x => !p x)).length cap) (l.filter (fun x => !p x)) ∧ Chg w w' (fun j => j = b)
theorem ownW_cells {w : World} {B b n cap : Nat} {l : List Wr} (h : kW.Own w B (.slice (some ⟨b, 0, none⟩) n cap) l) {i : Nat} {p : Wr} (hp : l[i]? = some p) :
    w.cell? ⟨b, i * 6, none⟩ = some (.int .i64 p.k.kind) ∧ w.cell? ⟨b, i * 6 + 1, none⟩ = some (.int .i64 p.k.a) ∧ w.cell? ⟨b, i * 6 + 2, none⟩ = some (.int .i64 p.k.b) ∧ w.cell? ⟨b, i * 6 + 3, none⟩ = some (.string p.k.s) ∧ w.cell? ⟨b, i * 6 + 4, none⟩ = some (.string p.val) ∧ w.cell? ⟨b, i * 6 + 5, none⟩ = some (.bool p.has) := by
  obtain ⟨b', c', e, _, _, hat⟩ := h.at' (fun e => by rw [e] at hp; simp at hp)
  injection e with e1
  injection e1 with e1
  injection e1 with e1
  subst e1
  have := kW_cells hat hp
  simpa using this
theorem ownW_frozen {w : World} {B b n cap : Nat} {l : List Wr} (h : kW.Own w B (.slice (some ⟨b, 0, none⟩) n cap) l) (i : Nat) : w.frozen? ⟨b, i, none⟩ = false := by
  obtain ⟨cur, hg, _⟩ := h.blk
  exact frozen_of_blk hg i
theorem ownW_set {w : World} {B b n cap : Nat} {l : List Wr} (h : kW.Own w B (.slice (some ⟨b, 0, none⟩) n cap) l) {i : Nat} (hi : i < l.length) (x : Wr) :
    kW.Own ((((((w.setCell ⟨b, i * 6, none⟩ (.int .i64 x.k.kind)).setCell ⟨b, i * 6 + 1, none⟩ (.int .i64 x.k.a)).setCell ⟨b, i * 6 + 2, none⟩ (.int .i64 x.k.b)).setCell ⟨b, i * 6 + 3, none⟩ (.string x.k.s)).setCell ⟨b, i * 6 + 4, none⟩ (.string x.val)).setCell ⟨b, i * 6 + 5, none⟩ (.bool x.has)) B (.slice (some ⟨b, 0, none⟩) n cap) (l.set i x) := by
  have := h.upd (i := i) (r := 0) (x := l[i]) (x' := x) (List.getElem?_eq_getElem hi) (Wr.cells x) (by show 0 + 6 ≤ 6; omega) (fun j => by
    by_cases hj : j < 6
    · rw [if_pos ⟨Nat.zero_le _, by show j < 0 + 6; omega⟩]; rfl
    · rw [if_neg (fun h => hj (by have := h.2; simpa [Wr.cells] using this)), List.getElem?_eq_none (by show 6 ≤ j; omega), List.getElem?_eq_none (by show 6 ≤ j; omega)])
  exact this
set_option maxRecDepth 100000 in
set_option maxHeartbeats 4000000 in
theorem delWr_by (g : Nat) (cb : Array Value) (p : Wr → Bool) (b cap : Nat) (l : List Wr) (w : World) (B : Nat) (eg : ∀ args w, (callFunc g args).run Tryz.prog w = .ok (.enter g args) w) (h : kW.Own w B (.slice (some ⟨b, 0, none⟩) l.length cap) l) (hl : l.length ≤ 1000000)
    (hp : ∀ (W : World) (x : Wr), x ∈ l → Chg w W (fun j => j = b) → Calls Tryz.prog g (#[.agg #[.int .i64 x.k.kind, .int .i64 x.k.a, .int .i64 x.k.b, .string x.k.s, .string x.val, .bool x.has]] ++ cb) W fun e w' => e = .returned (.bool (p x)) ∧ Below W.heap.size W w') :
    Calls Tryz.prog 46 #[.slice (some ⟨b, 0, none⟩) l.length cap, .func (.func g) #[] cb] w (DelWPost w B b cap l p) := by
  have HS0 := Lib.hid h
  have HP := Lib.hid hp
  have hidx := idxWr_by g cb p (some ⟨b, 0, none⟩) cap l w eg h.toV hl (fun W x hx hb => hp W x hx (Chg.of_below hb _))
  have HIX := Lib.hid hidx
  have HBL : Hid (b < w.heap.size) := Lib.hid (by obtain ⟨_, hg, _⟩ := h.blk; exact (Array.getElem?_eq_some_iff.1 hg).1)
  clear h hp hidx
  go_enter Tryz.func46, Tryz.ntmps46
  go_wp2_with fail
  refine HIX.out.mono ?_
  rintro e w1 ⟨rfl, hb1⟩
  have HB1 := Lib.hid hb1
  clear hb1 HIX
  rcases idxG_cases p l 0 with ⟨h1, h2⟩ | ⟨k, x, h1, h2, h3, h4⟩
  · have HE : Hid (l.filter (fun x => !p x) = l) := Lib.hid (List.filter_eq_self.2 (fun x hx => by rw [h2 x hx]; rfl))
    clear h2
    have h1' : idxG p l 0 = -1 := h1
    rw [h1']
    clear h1 h1'
    go_wp2_with fail
    go_ret
    unfold DelWPost
    rw [HE.out]
    exact ⟨rfl, HS0.out.below HB1.out, Chg.of_below HB1.out _⟩
  · have h1' : idxG p l 0 = ((0 + k : Nat) : Int) := h1
    rw [Nat.zero_add] at h1'
    rw [h1']
    have HM0 := Lib.hid (DelM.start h2 h3 h4)
    have hkl := (List.getElem?_eq_some_iff.1 h2).1
    clear h1 h1' h2 h3 h4
    have HO1 : Hid (kW.Own w1 B (.slice (some ⟨b, 0, none⟩) l.length cap) l ∧ Chg w w1 (fun j => j = b)) := Lib.hid ⟨HS0.out.below HB1.out, Chg.of_below HB1.out _⟩
    have n1 : ((k : Int) == -1) = false := by simp
    go_wp2_with fail
    go_loopw [5, 6, 7] (fun a c _ wr => ∃ i j : Nat, ∃ M : List Wr, a = .int .i64 i ∧ c = .int .i64 j ∧ j ≤ l.length ∧ Hid (DelM p l M i j ∧ kW.Own wr B (.slice (some ⟨b, 0, none⟩) l.length cap) M ∧ Chg w wr (fun j => j = b))) (fun _ c _ _ => l.length - (intOf c).toNat)
    case atStart => exact ⟨k, k + 1, l, rfl, by go_num, by omega, Lib.hid ⟨HM0.out, HO1.out.1, HO1.out.2⟩⟩
    case round =>
      clear HM0 HO1
      obtain ⟨i, j, M, rfl, rfl, hj, HR⟩ := hrel
      by_cases hlt : j < l.length
      · obtain ⟨x, hx⟩ : ∃ x, l[j]? = some x := ⟨_, List.getElem?_eq_getElem hlt⟩
        have hMx := HR.out.1.get.trans hx
        obtain ⟨c0, c1, c2, c3, c4, c5⟩ := ownW_cells HR.out.2.1 hMx
        have HX := Lib.hid hx
        have HXM := Lib.hid (List.mem_of_getElem? hx)
        clear hx hMx
        obtain ⟨bx, hbx⟩ : ∃ bx, bx = wr.heap.size := ⟨_, rfl⟩
        obtain ⟨W, hW⟩ : ∃ W, W = wr.alloc (.cells #[.int .i64 x.k.kind, .int .i64 x.k.a, .int .i64 x.k.b, .string x.k.s, .string x.val, .bool x.has] 94) := ⟨_, rfl⟩
        have hBW : Below wr.heap.size wr W := by rw [hW]; exact below_box wr _
        have eW : W.heap[bx]? = some (.cells #[.int .i64 x.k.kind, .int .i64 x.k.a, .int .i64 x.k.b, .string x.k.s, .string x.val, .bool x.has] 94) := by rw [hW, hbx]; exact heap_new wr _
        have hlW : bx < W.heap.size := (Array.getElem?_eq_some_iff.1 eW).1
        have k0 := cell_of_blk eW 0
        have k1 := cell_of_blk eW 1
        have k2 := cell_of_blk eW 2
        have k3 := cell_of_blk eW 3
        have k4 := cell_of_blk eW 4
        have k5 := cell_of_blk eW 5
        simp at k0 k1 k2 k3 k4 k5
        obtain ⟨q, hq⟩ : ∃ q, p x = q := ⟨_, rfl⟩
        have hC := HP.out W x HXM.out (HR.out.2.2.trans (Chg.of_below hBW _) (fun _ _ h => h))
        rw [hq] at hC
        have HC := Lib.hid hC
        have HQ := Lib.hid hq
        have HW := Lib.hid hW
        have HBX := Lib.hid hbx
        have HEW := Lib.hid eW
        have HBW := Lib.hid hBW
        clear hW hbx eW hBW hq hC
        go_upto_region 8 with fail
        rw [← HW.out, ← HBX.out]
        go_wp2_with fail
        refine HC.out.mono ?_
        rintro e w2 ⟨rfl, hb2⟩
        have m0 := below_cell hb2 0 hlW k0
        have m1 := below_cell hb2 1 hlW k1
        have m2 := below_cell hb2 2 hlW k2
        have m3 := below_cell hb2 3 hlW k3
        have m4 := below_cell hb2 4 hlW k4
        have m5 := below_cell hb2 5 hlW k5
        have HS2 : Hid (kW.Own w2 B (.slice (some ⟨b, 0, none⟩) l.length cap) M ∧ Chg w w2 (fun j => j = b)) := Lib.hid ⟨(HR.out.2.1.below HBW.out).below hb2, (HR.out.2.2.trans (Chg.of_below HBW.out _) (fun _ _ h => h)).trans (Chg.of_below hb2 _) (fun _ _ h => h)⟩
        clear hb2 k0 k1 k2 k3 k4 k5 c0 c1 c2 c3 c4 c5
        cases q
        · have hil : i < l.length := by have := HR.out.1.lt; omega
          obtain ⟨y, hy⟩ : ∃ y, M[i]? = some y := ⟨_, List.getElem?_eq_getElem (by rw [HR.out.1.len]; exact hil)⟩
          obtain ⟨c0, c1, c2, c3, c4, c5⟩ := ownW_cells HS2.out.1 hy
          have f0 := ownW_frozen HS2.out.1 (i * 6)
          have f1 := ownW_frozen HS2.out.1 (i * 6 + 1)
          have f2 := ownW_frozen HS2.out.1 (i * 6 + 2)
          have f3 := ownW_frozen HS2.out.1 (i * 6 + 3)
          have f4 := ownW_frozen HS2.out.1 (i * 6 + 4)
          have f5 := ownW_frozen HS2.out.1 (i * 6 + 5)
          have hinz : (i : Int) < (l.length : Int) := by omega
          clear hy
          go_wp2_with fail
          refine ⟨⟨i + 1, j + 1, M.set i x, by go_num, by go_num, by omega, Lib.hid ⟨HR.out.1.keep HX.out HQ.out, ownW_set HS2.out.1 (by rw [HR.out.1.len]; exact hil) x, ?_⟩⟩, by simp [intOf]; omega⟩
          exact ((((((HS2.out.2.setCell (p := ⟨b, i * 6, none⟩) (fun _ => rfl) _).setCell (p := ⟨b, i * 6 + 1, none⟩) (fun _ => rfl) _).setCell (p := ⟨b, i * 6 + 2, none⟩) (fun _ => rfl) _).setCell (p := ⟨b, i * 6 + 3, none⟩) (fun _ => rfl) _).setCell (p := ⟨b, i * 6 + 4, none⟩) (fun _ => rfl) _).setCell (p := ⟨b, i * 6 + 5, none⟩) (fun _ => rfl) _)
        · go_wp2_with fail
          exact ⟨⟨i, j + 1, M, rfl, by go_num, by omega, Lib.hid ⟨HR.out.1.skip HX.out HQ.out, HS2.out.1, HS2.out.2⟩⟩, by simp [intOf]; omega⟩
      · obtain rfl : j = l.length := by omega
        have hil : i < l.length := HR.out.1.lt
        have hE := HR.out.1.fin rfl
        have hM := HR.out.1.len
        have hO := HR.out.2.1
        obtain ⟨w9, hcl, q1, q2⟩ := hO.run_clear (i := i) (by decide) (by omega) (cap - i) (l.length - i) (by omega)
        have hcap := hO.cap
        have HF : Hid (DelWPost w B b cap l p (.returned (.slice (some ⟨b, 0, none⟩) i cap)) w9) := Lib.hid (by
          unfold DelWPost
          rw [← hE]
          have e : (M.take i).length = i := by rw [List.length_take]; omega
          rw [e]
          exact ⟨rfl, q1, HR.out.2.2.trans q2 (fun _ _ h => h)⟩)
        have hci : ¬ cap = i := by omega
        have hci' : ¬ i = cap := by omega
        have hiz : (i : Int) ≤ (l.length : Int) := by omega
        have hizc : (i : Int) ≤ (cap : Int) := by omega
        have hcl' : ∀ ty, (Builtin.clear_ #[42] ty #[.slice (some ⟨b, i * 6, none⟩) (l.length - i) (cap - i)]).run Tryz.prog wr = .ok (.tuple #[]) w9 := hcl
        clear hE hM hO q1 q2 hcap hcl
        go_wp2_with fail
        go_ret
        exact HF.out
end Go.Proofs.YtkhkdedjffkhdaaGreat
namespace Go.Proofs.YtkhkdedjffkhdaaGreat
open Go.RowKit Go.Maps

/-- a list half turned about -/
structure RvM {α : Type} (l M : List α) (i : Nat) : Prop where
  len : M.length = l.length
  get : ∀ k, k < l.length → M[k]? = if k < i ∨ l.length ≤ k + i then l[l.length - 1 - k]? else l[k]?
theorem RvM.start {α : Type} (l : List α) : RvM l l 0 := ⟨rfl, fun k hk => by rw [if_neg (by omega)]⟩
theorem RvM.step {α : Type} {l M : List α} {i j : Nat} {x y : α} (h : RvM l M i) (hj : j = l.length - 1 - i) (hx : M[i]? = some x) (hy : M[j]? = some y) (hi : i < j) : RvM l ((M.set i y).set j x) (i + 1) := by
  refine ⟨by simp [h.len], fun k hk => ?_⟩
  rw [h.get i (by omega), if_neg (by omega)] at hx
  rw [h.get j (by omega), if_neg (by omega)] at hy
  rw [List.getElem?_set, List.getElem?_set, List.length_set, h.len]
  by_cases h1 : j = k
  · rw [if_pos h1, if_pos (by omega), if_pos (by omega), show l.length - 1 - k = i by omega, hx]
  · rw [if_neg h1]
    by_cases h2 : i = k
    · rw [if_pos h2, if_pos (by omega), if_pos (by omega), show l.length - 1 - k = j by omega, hy]
    · rw [if_neg h2, h.get k hk]
      by_cases h3 : k < i ∨ l.length ≤ k + i
      · rw [if_pos h3, if_pos (by omega)]
      · rw [if_neg h3, if_neg (by omega)]
theorem RvM.fin {α : Type} {l M : List α} {i : Nat} (h : RvM l M i) (hi : ¬ i < l.length - 1 - i) : M = l.reverse := by
  apply List.ext_getElem?
  intro k
  by_cases hk : k < l.length
  · rw [h.get k hk, List.getElem?_reverse hk]
    split
    · rfl
    · rw [show l.length - 1 - k = k by omega]
  · rw [List.getElem?_eq_none (by rw [h.len]; omega), List.getElem?_eq_none (by simp; omega)]
def RvPost (w : World) (B : Nat) (v : Value) (l : List Wr) (e : Ending) (w' : World) : Prop := e = .returned (.tuple #[]) ∧ kW.Own w' B v l.reverse ∧ Chg w w' (fun j => v.ownBlock = some j)
set_option maxRecDepth 100000 in
set_option maxHeartbeats 4000000 in
theorem revW_any (B : Nat) (a : Option Addr) (cap : Nat) (l : List Wr) (w : World) (h : kW.Own w B (.slice a l.length cap) l) (hl : l.length ≤ 1000000) :
    Calls Tryz.prog 43 #[.slice a l.length cap] w (RvPost w B (.slice a l.length cap) l) := by
  obtain ⟨n, hn⟩ : ∃ n, n = l.length := ⟨_, rfl⟩
  have HN := Lib.hid hn
  rw [← hn] at h hl ⊢
  have HS0 := Lib.hid h
  have HSH : Hid (0 < n → ∃ b, a = some ⟨b, 0, none⟩) := Lib.hid (fun h0 => by
    obtain ⟨b', c', e, _⟩ := h.at' (fun e => by rw [e] at hn; simp at hn; omega)
    injection e with e1
    exact ⟨b', e1⟩)
  clear h hn
  have w0 : IntKind.i64.wrap ((n : Int) - 1) = (n : Int) - 1 := IntWalk.i64_in _ (by omega)
  go_enter Tryz.func43, Tryz.ntmps43
  go_wp2_with fail
  go_loopw [2, 3] (fun a1 a2 wr => ∃ (i : Nat) (z : Int) (M : List Wr), a1 = .int .i64 i ∧ a2 = .int .i64 z ∧ z = (n : Int) - 1 - i ∧ i ≤ n ∧ Hid (RvM l M i ∧ kW.Own wr B (.slice a n cap) M ∧ Chg w wr (fun j => (Value.slice a n cap).ownBlock = some j))) (fun a1 _ _ => n - (intOf a1).toNat)
  case atStart => exact ⟨0, _, l, rfl, rfl, by omega, by omega, Lib.hid ⟨RvM.start l, HS0.out, Chg.refl _ _⟩⟩
  case round =>
    clear HS0 w0
    obtain ⟨i, z, M, rfl, rfl, hz, hi, HR⟩ := hrel
    obtain ⟨wo, rfl⟩ : ∃ wo : World, wo = wr := ⟨_, rfl⟩
    by_cases hlt : (i : Int) < z
    · obtain ⟨j, rfl⟩ : ∃ j : Nat, z = (j : Int) := ⟨z.toNat, by omega⟩
      obtain ⟨b, rfl⟩ := HSH.out (by omega)
      have hM := HR.out.1.len
      rw [← HN.out] at hM
      obtain ⟨x, hx⟩ : ∃ x, M[i]? = some x := ⟨_, List.getElem?_eq_getElem (by omega)⟩
      obtain ⟨y, hy⟩ : ∃ x, M[j]? = some x := ⟨_, List.getElem?_eq_getElem (by omega)⟩
      obtain ⟨c0, c1, c2, c3, c4, c5⟩ := ownW_cells HR.out.2.1 hx
      obtain ⟨d0, d1, d2, d3, d4, d5⟩ := ownW_cells HR.out.2.1 hy
      have f0 := ownW_frozen HR.out.2.1 (i * 6)
      have f1 := ownW_frozen HR.out.2.1 (i * 6 + 1)
      have f2 := ownW_frozen HR.out.2.1 (i * 6 + 2)
      have f3 := ownW_frozen HR.out.2.1 (i * 6 + 3)
      have f4 := ownW_frozen HR.out.2.1 (i * 6 + 4)
      have f5 := ownW_frozen HR.out.2.1 (i * 6 + 5)
      have g0 := ownW_frozen HR.out.2.1 (j * 6)
      have g1 := ownW_frozen HR.out.2.1 (j * 6 + 1)
      have g2 := ownW_frozen HR.out.2.1 (j * 6 + 2)
      have g3 := ownW_frozen HR.out.2.1 (j * 6 + 3)
      have g4 := ownW_frozen HR.out.2.1 (j * 6 + 4)
      have g5 := ownW_frozen HR.out.2.1 (j * 6 + 5)
      have hij : i ≠ j := by omega
      have hin : (i : Int) < (n : Int) := by omega
      have hjn : (j : Int) < (n : Int) := by omega
      have w2 : IntKind.i64.wrap ((j : Int) - 1) = (j : Int) - 1 := IntWalk.i64_in _ (by omega)
      have HX : Hid (RvM l ((M.set i y).set j x) (i + 1) ∧ M.length = n ∧ i < n ∧ j < n ∧ (j : Int) = (n : Int) - 1 - i) := Lib.hid ⟨HR.out.1.step (by rw [← HN.out]; omega) hx hy (by omega), hM, by omega, by omega, hz⟩
      clear hx hy hM hz
      go_wp2_with fail
      go_big_region
      go_wp2_with fail
      refine ⟨⟨i + 1, _, (M.set i y).set j x, by go_num, rfl, by have := HX.out; push_cast; omega, by have := HX.out; omega, Lib.hid ⟨HX.out.1, (ownW_set (ownW_set HR.out.2.1 (by rw [HX.out.2.1]; exact HX.out.2.2.1) y) (by rw [List.length_set, HX.out.2.1]; exact HX.out.2.2.2.1) x).drew, ?_⟩⟩, by simp [intOf]; have := HX.out; omega⟩
      exact Chg.drew (Chg.setCell (p := ⟨b, j * 6 + 5, none⟩) (Chg.setCell (p := ⟨b, j * 6 + 4, none⟩) (Chg.setCell (p := ⟨b, j * 6 + 3, none⟩) (Chg.setCell (p := ⟨b, j * 6 + 2, none⟩) (Chg.setCell (p := ⟨b, j * 6 + 1, none⟩) (Chg.setCell (p := ⟨b, j * 6, none⟩) (Chg.setCell (p := ⟨b, i * 6 + 5, none⟩) (Chg.setCell (p := ⟨b, i * 6 + 4, none⟩) (Chg.setCell (p := ⟨b, i * 6 + 3, none⟩) (Chg.setCell (p := ⟨b, i * 6 + 2, none⟩) (Chg.setCell (p := ⟨b, i * 6 + 1, none⟩) (Chg.setCell (p := ⟨b, i * 6, none⟩) HR.out.2.2 (fun _ => rfl) _) (fun _ => rfl) _) (fun _ => rfl) _) (fun _ => rfl) _) (fun _ => rfl) _) (fun _ => rfl) _) (fun _ => rfl) _) (fun _ => rfl) _) (fun _ => rfl) _) (fun _ => rfl) _) (fun _ => rfl) _) (fun _ => rfl) _)
    · have HE : Hid (M = l.reverse) := Lib.hid (HR.out.1.fin (by rw [← HN.out]; omega))
      go_wp2_with fail
      go_end0
      refine ⟨rfl, ?_, HR.out.2.2⟩
      rw [← HE.out]
      exact HR.out.2.1
theorem nilW_some (a : Addr) (n c : Nat) (w : World) : (binOp .eql 42 (.slice (some a) n c) (.slice none 0 0)).run Tryz.prog w = .ok (.bool false) w := by kernel_rfl
theorem nilW_none (w : World) : (binOp .eql 42 (.slice none 0 0) (.slice none 0 0)).run Tryz.prog w = .ok (.bool true) w := by kernel_rfl
def CwPost (w : World) (l : List Wr) (e : Ending) (w' : World) : Prop := ∃ a c, e = .returned (.slice a l.length c) ∧ kW.Own w' w.heap.size (.slice a l.length c) l ∧ Below w.heap.size w w'
set_option maxRecDepth 100000 in
set_option maxHeartbeats 400000 in
theorem cloneW_any (a : Option Addr) (c : Nat) (l : List Wr) (w : World) (h : kW.V w a l) (hn : a = none → c = 0 ∧ l = []) (hl : l.length ≤ 100000) :
    Calls Tryz.prog 35 #[.slice a l.length c] w (CwPost w l) := by
  cases a with
  | none =>
    obtain ⟨rfl, rfl⟩ := hn rfl
    have hq := nilW_none w
    clear h hn
    go_enter Tryz.func35, Tryz.ntmps35
    go_wp2
    go_ret
    exact ⟨none, 0, rfl, RowK.Own.nil kW _ _, Below.refl _ _⟩
  | some a =>
    have HO : Hid (kW.Own (w.alloc (.cells #[] 94)) w.heap.size (.slice (some ⟨w.heap.size, 0, none⟩) 0 0) []) := Lib.hid (RowK.Own.new (k := kW) (heap_new w _) (Nat.le_refl _) rfl (Nat.zero_le _))
    have HV := Lib.hid (h.below (below_box w (.cells #[] 94)))
    have HL := Lib.hid hl
    have hq := nilW_some a l.length c w
    clear h hl hn
    go_enter Tryz.func35, Tryz.ntmps35
    go_wp2_with (at_builtin; refine RowK.wpList_app (k := kW) rfl (.tmp 5) (.tmp 6) rfl rfl HO.out (some a) l.length l c rfl rfl HV.out (fun e => by cases e) (by have := HL.out; simp; omega) (by simp) ?_; intro v8 w8 hA; have HA8 := Lib.hid hA; clear hA)
    obtain ⟨oA, gA, kA⟩ := HA8.out
    rw [List.nil_append] at oA
    obtain ⟨a2, c2, rfl⟩ := oA.shape
    have HOA := Lib.hid oA
    have HB : Hid (Below w.heap.size w w8) := Lib.hid ((below_box w (.cells #[] 94)).grown gA (by simp) (fun j hj => (HO.out.lt j hj).1))
    clear oA gA kA
    go_wp2_with fail
    go_ret
    exact ⟨a2, c2, rfl, HOA.out, HB.out⟩
/-- what leaves some out leaves, of whatever row -/
def DlPost (w : World) (B : Nat) (a : Option Addr) (n cap : Nat) (l : List Wr) (p : Wr → Bool) (e : Ending) (w' : World) : Prop :=
  e = .returned (.slice a (l.filter (fun x => !p x)).length cap) ∧ kW.Own w' B (.slice a (l.filter (fun x => !p x)).length cap) (l.filter (fun x => !p x)) ∧ Chg w w' (fun j => (Value.slice a n cap).ownBlock = some j)
theorem delW_any (g : Nat) (p : Wr → Bool) (a : Option Addr) (cap : Nat) (l : List Wr) (w : World) (B : Nat) (eg : ∀ args w, (callFunc g args).run Tryz.prog w = .ok (.enter g args) w) (h : kW.Own w B (.slice a l.length cap) l) (hl : l.length ≤ 1000000)
    (hp : ∀ (W : World) (x : Wr), x ∈ l → Calls Tryz.prog g (#[.agg #[.int .i64 x.k.kind, .int .i64 x.k.a, .int .i64 x.k.b, .string x.k.s, .string x.val, .bool x.has]] ++ #[]) W fun e w' => e = .returned (.bool (p x)) ∧ Below W.heap.size W w') :
    Calls Tryz.prog 46 #[.slice a l.length cap, .func (.func g) #[] #[]] w (DlPost w B a l.length cap l p) := by
  cases a with
  | none =>
    have hc := h.noneCap
    have hl0 : l = [] := by
      cases l with
      | nil => rfl
      | cons x l =>
        obtain ⟨b', c', e, _⟩ := h.at' (fun e => by cases e)
        cases e
    subst hc hl0
    have hidx := idxWr_by g #[] p none 0 [] w eg h.toV (by simp) (fun W x hx hb => by cases hx)
    have HIX := Lib.hid hidx
    have HS := Lib.hid h
    clear h hp hidx
    go_enter Tryz.func46, Tryz.ntmps46
    go_wp2_with fail
    refine HIX.out.mono ?_
    rintro e w1 ⟨rfl, hb1⟩
    have HB1 := Lib.hid hb1
    clear hb1 HIX
    have h1 : idxG p [] 0 = -1 := rfl
    rw [h1]
    clear h1
    go_wp2_with fail
    go_ret
    exact ⟨rfl, HS.out.below HB1.out, Chg.of_below HB1.out _⟩
  | some a0 =>
    obtain ⟨b, rfl⟩ : ∃ b, a0 = ⟨b, 0, none⟩ := by
      rcases h.2 with ⟨h1, _⟩ | ⟨b, cp, cur, h1, _⟩
      · cases h1
      · injection h1 with e1
        injection e1 with e1
        exact ⟨b, e1⟩
    refine (delWr_by g #[] p b cap l w B eg h hl (fun W x hx _ => hp W x hx)).mono ?_
    rintro e w' ⟨h1, h2, h3⟩
    exact ⟨h1, h2, h3.mono (fun j _ hj => by rw [hj]; rfl)⟩
end Go.Proofs.YtkhkdedjffkhdaaGreat
namespace Go.Proofs.YtkhkdedjffkhdaaGreat
open Go.RowKit Go.Maps

theorem hasW_any (x : Wr) (w : World) : Calls Tryz.prog 44 (#[.agg #[.int .i64 x.k.kind, .int .i64 x.k.a, .int .i64 x.k.b, .string x.k.s, .string x.val, .bool x.has]] ++ #[]) w fun e w' => e = .returned (.bool x.has) ∧ Below w.heap.size w w' := by
  go_enter Tryz.func44, Tryz.ntmps44
  go_wp2_with fail
  go_ret
  exact ⟨rfl, below_box _ _⟩
theorem noneW_any (x : Wr) (w : World) : Calls Tryz.prog 45 (#[.agg #[.int .i64 x.k.kind, .int .i64 x.k.a, .int .i64 x.k.b, .string x.k.s, .string x.val, .bool x.has]] ++ #[]) w fun e w' => e = .returned (.bool (!x.has)) ∧ Below w.heap.size w w' := by
  go_enter Tryz.func45, Tryz.ntmps45
  go_wp2_with fail
  go_ret
  exact ⟨rfl, below_box _ _⟩
theorem eg_has : ∀ args w, (callFunc 44 args).run Tryz.prog w = .ok (.enter 44 args) w := enters_of Tryz.func44 (by kernel_rfl) rfl
theorem eg_none : ∀ args w, (callFunc 45 args).run Tryz.prog w = .ok (.enter 45 args) w := enters_of Tryz.func45 (by kernel_rfl) rfl
theorem own0 {a : Option Addr} {n c : Nat} : (Value.slice a n c).ownBlock = (Value.slice a 0 0).ownBlock := by cases a <;> rfl
/-- what one commits, as it is installed -/
def lastW (W : List Wr) : List Wr := W.filter (fun x => x.has) ++ W.reverse.filter (fun x => !x.has)
theorem lastW_len (W : List Wr) : (lastW W).length = W.length := by
  unfold lastW
  rw [List.length_append]
  have h1 : (W.reverse.filter (fun x => !x.has)).length = (W.filter (fun x => !x.has)).length := by rw [List.filter_reverse, List.length_reverse]
  rw [h1]
  induction W with
  | nil => rfl
  | cons x W ih =>
    simp only [List.filter_cons, List.length_cons]
    cases x.has <;> simp <;> (have := ih; simp at this; omega)
section
variable {w w' : World} {m : Tm} {T : Tn}
theorem TxC.setWR (h : TxC w m T) {wa ra : Option Addr} {wc rc : Nat} {W : List Wr} {R : List Ky} (hW : kW.Own w 0 (.slice wa W.length wc) W) (hR : kK.Own w 0 (.slice ra R.length rc) R) :
    TxC ((w.setCell ⟨m.tb, 4, none⟩ (.slice wa W.length wc)).setCell ⟨m.tb, 6, none⟩ (.slice ra R.length rc)) { m with wa := wa, wc := wc, ra := ra, rc := rc } { T with W := W, R := R } ∧ Chg w ((w.setCell ⟨m.tb, 4, none⟩ (.slice wa W.length wc)).setCell ⟨m.tb, 6, none⟩ (.slice ra R.length rc)) (fun j => j = m.tb) := by
  have hc : Chg w ((w.setCell ⟨m.tb, 4, none⟩ (.slice wa W.length wc)).setCell ⟨m.tb, 6, none⟩ (.slice ra R.length rc)) (fun j => j = m.tb) := ((Chg.refl w (fun j => j = m.tb)).setCell (p := ⟨m.tb, 4, none⟩) (fun _ => rfl) _).setCell (p := ⟨m.tb, 6, none⟩) (fun _ => rfl) _
  have hr := h.rows hc
  refine ⟨⟨?_, ?_, ?_, ?_⟩, hc⟩
  · show (((w.setCell _ _).setCell _ _).heap[m.tb]?) = _
    rw [blk_setCell (blk_setCell h.blk _) _]
    simp [Tm.cells]
  · exact ownsRow_of_block hW (fun j hj => by obtain ⟨cur, hg⟩ := ownW_typed hW hj; exact hr j cur (.inl hg))
  · exact ownsRow_of_block h.lo (fun j hj => by obtain ⟨cur, hg⟩ := ownW_typed h.lo hj; exact hr j cur (.inl hg))
  · exact ownsRow_of_block hR (fun j hj => by obtain ⟨cur, hg⟩ := ownK_typed hR hj; exact hr j cur (.inr hg))
theorem TxC.setL (h : TxC w m T) {la : Option Addr} {lc : Nat} {L : List Wr} {n : Nat} (hL : kW.Own w 0 (.slice la n lc) L) (hn : L.length = n) :
    TxC (w.setCell ⟨m.tb, 5, none⟩ (.slice la n lc)) { m with la := la, lc := lc } { T with L := L } ∧ Chg w (w.setCell ⟨m.tb, 5, none⟩ (.slice la n lc)) (fun j => j = m.tb) := by
  subst hn
  have hc : Chg w (w.setCell ⟨m.tb, 5, none⟩ (.slice la L.length lc)) (fun j => j = m.tb) := (Chg.refl w (fun j => j = m.tb)).setCell (p := ⟨m.tb, 5, none⟩) (fun _ => rfl) _
  have hr := h.rows hc
  refine ⟨⟨?_, ?_, ?_, ?_⟩, hc⟩
  · show ((w.setCell _ _).heap[m.tb]?) = _
    rw [blk_setCell h.blk _]
    simp [Tm.cells]
  · exact ownsRow_of_block h.wo (fun j hj => by obtain ⟨cur, hg⟩ := ownW_typed h.wo hj; exact hr j cur (.inl hg))
  · exact ownsRow_of_block hL (fun j hj => by obtain ⟨cur, hg⟩ := ownW_typed hL hj; exact hr j cur (.inl hg))
  · exact ownsRow_of_block h.ro (fun j hj => by obtain ⟨cur, hg⟩ := ownK_typed h.ro hj; exact hr j cur (.inr hg))
theorem chg_fresh {u u' : World} {n : Nat} {S : Nat → Prop} (h : Chg u u' S) (hb : Below n w u) (hn : n ≤ w.heap.size) (hS : ∀ j, S j → n ≤ j) : Below n w u' :=
  ⟨h.os.trans hb.os, h.tape.trans hb.tape, h.output.trans hb.output, Nat.le_trans hb.size h.size, fun j hj => (h.block j (Nat.lt_of_lt_of_le hj (Nat.le_trans hn hb.size)) (fun e => by have := hS j e; omega)).trans (hb.block j hj)⟩
theorem TxC.last {u w5 w8 w9 : World} {m1 : Tm} {T1 : Tn} {tb nx c6 nW : Nat} {a6 : Option Addr} {v9 : Value} {X Y : List Wr} (hx : TxC u m1 T1) (ht : m1.tb = tb) (hb8 : Below u.heap.size u w8) (h5 : u.heap.size ≤ w5.heap.size) (h58 : w5.heap.size ≤ w8.heap.size)
    (ho : kW.Own w8 w5.heap.size (.slice a6 nx c6) X) (hA : kW.App w8 w5.heap.size (.slice a6 nx c6) (X ++ Y) v9 w9) (hn : (X ++ Y).length = nW) :
    ∃ a9 c9, v9 = .slice a9 nW c9 ∧ Below u.heap.size u w9 ∧ w9.cell? ⟨tb, 5, none⟩ = some (.slice m1.la T1.L.length m1.lc) ∧ w9.frozen? ⟨tb, 5, none⟩ = false ∧ tb < w9.heap.size ∧
      (∀ ph, Calls Tryz.prog 47 #[.pointer (some ⟨tb, 0, none⟩), .int .i64 ph] (w9.setCell ⟨tb, 5, none⟩ (.slice a9 nW c9)) (ToPost (w9.setCell ⟨tb, 5, none⟩ (.slice a9 nW c9)) { m1 with la := a9, lc := c9 } (toT { T1 with L := X ++ Y } ph))) ∧
      Chg w9 (w9.setCell ⟨tb, 5, none⟩ (.slice a9 nW c9)) (fun j => j = tb) ∧ ∀ j, (Value.slice a9 0 0).ownBlock = some j → w5.heap.size ≤ j := by
  subst ht
  obtain ⟨a9, c9, hv9⟩ := RowK.Own.shape hA.1
  rw [hn] at hv9
  subst hv9
  have hb9 := hb8.trans ((below_grownW ho hA.2.1 h58).mono h5)
  have hx9 := hx.below hb9
  have hS := hx9.setL (L := X ++ Y) (RowK.Own.mono hA.1 (Nat.zero_le _)) hn
  exact ⟨a9, c9, rfl, hb9, by rw [cell_of_blk hx9.blk]; rfl, frozen_of_blk hx9.blk 5, hx9.lt, fun ph => to_any hS.1 ph, hS.2, fun j hj => (hA.1.lt j (by rw [own0]; exact hj)).1⟩
/-- what Commit leaves -/
def OcmPost (w : World) (m : Tm) (T : Tn) (ns nw : Nat) (gs : Ky → Option Sn) (gw : Ky → Option Tx) (e : Ending) (w' : World) : Prop :=
  (T.ph ≠ 0 ∧ e = .returned (.int .i64 200) ∧ Below w.heap.size w w') ∨
  (T.ph = 0 ∧ e = .returned (.int .i64 0) ∧ ∃ (kw kr : List Ky) (m' : Tm), KsG gw nw kw ∧ KsG gs ns kr ∧ m'.tb = m.tb ∧ m'.sb = m.sb ∧ m'.cb = m.cb ∧ TxC w' m' (toT { T with W := wrOut gs gw kw, L := lastW (wrOut gs gw kw), R := kr } 1) ∧ Chg w w' (fun j => j = m.tb) ∧ ∀ j, ((Value.slice m'.wa 0 0).ownBlock = some j ∨ (Value.slice m'.la 0 0).ownBlock = some j ∨ (Value.slice m'.ra 0 0).ownBlock = some j) → w.heap.size ≤ j)
variable {bs bw bm ns nw nm : Nat} {gs : Ky → Option Sn} {gw gm : Ky → Option Tx}
set_option maxRecDepth 100000 in
set_option maxHeartbeats 8000000 in
theorem occommit_any (h : TxC w m T) (hx : StX w m.sb bs bw bm ns nw nm gs gw gm) (hns : ns ≤ 20000) (hnw : nw ≤ 20000) :
    Calls Tryz.prog 21 #[.pointer (some ⟨m.tb, 0, none⟩)] w (OcmPost w m T ns nw gs gw) := by
  obtain ⟨c0, c1, c2, c3, c4, c5, c6, c7, c8, c9, c10, cl⟩ := h.cell
  obtain ⟨ph, hph⟩ : ∃ p, p = T.ph := ⟨_, rfl⟩
  rw [← hph] at c3
  have HPH := Lib.hid hph
  by_cases hp0 : ph = 0
  case neg =>
    have t1 : (ph == 0) = false := by simpa using hp0
    have t1' : (ph != 0) = true := by simpa using hp0
    have HP0 := Lib.hid hp0
    clear h hx hp0 hph
    go_enter Tryz.func21, Tryz.ntmps21
    go_wp2_with fail
    go_ret
    exact .inl ⟨by rw [← HPH.out]; exact HP0.out, rfl, Below.refl _ _⟩
  subst hp0
  have HFC : Hid (∀ u, Below w.heap.size w u → Below w.heap.size w u ∧ u.cell? ⟨m.tb, 0, none⟩ = some (.pointer (some ⟨m.sb, 0, none⟩)) ∧ m.tb < u.heap.size) := Lib.hid (fun u hu => by
    obtain ⟨c0, _, _, _, _, _, _, _, _, _, _, cl⟩ := (h.below hu).cell
    exact ⟨hu, c0, cl⟩)
  have HWR : Hid (∀ u, Below w.heap.size w u → Calls Tryz.prog 41 #[.pointer (some ⟨m.sb, 0, none⟩)] u (WritesPost u nw gs gw)) := Lib.hid (fun u hu => sxWrites_any (hx.below hu) (by omega))
  have HRD : Hid (∀ u, Below w.heap.size w u → Calls Tryz.prog 42 #[.pointer (some ⟨m.sb, 0, none⟩)] u fun e w' => ∃ v ks, e = .returned v ∧ KsG gs ns ks ∧ kK.Own w' u.heap.size v ks ∧ Below u.heap.size u w') := Lib.hid (fun u hu => sxReads_any (hx.below hu) (by omega))
  have HH := Lib.hid h
  have HNN : Hid (ns ≤ 20000 ∧ nw ≤ 20000) := Lib.hid ⟨hns, hnw⟩
  clear h hx hph hns hnw
  go_enter Tryz.func21, Tryz.ntmps21
  go_upto_region 3 with fail
  clear c1 c2 c4 c5 c6 c7 c8 c9 c10 c3
  go_cut [2] from 11 to 26 (fun s2 wc => ∃ (u : World) (m1 : Tm) (kw kr : List Ky), u = wc ∧ s2 = .int .i64 0 ∧ Hid (m1.tb = m.tb ∧ m1.sb = m.sb ∧ m1.cb = m.cb ∧ KsG gw nw kw ∧ KsG gs ns kr ∧ TxC u m1 { T with W := wrOut gs gw kw, R := kr } ∧ Chg w u (fun j => j = m.tb) ∧ ∀ j, ((Value.slice m1.wa 0 0).ownBlock = some j ∨ (Value.slice m1.ra 0 0).ownBlock = some j) → w.heap.size ≤ j))
  case first =>
    go_region_with (first
      | (go_at_call 41; refine (HWR.out _ (Below.refl _ _).drew).mono ?_; rintro e wc ⟨v, kw, rfl, g1, g2, hbc⟩; have hbc2 := below_then (show Below w.heap.size w _ from (Below.refl _ _).drew) hbc; have HBC := Lib.hid hbc2; obtain ⟨_, d0, dl⟩ := HFC.out wc hbc2; have g3 := RowK.Own.mono g2 (Nat.zero_le _); obtain ⟨wa, wcp, rfl⟩ := RowK.Own.shape g3; obtain ⟨nW, hnW⟩ : ∃ n, n = (wrOut gs gw kw).length := ⟨_, rfl⟩; rw [← hnW] at g3 ⊢; have HW1 := Lib.hid (And.intro g1 (And.intro g3 hnW)); have HWO : Hid (∀ j, (Value.slice wa 0 0).ownBlock = some j → w.heap.size ≤ j) := Lib.hid (fun j hj => (g2.lt j (by rw [own0]; exact hj)).1); clear g1 g2 g3 hnW hbc hbc2)
      | (go_at_call 42; refine (HRD.out wc HBC.out).mono ?_; rintro e wd ⟨v, kr, rfl, g1, g2, hbd⟩; have hbd2 := below_then HBC.out hbd; have HBD := Lib.hid hbd2; have HBE := Lib.hid hbd; have hblk := (HH.out.below hbd2).blk; have y4 := cell_of_blk hblk 4; have y6 := cell_of_blk hblk 6; have f4 := frozen_of_blk hblk 4; have f6 := frozen_of_blk hblk 6; have yl := (Array.getElem?_eq_some_iff.1 hblk).1; simp [Tm.cells] at y4 y6; have g3 := RowK.Own.mono g2 (Nat.zero_le _); obtain ⟨ra, rcp, rfl⟩ := RowK.Own.shape g3; obtain ⟨nR, hnR⟩ : ∃ n, n = kr.length := ⟨_, rfl⟩; rw [← hnR] at g3 ⊢; have HR1 := Lib.hid (And.intro g1 (And.intro g3 hnR)); have HRO : Hid (∀ j, (Value.slice ra 0 0).ownBlock = some j → w.heap.size ≤ j) := Lib.hid (fun j hj => Nat.le_trans HBC.out.size (g2.lt j (by rw [own0]; exact hj)).1); clear g1 g2 g3 hnR hbd hbd2 hblk))
    all_goals
      go_wp2_with fail
      go_meet
      have hS : TxC ((wd.setCell ⟨m.tb, 4, none⟩ (.slice wa nW wcp)).setCell ⟨m.tb, 6, none⟩ (.slice ra nR rcp)) { m with wa := wa, wc := wcp, ra := ra, rc := rcp } { T with W := wrOut gs gw kw, R := kr } ∧ Chg wd ((wd.setCell ⟨m.tb, 4, none⟩ (.slice wa nW wcp)).setCell ⟨m.tb, 6, none⟩ (.slice ra nR rcp)) (fun j => j = m.tb) := by
        have h1 := HW1.out
        have h2 := HR1.out
        have h3 := h1.2.2
        have h4 := h2.2.2
        subst h3 h4
        exact (HH.out.below HBD.out).setWR (h1.2.1.below HBE.out) h2.2.1
      exact ⟨_, { m with wa := wa, wc := wcp, ra := ra, rc := rcp }, kw, kr, rfl, rfl, Lib.hid ⟨rfl, rfl, rfl, HW1.out.1, HR1.out.1, hS.1, (Chg.of_below HBD.out _).trans hS.2 (fun _ _ e => e), fun j hj => by rcases hj with hj | hj; exact HWO.out j hj; exact HRO.out j hj⟩⟩
  case rest =>
  obtain ⟨u, m1, kw, kr, rfl, rfl, HU⟩ := hcut
  obtain ⟨T1, hT1⟩ : ∃ T1 : Tn, T1 = { T with W := wrOut gs gw kw, R := kr } := ⟨_, rfl⟩
  obtain ⟨W1, hW1⟩ : ∃ W1, W1 = wrOut gs gw kw := ⟨_, rfl⟩
  obtain ⟨tb, htb⟩ : ∃ b, b = m.tb := ⟨_, rfl⟩
  obtain ⟨nW, hnW⟩ : ∃ n, n = W1.length := ⟨_, rfl⟩
  have HT1 : Hid (T1 = { T with W := W1, R := kr } ∧ W1 = wrOut gs gw kw ∧ tb = m.tb ∧ m1.tb = tb ∧ TxC u m1 T1 ∧ kW.Own u 0 (.slice m1.wa nW m1.wc) W1) := Lib.hid (by
    obtain ⟨e1, _, _, _, _, hx, _⟩ := HU.out
    have h5 := hx.wo
    refine ⟨by rw [hT1, hW1], hW1, htb, by rw [e1, htb], by rw [hT1]; exact hx, ?_⟩
    rw [hnW, hW1]
    exact h5)
  have HNW : Hid (nW = W1.length ∧ nW ≤ 20000) := Lib.hid ⟨hnW, by
    have h1 := wrOut_len gs gw kw
    have h2 := HU.out.2.2.2.1.2.2.1
    have := HNN.out
    rw [hnW, hW1]
    omega⟩
  have HF : Hid (∀ v, Below u.heap.size u v → v.cell? ⟨tb, 4, none⟩ = some (.slice m1.wa nW m1.wc) ∧ tb < v.heap.size) := Lib.hid (fun v hv => by
    have h := (HT1.out.2.2.2.2.1.below hv).cell
    have hw : T1.W = W1 := by rw [HT1.out.1]
    rw [HT1.out.2.2.2.1, hw, ← HNW.out.1] at h
    exact ⟨h.2.2.2.2.1, h.2.2.2.2.2.2.2.2.2.2.2⟩)
  have HCL : Hid (∀ v, Below u.heap.size u v → Calls Tryz.prog 35 #[.slice m1.wa nW m1.wc] v (CwPost v W1)) := Lib.hid (fun v hv => by
    have ho := HT1.out.2.2.2.2.2.below hv
    rw [HNW.out.1] at ho ⊢
    refine cloneW_any m1.wa m1.wc W1 v ho.toV (fun e => ?_) (by rw [← HNW.out.1]; have := HNW.out.2; omega)
    rw [e] at ho
    refine ⟨RowK.Own.noneCap ho, ?_⟩
    cases hl : W1 with
    | nil => rfl
    | cons x l =>
      obtain ⟨b', c', e9, _⟩ := ho.at' (fun e => by rw [hl] at e; cases e)
      cases e9)
  rw [← htb]
  clear hT1 hW1 htb hnW HFC HWR HRD
  obtain ⟨y4, yl⟩ := HF.out u (Below.refl _ _)
  go_wp2_with fail
  refine (HCL.out u (Below.refl _ _)).mono ?_
  rintro e w4 ⟨a3, c3, rfl, ho4, hb4⟩
  rw [← HNW.out.1] at ho4 ⊢
  have HO4 := Lib.hid ho4
  have HB4 := Lib.hid hb4
  have hrv := revW_any u.heap.size a3 c3 W1 w4 (by rw [← HNW.out.1]; exact ho4) (by rw [← HNW.out.1]; have := HNW.out.2; omega)
  rw [← HNW.out.1] at hrv
  have HRV := Lib.hid hrv
  clear ho4 hb4 hrv y4 yl
  go_wp2_with fail
  refine HRV.out.mono ?_
  rintro e w5 ⟨rfl, ho5, hc5⟩
  have HO5 := Lib.hid ho5
  have HB5 : Hid (Below u.heap.size u w5) := Lib.hid (chg_fresh hc5 HB4.out (Nat.le_refl _) (fun j hj => (HO4.out.lt j hj).1))
  clear ho5 hc5
  obtain ⟨y4, yl⟩ := HF.out w5 HB5.out
  go_wp2_with fail
  refine (HCL.out w5 HB5.out).mono ?_
  rintro e w6 ⟨a6, c6, rfl, ho6, hb6⟩
  rw [← HNW.out.1] at ho6 ⊢
  have HO6 := Lib.hid ho6
  have HB6 := Lib.hid hb6
  have hd1 := delW_any 45 (fun x => !x.has) a6 c6 W1 w6 w5.heap.size eg_none (by rw [← HNW.out.1]; exact ho6) (by rw [← HNW.out.1]; have := HNW.out.2; omega) (fun W x _ => noneW_any x W)
  rw [← HNW.out.1] at hd1
  have HD1 := Lib.hid hd1
  clear ho6 hb6 hd1 y4 yl
  go_wp2_with fail
  refine HD1.out.mono ?_
  obtain ⟨X, hX⟩ : ∃ X, X = W1.filter (fun x => x.has) := ⟨_, rfl⟩
  obtain ⟨Y, hY⟩ : ∃ Y, Y = W1.reverse.filter (fun x => !x.has) := ⟨_, rfl⟩
  have HXY : Hid (lastW W1 = X ++ Y ∧ X.length + Y.length = nW) := Lib.hid (by
    have h := lastW_len W1
    unfold lastW at h ⊢
    rw [← hX, ← hY] at h ⊢
    rw [List.length_append] at h
    exact ⟨rfl, by rw [HNW.out.1]; exact h⟩)
  obtain ⟨nx, hnx⟩ : ∃ n, n = X.length := ⟨_, rfl⟩
  obtain ⟨ny, hny⟩ : ∃ n, n = Y.length := ⟨_, rfl⟩
  have hXX : W1.filter (fun x => !!x.has) = X := by rw [hX]; congr 1; funext x; simp
  rintro e w7 ⟨he7, ho7, hc7⟩
  simp only [hXX, ← hnx] at he7 ho7
  subst he7
  have HO7 := Lib.hid ho7
  have HB7 : Hid (Below w5.heap.size w5 w7) := Lib.hid (chg_fresh hc7 HB6.out (Nat.le_refl _) (fun j hj => (HO6.out.lt j hj).1))
  have HO5b : Hid (kW.Own w7 u.heap.size (.slice a3 nW c3) W1.reverse) := Lib.hid (HO5.out.below HB7.out)
  have hd2 := delW_any 44 (fun x => x.has) a3 c3 W1.reverse w7 u.heap.size eg_has (by rw [List.length_reverse, ← HNW.out.1]; exact HO5b.out) (by rw [List.length_reverse, ← HNW.out.1]; have := HNW.out.2; omega) (fun W x _ => hasW_any x W)
  rw [List.length_reverse, ← HNW.out.1] at hd2
  have HD2 := Lib.hid hd2
  have HYY : Hid (W1.reverse.filter (fun x => !x.has) = Y ∧ Y.length = ny) := Lib.hid ⟨hY.symm, hny.symm⟩
  have HNXY : Hid (X.length = nx ∧ Y.length = ny ∧ nx + ny = nW) := Lib.hid ⟨hnx.symm, hny.symm, by rw [hnx, hny]; exact HXY.out.2⟩
  clear ho7 hc7 hd2 hXX hX hY hnx hny
  go_wp2_with fail
  refine HD2.out.mono ?_
  rintro e w8 ⟨he8, ho8, hc8⟩
  rw [HYY.out.1, HYY.out.2] at he8 ho8
  subst he8
  have HO8 := Lib.hid ho8
  have HB8 : Hid (Below u.heap.size u w8) := Lib.hid (chg_fresh hc8 (HB5.out.trans (HB7.out.mono HB5.out.size)) (Nat.le_refl _) (fun j hj => (HO5b.out.lt j hj).1))
  have HO7b : Hid (kW.Own w8 w5.heap.size (.slice a6 nx c6) X) := Lib.hid (HO7.out.chg hc8 (fun j hj e => by
    have h1 := (HO7.out.lt j hj).1
    have h2 := (HO5.out.lt j e).2
    omega))
  have HSZ : Hid (w7.heap.size ≤ w8.heap.size) := Lib.hid hc8.size
  clear ho8 hc8
  go_wp2_with (at_builtin; refine RowK.wpList_app (k := kW) rfl (.tmp 41) (.tmp 44) rfl rfl HO7b.out a3 ny Y c3 rfl HNXY.out.2.1 HO8.out.toV (fun e => by have h := HO8.out; rw [e] at h; exact RowK.Own.noneCap h) (by have := HNXY.out; have := HNW.out; omega) (Nat.le_trans HB7.out.size HSZ.out) ?_; intro v9 w9 hA; obtain ⟨a9, c9, hv9, hb9, y5, f5, zl, hT, hS, hO9⟩ := TxC.last HT1.out.2.2.2.2.1 HT1.out.2.2.2.1 HB8.out HB5.out.size (Nat.le_trans HB7.out.size HSZ.out) HO7b.out hA (by rw [List.length_append, HNXY.out.1, HNXY.out.2.1, HNXY.out.2.2]); subst hv9; have HTO := Lib.hid (hT 1); have HB9 := Lib.hid hb9; have HS9 := Lib.hid hS; have HO9 := Lib.hid hO9; clear hA hb9 hS hT hO9)
  refine HTO.out.mono ?_
  rintro e wz ⟨rfl, hx, hc⟩
  have HZ := Lib.hid (And.intro hx hc)
  clear hx hc
  go_wp2_with fail
  go_ret
  have hE : ({ T1 with L := X ++ Y } : Tn) = { T with W := wrOut gs gw kw, L := lastW (wrOut gs gw kw), R := kr } := by rw [HT1.out.1, ← HXY.out.1, HT1.out.2.1]
  obtain ⟨e1, e2, e3, e4, e5, _, e7, e8⟩ := HU.out
  have hz := HZ.out
  rw [hE] at hz
  refine .inr ⟨HPH.out.symm, rfl, kw, kr, { m1 with la := a9, lc := c9 }, e4, e5, e1, e2, e3, hz.1, ?_, fun j hj => by
    rcases hj with hj | hj | hj
    · exact e8 j (.inl hj)
    · exact Nat.le_trans (Nat.le_trans e7.size HB5.out.size) (HO9.out j hj)
    · exact e8 j (.inr hj)⟩
  have h1 : Chg w w9 (fun j => j = m.tb) := e7.trans (Chg.of_below HB9.out (fun j => j = m.tb)) (fun _ _ e => e)
  exact (h1.trans HS9.out (fun _ _ e => e.trans HT1.out.2.2.1)).trans hz.2 (fun i _ e => e.trans e1)
end
end Go.Proofs.YtkhkdedjffkhdaaGreat
