/- block.Take. Conditions: each contract's own premises. The reference's Take. Conditions: each contract's own premises. -/
import Derived.Test.YtonilojjahfboaaBkA
import Derived.Deep.DeepCutAuto
import Derived.Deep.CutBlock
namespace Go.Proofs.Ytonilojjahfboaa
open Go.RowKit Go.Maps

theorem heap_setCell_same' (w : World) (b i : Nat) (c : Array Value) (t : TypeId) (x : Value) (h : w.heap[b]? = some (.cells c t)) : (w.setCell ⟨b, i, none⟩ x).heap[b]? = some (.cells (c.setIfInBounds i x) t) := blk_setCell h x
theorem set2 {w wr : World} {a0 a1 : Value} {t : TypeId} (e : wr.heap[w.heap.size]? = some (.cells #[a0, a1] t)) (x y : Value) (w3 : World)
    (h : w3 = (wr.setCell ⟨w.heap.size, 0, none⟩ x).setCell ⟨w.heap.size, 1, none⟩ y) :
    Below w.heap.size wr w3 ∧ (∀ k, k ≠ w.heap.size → w3.heap[k]? = wr.heap[k]?) ∧ w3.cell? ⟨w.heap.size, 0, none⟩ = some x ∧ w3.cell? ⟨w.heap.size, 1, none⟩ = some y := by
  have h1 := heap_setCell_same' wr w.heap.size 0 _ t x e
  have h2 := heap_setCell_same' _ w.heap.size 1 _ t y h1
  rw [← h] at h2
  refine ⟨?_, ?_, ?_, ?_⟩
  · rw [h]
    exact ((Below.refl _ _).setCell (p := ⟨w.heap.size, 0, none⟩) (Nat.le_refl _) x).setCell (p := ⟨w.heap.size, 1, none⟩) (Nat.le_refl _) y
  · intro k hk
    rw [h, Below.heap_setCell _ _ _ _ (fun e => hk e), Below.heap_setCell _ _ _ _ (fun e => hk e)]
  · rw [cell_of_blk h2]; simp
  · rw [cell_of_blk h2]; simp
/-- what taking leaves: a block, or an error -/
def TkbPost (w : World) (l : List UInt8) (e : Ending) (w' : World) : Prop :=
  Below w.heap.size w w' ∧ ((tkE l = 0 ∧ ∃ v, e = .returned (.tuple #[.agg #[bv (l.getD 1 0), v], .int .i64 ((tkN l + 10 : Nat) : Int), .int .i64 0]) ∧ BsO w' w.heap.size v (tkB l)) ∨
    (tkE l ≠ 0 ∧ e = .returned (.tuple #[.agg #[.int .u8 0, .slice none 0 0], .int .i64 0, .int .i64 (tkE l)])))
end Go.Proofs.Ytonilojjahfboaa
namespace Go.Proofs.Ytonilojjahfboaa
open Go.RowKit Go.Maps

theorem tkN_eq {l : List UInt8} {p q r s : UInt8} (h2 : l[2]? = some p) (h3 : l[3]? = some q) (h4 : l[4]? = some r) (h5 : l[5]? = some s) : tkN l = ((p.toNat * 256 + q.toNat) * 256 + r.toNat) * 256 + s.toNat := by
  match l, h2, h3, h4, h5 with
  | _ :: _ :: x2 :: x3 :: x4 :: x5 :: t, h2, h3, h4, h5 =>
    simp at h2 h3 h4 h5
    subst h2 h3 h4 h5
    simp [tkN, numL]
theorem four_num {m : List UInt8} (h : m.length = 4) : fourL (numL m) = m := by
  match m, h with
  | [a, b, c, d], _ =>
    have ha := a.toNat_lt
    have hb := b.toNat_lt
    have hc := c.toNat_lt
    have hd := d.toNat_lt
    have e : numL [a, b, c, d] = ((a.toNat * 256 + b.toNat) * 256 + c.toNat) * 256 + d.toNat := by simp [numL]
    rw [e]
    unfold fourL
    have e1 : UInt8.ofNat ((((a.toNat * 256 + b.toNat) * 256 + c.toNat) * 256 + d.toNat) / 16777216) = a := by
      apply UInt8.toNat_inj.1; simp; omega
    have e2 : UInt8.ofNat ((((a.toNat * 256 + b.toNat) * 256 + c.toNat) * 256 + d.toNat) / 65536) = b := by
      apply UInt8.toNat_inj.1; simp; omega
    have e3 : UInt8.ofNat ((((a.toNat * 256 + b.toNat) * 256 + c.toNat) * 256 + d.toNat) / 256) = c := by
      apply UInt8.toNat_inj.1; simp; omega
    have e4 : UInt8.ofNat (((a.toNat * 256 + b.toNat) * 256 + c.toNat) * 256 + d.toNat) = d := by
      apply UInt8.toNat_inj.1
      simp
    rw [e1, e2, e3, e4]
theorem num_four {n : Nat} (h : n < 4294967296) : numL (fourL n) = n := by
  simp [numL, fourL]; omega
theorem num4_ne {m : List UInt8} {c : Nat} (hm : m.length = 4) (hc : c < 4294967296) : (numL m ≠ c) ↔ (fourL c ≠ m) :=
  ⟨fun h e => h (by rw [← e, num_four hc]), fun h e => h (by rw [← e, four_num hm])⟩
/-- what the reference's taking leaves -/
def TkrPost (w : World) (b off cap : Nat) (l : List UInt8) (e : Ending) (w' : World) : Prop :=
  Below w.heap.size w w' ∧ ((tkE l = 0 ∧ e = .returned (.tuple #[.agg #[bv (l.getD 1 0), .slice (some ⟨b, off + 6, none⟩) (tkB l).length (cap - 6)], .int .i64 ((tkN l + 10 : Nat) : Int), .int .i64 0])) ∨
    (tkE l ≠ 0 ∧ e = .returned (.tuple #[.agg #[.int .u8 0, .slice none 0 0], .int .i64 0, .int .i64 (tkE l)])))
def TkrPost' (w : World) (a : Option Addr) (cap : Nat) (l : List UInt8) (e : Ending) (w' : World) : Prop := ∃ b off, (l ≠ [] → a = some ⟨b, off, none⟩) ∧ TkrPost w b off cap l e w'
end Go.Proofs.Ytonilojjahfboaa
