/- Bytes in memory, bytes of the call's own; conversions and appends at the operation. Conditions: each lemma's own premises. -/
import Derived.Test.YtonilojjahfboaaWb0
import Derived.Laws.Concat
import Derived.Laws.BitsAllLaws
import Derived.Maps.AppendAt
import Derived.Lib.AppendStr
import Derived.Deep.AppendSrc
namespace Go.Proofs.Ytonilojjahfboaa
open Go.RowKit Go.Maps

/-- a byte as a value -/
def bv (b : UInt8) : Value := .int .u8 (b.toNat : Int)
/-- bytes in memory -/
structure BsAt (w : World) (b off : Nat) (l : List UInt8) : Prop where
  cells : ∀ (i : Nat) (x : UInt8), l[i]? = some x → w.cell? ⟨b, off + i, none⟩ = some (bv x)
  lt : b < w.heap.size
theorem BsAt.of_block {w w' : World} {b off : Nat} {l : List UInt8} (h : BsAt w b off l) (hb : w'.heap[b]? = w.heap[b]?) : BsAt w' b off l :=
  ⟨fun i x hx => (World.cell?_of_block (a := ⟨b, off + i, none⟩) hb).trans (h.cells i x hx), (Array.getElem?_eq_some_iff.1 (hb.trans (Array.getElem?_eq_getElem h.lt))).1⟩
theorem BsAt.conv {w : World} {b off : Nat} {l : List UInt8} (h : BsAt w b off l) : ∀ j (hj : j < l.length), w.cell? ((⟨b, off, none⟩ : Addr).add j) = some (.int .u8 (l[j].toNat : Int)) := fun j hj => by
  rw [add_none]; exact h.cells j l[j] (List.getElem?_eq_getElem hj)
/-- bytes as a number -/
def numL (l : List UInt8) : Nat := l.foldl (fun n b => n * 256 + b.toNat) 0
theorem numL_snoc {l : List UInt8} {k : Nat} (h : k < l.length) : numL (l.take (k + 1)) = numL (l.take k) * 256 + (l[k]).toNat := by
  unfold numL
  rw [List.take_succ_eq_append_getElem h, List.foldl_append]; rfl
theorem numL_take (l : List UInt8) : ∀ k, k ≤ l.length → numL (l.take k) < 256 ^ k
  | 0, _ => by simp [numL]
  | k + 1, h => by
    have ih := numL_take l k (by omega)
    have hb := (l[k]'(by omega)).toNat_lt
    rw [numL_snoc (by omega), Nat.pow_succ]
    omega
theorem infoU8 : (Try.prog.info? 5).map (fun i => (i.zero, i.size, i.bytes)) = some (some (.int .u8 0), 1, 1) := by kernel_rfl
/-- a slice value that owns bytes, in a block from B on -/
def BsO (w : World) (B : Nat) (v : Value) (l : List UInt8) : Prop := w.ownsRow B 5 1 v l.length (l.map bv)
theorem bv_one {l : List UInt8} : ∀ u ∈ l.map bv, u.oneCell' = true := fun u hu => by
  obtain ⟨b, _, rfl⟩ := List.mem_map.1 hu
  rfl
theorem BsO.below {w w' : World} {B : Nat} {v : Value} {l : List UInt8} (h : BsO w B v l) (hb : Below w.heap.size w w') : BsO w' B v l :=
  ownsRow_of_block h (fun k hk => hb.block k (h.lt k hk).2)
theorem BsO.alloc {w : World} {B : Nat} {v : Value} {l : List UInt8} (h : BsO w B v l) (X : Obj) : BsO (w.alloc X) B v l := h.below (below_box w X)
theorem BsO.drew {w : World} {B : Nat} {v : Value} {l : List UInt8} (h : BsO w B v l) : BsO w.drew B v l := ownsRow_of_block h (fun _ _ => rfl)
theorem BsO.mono {w : World} {B B' : Nat} {v : Value} {l : List UInt8} (h : BsO w B v l) (hB : B' ≤ B) : BsO w B' v l := by
  refine ⟨h.1, ?_⟩
  rcases h.2 with h' | ⟨g, cap, cur, h1, h2, r⟩
  · exact .inl h'
  · exact .inr ⟨g, cap, cur, h1, by omega, r⟩
/-- a block that was just laid -/
theorem BsO.new {w : World} {b B : Nat} {cs : Array Value} {l : List UInt8} (hb : w.heap[b]? = some (.cells cs 5 (0, 0))) (hB : B ≤ b) (hc : cs.toList = l.map bv) (hl : l.length ≤ maxLen) : BsO w B (.slice (some ⟨b, 0, none⟩) l.length l.length) l := by
  refine ⟨by simp, .inr ⟨b, l.length, cs, rfl, hB, hb, Nat.le_refl _, hl, ?_, ?_⟩⟩
  · have := congrArg List.length hc; simpa using this
  · rw [hc]; exact List.take_of_length_le (by simp)
theorem BsO.at' {w : World} {B : Nat} {v : Value} {l : List UInt8} (h : BsO w B v l) (hl : l ≠ []) : ∃ b cap, v = .slice (some ⟨b, 0, none⟩) l.length cap ∧ B ≤ b ∧ BsAt w b 0 l := by
  rcases h.2 with ⟨_, h'⟩ | ⟨g, cap, cur, h1, h2, h3, h4, h5, h6, h7⟩
  · exact absurd (List.eq_nil_of_length_eq_zero h') hl
  · refine ⟨g, cap, h1, h2, ⟨fun i x hx => ?_, (Array.getElem?_eq_some_iff.1 h3).1⟩⟩
    have := h.cells (g := g) (by rw [h1]; rfl) i (bv x) (by simp [hx])
    rw [add_none] at this
    exact this
theorem below_grown {w w' : World} {B : Nat} {v : Value} {l : List UInt8} (h : BsO w B v l) (hg : w.grownBy w' v.ownBlock) (hB : B ≤ w.heap.size) : Below B w w' :=
  ⟨hg.os, hg.tape, hg.output, hg.size, fun k hk => hg.block k (by omega) (fun e => by have := (h.lt k e.symm).1; omega)⟩
theorem new_one {w : World} {x : Value} {b : UInt8} (h : x = bv b) : ∀ j (hj : j < [b].length), (w.alloc (.cells #[x] 5)).cell? ((⟨w.heap.size, 0, none⟩ : Addr).add j) = some (.int .u8 ([b][j].toNat : Int)) := by
  intro j hj
  have : j = 0 := by simp at hj; omega
  subst this
  rw [add_none]
  refine (cell_of_blk (heap_new w _) 0).trans ?_
  rw [h]; rfl
theorem byteCells_bv (s : ByteArray) : byteCells s = s.data.toList.map bv := rfl
theorem BsAt.drop {w : World} {b off : Nat} {l : List UInt8} (h : BsAt w b off l) (k : Nat) : BsAt w b (off + k) (l.drop k) :=
  ⟨fun i x hx => by rw [List.getElem?_drop] at hx; have := h.cells _ x hx; rw [← Nat.add_assoc] at this; exact this, h.lt⟩
theorem BsAt.below {w w' : World} {b off : Nat} {l : List UInt8} (h : BsAt w b off l) (hb : Below w.heap.size w w') : BsAt w' b off l := h.of_block (hb.block b h.lt)
theorem BsO.nil (w : World) (B : Nat) : BsO w B (.slice none 0 0) [] := ⟨rfl, .inl ⟨rfl, rfl⟩⟩
theorem BsO.shape {w : World} {B : Nat} {v : Value} {l : List UInt8} (h : BsO w B v l) : ∃ a cap, v = .slice a l.length cap := by
  rcases h.2 with ⟨rfl, hl⟩ | ⟨g, cap, cur, rfl, _⟩
  · exact ⟨none, 0, by rw [hl]⟩
  · exact ⟨_, _, rfl⟩
theorem u8_ne {a b : UInt8} (h : a ≠ b) : ((a.toNat : Int) == (b.toNat : Int)) = false := by
  have : a.toNat ≠ b.toNat := fun e => h (UInt8.toNat_inj.1 e)
  simp only [beq_eq_false_iff_ne]
  omega
theorem below_al {w w' : World} (h : Below w.heap.size w w') (X : Obj) : Below w.heap.size w (w'.alloc X) := h.alloc h.size X
end Go.Proofs.Ytonilojjahfboaa
