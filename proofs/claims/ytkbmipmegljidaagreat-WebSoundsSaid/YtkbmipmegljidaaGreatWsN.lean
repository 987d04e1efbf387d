/- What an argument of small bulk looks like in memory, by its type's shape. No condition beyond each lemma's premises. Arguments of layer 21 in memory: arrays, values, properties. Conditions: each lemma's own premises. -/
import Derived.Test.YtkbmipmegljidaaGreatMem
import Derived.Test.YtkbmipmegljidaaGreatRows
import Derived.Test.YtkbmipmegljidaaGreatRow
import Derived.WideShapes
import Derived.OpenShut
import Derived.Test.YtkbmipmegljidaaGreatWsC
import Derived.Test.YtkbmipmegljidaaGreatWsM
namespace Go.Proofs.YtkbmipmegljidaaGreat
open Go.RowKit Go.Maps Go.Deep

/-- the cells cs can be read as a value of type t in the world w, of bulk at most m -/
def MemU (m : Nat) (P : Program) (w : World) (t : TypeId) (cs : List Value) : Prop :=
  ∃ (H : Type) (enc : TypeId × Value → H) (fuel : Nat) (x : DataW H × List MemPlace), DataW.trod enc P w 0 (fun _ => true) true fuel t cs = some x ∧ Rows.uptoBulk x.1 ≤ m

theorem bulk_part {H : Type} {d : DataW H} {l : List (DataW H)} (h : d ∈ l) : Rows.uptoBulk d ≤ Rows.uptoBulkAll l := by
  induction l with
  | nil => cases h
  | cons x r ih =>
    simp only [Rows.uptoBulkAll]
    cases List.mem_cons.1 h with
    | inl e => subst e; omega
    | inr e => have := ih e; omega
section
variable {m : Nat} {P : Program} {w : World} {t : TypeId} {cs : List Value}
theorem MemU.mem (h : MemU m P w t cs) : Mem P w t cs := by
  obtain ⟨H, enc, fuel, x, h, _⟩ := h
  exact ⟨H, enc, fuel, x, h⟩
theorem MemU.string (ht : P.underlying t = some .string) (h : MemU m P w t cs) : ∃ s : ByteArray, cs = [.string s] ∧ s.size ≤ m := by
  obtain ⟨H, enc, fuel, x, h, hb⟩ := h
  obtain ⟨n, h1, rfl, h2⟩ := DataW.trod_string ht h
  refine ⟨n, h1, ?_⟩
  simp only [Rows.uptoBulk] at hb
  have e : n.data.toList.length = n.size := by rw [Array.length_toList]; rfl
  omega
theorem MemU.struct {fs : Array Field} (ht : P.underlying t = some (.struct fs)) (h : MemU m P w t cs) : cs.length = P.cellsOf t ∧ ∀ (i : Nat) (f : Field), fs[i]? = some f → MemU m P w f.type ((cs.drop f.offset).take (P.cellsOf f.type)) := by
  obtain ⟨H, enc, fuel, x, h, hb⟩ := h
  obtain ⟨xs, n, _, rfl, h1, h2, h3⟩ := DataW.trod_struct ht h
  refine ⟨h1, fun i f hf => ?_⟩
  have hi : i < xs.length := by rw [h2]; exact (Array.getElem?_eq_some_iff.1 hf).1
  refine ⟨H, enc, n, xs[i], by rw [h3 i f hf, List.getElem?_eq_getElem hi], ?_⟩
  simp only [Rows.uptoBulk] at hb
  have := bulk_part (d := xs[i].1) (l := xs.map (·.1)) (List.mem_map.2 ⟨xs[i], List.getElem_mem hi, rfl⟩)
  omega
theorem MemU.slice {e : TypeId} (ht : P.underlying t = some (.slice e)) (he : 0 < P.cellsOf e) (h : MemU m P w t cs) :
    ∃ a len cap, cs = [.slice a len cap] ∧ len ≤ cap ∧ cap ≤ maxLen ∧ (a = none → len = 0 ∧ cap = 0) ∧ (0 < len → ∃ b off, a = some ⟨b, off, none⟩ ∧ b < w.heap.size ∧
      ∀ i, i < len → ∃ es : List Value, es.length = P.cellsOf e ∧ (∀ j, j < P.cellsOf e → w.cell? ⟨b, off + i * P.cellsOf e + j, none⟩ = es[j]?) ∧ MemU m P w e es) := by
  obtain ⟨H, enc, fuel, x, h, hb⟩ := h
  rcases open_slice ht h with ⟨h1, _⟩ | ⟨a, len, cap, m', n, D, Pl, h1, _, h2, h3, h4, rfl, h5⟩
  · exact ⟨none, 0, 0, h1, Nat.le_refl _, Nat.zero_le _, fun _ => ⟨rfl, rfl⟩, fun h => absurd h (Nat.lt_irrefl _)⟩
  · refine ⟨some a, len, cap, h1, h2, h3, (fun e => by cases e), fun hl => ?_⟩
    have hm : len ≤ m' := by rw [h4]; split <;> omega
    obtain ⟨es0, he0, _⟩ := h5 0 (by omega)
    obtain ⟨_, _, c0⟩ := World.cells?_some he0
    have hc0 := c0 0 he
    obtain ⟨b, off, spot⟩ := a
    obtain ⟨_, hl0, _⟩ := World.cells?_some he0
    rw [List.getElem?_eq_getElem (by omega)] at hc0
    have hspot : spot = none := by simpa [Addr.add] using World.cell?_spot hc0
    subst hspot
    refine ⟨b, off, rfl, ?_, fun i hi => ?_⟩
    · have := World.block_lt_of_cell? w _ hc0
      simpa [Addr.add] using this
    · obtain ⟨es, hes, htr⟩ := h5 i (by omega)
      obtain ⟨_, hlen, hcell⟩ := World.cells?_some hes
      refine ⟨es, hlen, fun j hj => ?_, ⟨H, enc, n, _, htr, ?_⟩⟩
      · have := hcell j hj
        rw [add_none, add_none] at this
        exact this
      · simp only [Rows.uptoBulk] at hb
        have := bulk_part (d := D i) (l := (List.range len).map D) (List.mem_map.2 ⟨i, List.mem_range.2 hi, rfl⟩)
        show Rows.uptoBulk (D i) ≤ m
        omega
theorem MemU.array {n : Nat} {e : TypeId} (ht : P.underlying t = some (.array n e)) (h : MemU m P w t cs) : cs.length = P.cellsOf t ∧ ∀ i, i < n → MemU m P w e ((cs.drop (i * P.cellsOf e)).take (P.cellsOf e)) := by
  obtain ⟨H, enc, fuel, x, h, hb⟩ := h
  obtain ⟨xs, k, _, rfl, h1, h2, h3⟩ := DataW.trod_array ht h
  refine ⟨h1, fun i hi => ⟨H, enc, k, xs[i]'(by omega), by rw [h3 i hi, List.getElem?_eq_getElem (by omega)], ?_⟩⟩
  simp only [Rows.uptoBulk] at hb
  have := bulk_part (d := (xs[i]'(by omega)).1) (l := xs.map (·.1)) (List.mem_map.2 ⟨_, List.getElem_mem (by omega), rfl⟩)
  omega
end
/-- a row of elements that can be read, as a list -/
theorem rowU {α : Type} {P : Program} (k : RowK P α) {m : Nat} {w : World} {t : TypeId} {cs : List Value} (ht : P.underlying t = some (.slice k.e)) (hc : P.cellsOf k.e = k.size) (Q : α → Prop) (hq : ∀ es, MemU m P w k.e es → ∃ x, es = k.enc x ∧ Q x) (h : MemU m P w t cs) :
    ∃ (a : Option Addr) (l : List α) (cap : Nat), cs = [.slice a l.length cap] ∧ l.length ≤ maxLen ∧ (a = none → l = [] ∧ cap = 0) ∧ k.V w a l ∧ ∀ x ∈ l, Q x := by
  obtain ⟨a, n, cap, rfl, h1, h2, h0, h3⟩ := h.slice ht (by rw [hc]; exact k.pos)
  rw [hc] at h3
  have hall : ∀ i, i < n → ∃ x : α, Q x ∧ ∀ b off, a = some ⟨b, off, none⟩ → ∀ j (u : Value), (k.enc x)[j]? = some u → w.cell? ⟨b, off + i * k.size + j, none⟩ = some u := by
    intro i hi
    obtain ⟨b, off, rfl, _, hat⟩ := h3 (by omega)
    obtain ⟨es, hl, hcl, hm⟩ := hat i hi
    obtain ⟨x, rfl, hx⟩ := hq es hm
    refine ⟨x, hx, fun b' off' e j u hu => ?_⟩
    injection e with e
    injection e with e1 e2
    subst e1 e2
    have hj := (List.getElem?_eq_some_iff.1 hu).1
    rw [k.len] at hj
    rw [hcl j hj, hu]
  obtain ⟨l, hlen, hl⟩ : ∃ l : List α, l.length = n ∧ ∀ i x, l[i]? = some x → Q x ∧ ∀ b off, a = some ⟨b, off, none⟩ → ∀ j (u : Value), (k.enc x)[j]? = some u → w.cell? ⟨b, off + i * k.size + j, none⟩ = some u := by
    refine ⟨List.ofFn (fun i : Fin n => (hall i.1 i.2).choose), by simp, fun i x hx => ?_⟩
    rw [List.getElem?_ofFn] at hx
    split at hx
    · rename_i hi
      injection hx with hx
      subst hx
      exact (hall i hi).choose_spec
    · cases hx
  subst hlen
  refine ⟨a, l, cap, rfl, by omega, fun e => ?_, fun hne => ?_, fun x hx => ?_⟩
  · obtain ⟨q1, q2⟩ := h0 e
    exact ⟨List.eq_nil_of_length_eq_zero q1, q2⟩
  · obtain ⟨b, off, rfl, hb, _⟩ := h3 (List.length_pos_iff.2 hne)
    exact ⟨b, off, rfl, ⟨fun i x hx j u hu => (hl i x hx).2 b off rfl j u hu, hb⟩⟩
  · obtain ⟨i, hi⟩ := List.getElem?_of_mem hx
    exact (hl i x hi).1
end Go.Proofs.YtkbmipmegljidaaGreat
namespace Go.Proofs.YtkbmipmegljidaaGreat
open Go.RowKit Go.Maps Go.Deep

theorem Mem.array {P : Program} {w : World} {t : TypeId} {cs : List Value} {n : Nat} {e : TypeId} (ht : P.underlying t = some (.array n e)) (h : Mem P w t cs) : cs.length = P.cellsOf t ∧ ∀ i, i < n → Mem P w e ((cs.drop (i * P.cellsOf e)).take (P.cellsOf e)) := by
  obtain ⟨H, enc, fuel, x, h⟩ := h
  obtain ⟨xs, m, _, _, h1, h2, h3⟩ := DataW.trod_array ht h
  refine ⟨h1, fun i hi => ?_⟩
  exact ⟨H, enc, m, xs[i]'(by omega), by rw [h3 i hi, List.getElem?_eq_getElem (by omega)]⟩
end Go.Proofs.YtkbmipmegljidaaGreat
