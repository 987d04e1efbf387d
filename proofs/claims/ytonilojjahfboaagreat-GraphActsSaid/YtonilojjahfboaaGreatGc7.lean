/- Layer 21: small lists of properties (cobweblaw21.props), as they come in. Conditions: each contract's own premises. -/
import Derived.Test.YtonilojjahfboaaGreatGcA
namespace Go.Proofs.YtonilojjahfboaaGreat
open Go.RowKit Go.Maps

/-- properties as they come in: keys of any size -/
structure PrAt (w : World) (b off : Nat) (l : List Pr) : Prop where
  raw : ∀ p ∈ l, p.key.size ≤ maxLen ∧ p.v.Ok
  cells : ∀ (i : Nat) (p : Pr), l[i]? = some p → w.cell? ⟨b, off + i * 4, none⟩ = some (.string p.key) ∧ w.cell? ⟨b, off + i * 4 + 1, none⟩ = some (.int .i64 p.v.kind) ∧ w.cell? ⟨b, off + i * 4 + 2, none⟩ = some (.int .i64 p.v.n) ∧ w.cell? ⟨b, off + i * 4 + 3, none⟩ = some (.string p.v.s)
  lt : b < w.heap.size
def PrV (w : World) (a : Option Addr) (l : List Pr) : Prop := l ≠ [] → ∃ b off, a = some ⟨b, off, none⟩ ∧ PrAt w b off l
theorem PrAt.of_block {w w' : World} {b off : Nat} {l : List Pr} (h : PrAt w b off l) (hb : w'.heap[b]? = w.heap[b]?) : PrAt w' b off l :=
  ⟨h.raw, fun i x hx => by
    have e : ∀ j, w'.cell? ⟨b, j, none⟩ = w.cell? ⟨b, j, none⟩ := fun j => World.cell?_of_block (a := ⟨b, j, none⟩) hb
    simp only [e]; exact h.cells i x hx, (Array.getElem?_eq_some_iff.1 (hb.trans (Array.getElem?_eq_getElem h.lt))).1⟩
theorem PrV.below {w w' : World} {a : Option Addr} {l : List Pr} (h : PrV w a l) (hb : Below w.heap.size w w') : PrV w' a l := fun e => by
  obtain ⟨b, off, ha, hat⟩ := h e
  exact ⟨b, off, ha, hat.of_block (hb.block b hat.lt)⟩
/-- not too many, not too long -/
def smallP (ps : List Pr) : Bool := decide (ps.length ≤ 30 ∧ ∀ p ∈ ps, p.key.size ≤ 100 ∧ p.v.s.size ≤ 300)
theorem smallP_many {ps : List Pr} (h : 30 < ps.length) : smallP ps = false := decide_eq_false fun e => by omega
theorem smallP_no {ps : List Pr} {i : Nat} {p : Pr} (hp : ps[i]? = some p) (h : 100 < p.key.size ∨ 300 < p.v.s.size) : smallP ps = false := decide_eq_false fun e => by
  have := e.2 p (List.mem_of_getElem? hp)
  omega
theorem smallP_yes {ps : List Pr} (hl : ps.length ≤ 30) (h : ∀ (i : Nat) (p : Pr), ps[i]? = some p → p.key.size ≤ 100 ∧ p.v.s.size ≤ 300) : smallP ps = true := decide_eq_true ⟨hl, fun p hp => by
  obtain ⟨i, hi⟩ := List.getElem?_of_mem hp
  exact h i p hi⟩
theorem PrV.small {w : World} {a : Option Addr} {l : List Pr} (h : PrV w a l) (hs : smallP l = true) : PsV w a l := fun e => by
  obtain ⟨b, off, ha, hat⟩ := h e
  have hd := (of_decide_eq_true hs).2
  exact ⟨b, off, ha, ⟨fun p hp => ⟨by have := (hd p hp).1; omega, (hat.raw p hp).2⟩, hat.cells, hat.lt⟩⟩
set_option maxHeartbeats 1000000 in
theorem props16_any (a : Option Addr) (cap : Nat) (ps : List Pr) (w : World) (h : PrV w a ps) (hm : ps.length ≤ maxLen) :
    Calls Tryz.prog 82 #[.slice a ps.length cap] w fun e w' => e = .returned (.bool (smallP ps)) ∧ w = w' := by
  unfold maxLen at hm
  by_cases h30 : 30 < ps.length
  · have HS := Lib.hid (smallP_many h30)
    go_enter Tryz.func82, Tryz.ntmps82
    go_wp2_with fail
    go_ret
    exact ⟨by rw [HS.out]; rfl, rfl⟩
  have h30' : ps.length ≤ 30 := by omega
  clear h30
  go_enter Tryz.func82, Tryz.ntmps82
  go_wp2_with fail
  go_loopw [3] (fun i wr => wr = w ∧ ∃ j : Nat, j ≤ ps.length ∧ i = .int .i64 j ∧ ∀ (k : Nat) (p : Pr), k < j → ps[k]? = some p → p.key.size ≤ 100 ∧ p.v.s.size ≤ 300) (fun i _ => ps.length - (intOf i).toNat)
  case atStart => exact ⟨rfl, 0, by omega, rfl, fun k p hk => by omega⟩
  case round =>
    obtain ⟨rfl, j, hj, rfl, hall⟩ := hrel
    have HALL := Lib.hid hall
    clear hall
    by_cases hlt : j < ps.length
    · obtain ⟨p, hp⟩ : ∃ p, ps[j]? = some p := ⟨ps[j], List.getElem?_eq_getElem hlt⟩
      obtain ⟨b, off, rfl, hat⟩ := h (fun e => by rw [e] at hlt; simp at hlt)
      obtain ⟨q0, q1, q2, q3⟩ := hat.cells j p hp
      have hr := hat.raw p (List.mem_of_getElem? hp)
      have r1 := hr.1
      have r2 := hr.2.s
      unfold maxLen at r1 r2
      have hlb := hat.lt
      have HP := Lib.hid hp
      clear hat hp hr h
      by_cases k1 : 100 < p.key.size
      · have HS := Lib.hid (smallP_no HP.out (.inl k1))
        go_wp2_with fail
        go_ret
        exact ⟨by rw [HS.out]; rfl, rfl⟩
      · by_cases k2 : 300 < p.v.s.size
        · have HS := Lib.hid (smallP_no HP.out (.inr k2))
          go_wp2_with fail
          go_ret
          exact ⟨by rw [HS.out]; rfl, rfl⟩
        · have HA : Hid (∀ (k : Nat) (p : Pr), k < j + 1 → ps[k]? = some p → p.key.size ≤ 100 ∧ p.v.s.size ≤ 300) := Lib.hid (fun k q hk hq => by
            by_cases e : k = j
            · subst e
              obtain rfl : p = q := Option.some.inj (HP.out.symm.trans hq)
              omega
            · exact HALL.out k q (by omega) hq)
          go_wp2_with fail
          exact ⟨⟨trivial, j + 1, by omega, by go_num, HA.out⟩, by simp [intOf]; omega⟩
    · have HS := Lib.hid (smallP_yes h30' (fun i p hp => HALL.out i p (by have := (List.getElem?_eq_some_iff.1 hp).1; omega) hp))
      go_wp2_with fail
      go_ret
      exact ⟨by rw [HS.out]; rfl, rfl⟩
end Go.Proofs.YtonilojjahfboaaGreat
