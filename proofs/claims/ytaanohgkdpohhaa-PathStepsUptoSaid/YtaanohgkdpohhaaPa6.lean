/- Layer 19, plainly: the way forth, from the first one, by what back has told. No program here beyond plain lists. -/
import Derived.Test.YtaanohgkdpohhaaPa3
namespace Go.Proofs.Ytaanohgkdpohhaa
open Go.RowKit Go.Maps

/-- on the way -/
structure Fw (R : Int → Int → Prop) (fr t : Int) (kf : Nat) (vis : List Int) (at' : Int) (left : Nat) : Prop where
  near : Dist R left at' t
  off : ∀ v ∈ vis, ∃ j, left < j ∧ Dist R j v t
  nd : vis.Nodup
  least : ∀ rest, Least R left at' t (at' :: rest) → Least R kf fr t (vis ++ at' :: rest)
section
variable {R : Int → Int → Prop} {fr t at' x : Int} {kf n : Nat} {vis : List Int}
theorem Fw.start (h : Dist R kf fr t) : Fw R fr t kf [] fr kf := ⟨h, (fun v hv => by cases hv), List.nodup_nil, fun rest hl => hl⟩
theorem Fw.step (h : Fw R fr t kf vis at' (n + 1)) (hx : R at' x) (hd : Dist R n x t) (hmin : ∀ y, R at' y → Dist R n y t → x ≤ y) : Fw R fr t kf (vis ++ [at']) x n := by
  refine ⟨hd, fun v hv => ?_, List.nodup_append.2 ⟨h.nd, by simp, fun a ha b hb e => ?_⟩, fun rest hl => ?_⟩
  · rcases List.mem_append.1 hv with hv | hv
    · obtain ⟨j, hj, h2⟩ := h.off v hv
      exact ⟨j, by omega, h2⟩
    · obtain rfl : v = at' := by simpa using hv
      exact ⟨n + 1, by omega, h.near⟩
  · obtain rfl : b = at' := by simpa using hb
    obtain ⟨j, hj, h2⟩ := h.off a ha
    rw [e] at h2
    have := h2.uniq h.near
    omega
  · have := h.least (x :: rest) (Least.greedy h.near hx hmin hl)
    rw [List.append_assoc]
    exact this
theorem Fw.end' (h : Fw R fr t kf vis at' 0) : Least R kf fr t (vis ++ [at']) := by
  have e := (dist_zero at' t).1 h.near
  subst e
  exact h.least [] (Least.zero at')
theorem Fw.here (h : Fw R fr t kf vis at' (n + 1)) : Fw R fr t kf vis at' (n + 1) ∧ ∃ y, R at' y ∧ Dist R n y t := ⟨h, h.near.step⟩
end
def FwM (q : Bq) (fr : Int) (kf c left : Nat) (out : List Int) (at' : Int) (st : Option Nat) : Prop :=
  left + out.length = kf + 1 ∧ (st = none → Sp q.st0 (2 * (q.V.length + q.E.length))) ∧ (st.isSome = true → ∃ vis, out = vis ++ [at'] ∧ Fw (edB q.E q.lab) fr q.t kf vis at' left ∧ payS q.st0 (c + cost q.E true vis) = st)
section
variable {q : Bq} {fr at' x : Int} {kf c left n : Nat} {out : List Int} {st : Option Nat}
theorem FwM.start (hs : st.isSome = true) (hc : payS q.st0 c = st) (hd : Dist (edB q.E q.lab) kf fr q.t) : FwM q fr kf c kf [fr] fr st :=
  ⟨rfl, fun h => by rw [h] at hs; (cases hs), fun _ => ⟨[], rfl, Fw.start hd, by rw [← hc]; rfl⟩⟩
theorem fw_cost {vis : List Int} {left : Nat} (hf : Fw (edB q.E q.lab) fr q.t kf vis at' left) : cost q.E true vis ≤ q.V.length + q.E.length :=
  cost_cb true hf.nd (fun v hv => by
    obtain ⟨j, hj, h2⟩ := hf.off v hv
    obtain ⟨i, rfl⟩ : ∃ i, j = i + 1 := ⟨j - 1, by omega⟩
    obtain ⟨y, ⟨ed, he, e1, _, _⟩, _⟩ := h2.step
    obtain ⟨⟨u, hu, e2⟩, _⟩ := q.ok.ends ed he
    exact ⟨u, hu, e2.trans e1⟩)
theorem fw_pay {vis : List Int} (he : payS q.st0 (c + cost q.E true vis) = st) : payS st (1 + (idsE q.E (sideP true at')).length) = payS q.st0 (c + cost q.E true (vis ++ [at'])) := by
  rw [← he, payS_add, cost_app, cost_one]
  congr 1
  omega
/-- it is spent at a vertex -/
theorem FwM.spent (h : FwM q fr kf c (n + 1) out at' st) (hs : st.isSome = true) (hc : c ≤ q.V.length + q.E.length) (hp : payS st (1 + (idsE q.E (sideP true at')).length) = none) (z : Int) : FwM q fr kf c n (out ++ [z]) z none := by
  obtain ⟨h1, _, h3⟩ := h
  obtain ⟨vis, rfl, hf, he⟩ := h3 hs
  refine ⟨by simp at h1 ⊢; omega, fun _ => ?_, fun h => by cases h⟩
  rw [fw_pay he] at hp
  have hf' : cost q.E true (vis ++ [at']) ≤ q.V.length + q.E.length := by
    refine cost_cb true ?_ ?_
    · refine List.nodup_append.2 ⟨hf.nd, by simp, fun a ha b hb e => ?_⟩
      obtain rfl : b = at' := by simpa using hb
      obtain ⟨j, hj, h2⟩ := hf.off a ha
      rw [e] at h2
      have := h2.uniq hf.near
      omega
    · intro v hv
      have hd : ∃ j, 1 ≤ j ∧ Dist (edB q.E q.lab) j v q.t := by
        rcases List.mem_append.1 hv with hv | hv
        · obtain ⟨j, hj, h2⟩ := hf.off v hv
          exact ⟨j, by omega, h2⟩
        · obtain rfl : v = at' := by simpa using hv
          exact ⟨n + 1, by omega, hf.near⟩
      obtain ⟨j, hj, h2⟩ := hd
      obtain ⟨i, rfl⟩ : ∃ i, j = i + 1 := ⟨j - 1, by omega⟩
      obtain ⟨y, ⟨ed, he, e1, _, _⟩, _⟩ := h2.step
      obtain ⟨⟨u, hu, e2⟩, _⟩ := q.ok.ends ed he
      exact ⟨u, hu, e2.trans e1⟩
  exact Sp.of hp (fun k _ => by omega)
/-- one step forth -/
theorem FwM.next (h : FwM q fr kf c (n + 1) out at' st) (hs : (payS st (1 + (idsE q.E (sideP true at')).length)).isSome = true) (hx : edB q.E q.lab at' x) (hd : Dist (edB q.E q.lab) n x q.t) (hmin : ∀ y, edB q.E q.lab at' y → Dist (edB q.E q.lab) n y q.t → x ≤ y) :
    FwM q fr kf c n (out ++ [x]) x (payS st (1 + (idsE q.E (sideP true at')).length)) := by
  obtain ⟨h1, _, h3⟩ := h
  obtain ⟨vis, rfl, hf, he⟩ := h3 (payS_isSome hs)
  exact ⟨by simp at h1 ⊢; omega, fun h => by rw [h] at hs; (cases hs), fun _ => ⟨vis ++ [at'], rfl, hf.step hx hd hmin, (fw_pay he).symm⟩⟩
end
/-- the least of those next that are so far off, among some that rise -/
theorem first_least {L : List Int} (hi : IncI L) {j : Nat} {x : Int} (hx : L[j]? = some x) {p : Int → Prop} (hno : ∀ i, i < j → ∀ z, L[i]? = some z → ¬ p z) {y : Int} (hy : y ∈ L) (hp : p y) : x ≤ y := by
  obtain ⟨i, hil, hiy⟩ := List.getElem_of_mem hy
  have hiy' : L[i]? = some y := by rw [List.getElem?_eq_getElem hil, hiy]
  rcases Nat.lt_trichotomy i j with h | h | h
  · exact absurd hp (hno i h y hiy')
  · subst h
    rw [hx] at hiy'
    injection hiy' with e
    omega
  · have hjl := (List.getElem?_eq_some_iff.1 hx)
    obtain ⟨hjl, hjx⟩ := hjl
    have := List.pairwise_iff_getElem.1 hi j i hjl hil h
    rw [hjx, hiy] at this
    omega
/-- what Run answers -/
def RunM (V : List Vt) (E : List Eg) (lab : ByteArray) (fr t : Int) (most : Nat) (st0 : Option Nat) (code : Int) (l : List Int) : Prop :=
  (code = 101 ∧ l = [] ∧ ¬ (HasV V fr ∧ HasV V t)) ∨
  (code = 41 ∧ l = [] ∧ Sp st0 (2 + 2 * (V.length + E.length)) ∧ st0.isSome = true) ∨
  (code = 190 ∧ l = [] ∧ HasV V fr ∧ HasV V t ∧ ∀ k, k ≤ most → ¬ Dist (edB E lab) k fr t) ∨
  (code = 0 ∧ HasV V fr ∧ HasV V t ∧ ∃ k, k ≤ most ∧ Dist (edB E lab) k fr t ∧ Least (edB E lab) k fr t l)
end Go.Proofs.Ytaanohgkdpohhaa
