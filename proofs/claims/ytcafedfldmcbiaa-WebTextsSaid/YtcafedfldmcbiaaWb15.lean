/- cobwebref03.Same of lists of properties. Conditions: the contract's own premises. -/
import Derived.Test.YtcafedfldmcbiaaWb14
namespace Go.Proofs.Ytcafedfldmcbiaa
open Go.RowKit Go.Maps

theorem Pr.ext4 {p q : Pr} (h1 : p.key = q.key) (h2 : p.v.kind = q.v.kind) (h3 : p.v.n = q.v.n) (h4 : p.v.s = q.v.s) : p = q := by
  cases p with | mk k v => cases q with | mk k' v' => cases v; cases v'; simp only at h1 h2 h3 h4; subst h1 h2 h3 h4; rfl
def Pr.eqB (a b : Pr) : Bool := a.key.toList == b.key.toList && (a.v.kind == b.v.kind && (a.v.n == b.v.n && a.v.s.toList == b.v.s.toList))
theorem ba_eq {a b : ByteArray} (h : (a.toList == b.toList) = true) : a = b := by
  rw [ByteArray.ext_iff]
  simpa [ByteArray.toList_eq] using h
theorem ba_ne {a b : ByteArray} (h : a ≠ b) : (a.toList == b.toList) = false := by
  cases e : (a.toList == b.toList)
  · rfl
  · exact absurd (ba_eq e) h
theorem Pr.eqB_false {a b : Pr} (h : a ≠ b) : a.eqB b = false := by
  cases e : a.eqB b
  · rfl
  · unfold Pr.eqB at e
    rw [Bool.and_eq_true, Bool.and_eq_true, Bool.and_eq_true] at e
    exact absurd (Pr.ext4 (ba_eq e.1) (by simpa using e.2.1) (by simpa using e.2.2.1) (ba_eq e.2.2.2)) h
theorem nePr (a b : Pr) (w : World) : (binOp .neq 79 (.agg #[.string a.key, .int .i64 a.v.kind, .int .i64 a.v.n, .string a.v.s]) (.agg #[.string b.key, .int .i64 b.v.kind, .int .i64 b.v.n, .string b.v.s])).run Try.prog w = .ok (.bool (!a.eqB b)) w := by
  unfold Pr.eqB
  cases h1 : (a.key.toList == b.key.toList) <;> cases h2 : (a.v.kind == b.v.kind) <;> cases h3 : (a.v.n == b.v.n) <;> cases h4 : (a.v.s.toList == b.v.s.toList) <;> go_simp
open Classical in
/-- are lists the same? -/
noncomputable def sameP (a b : List Pr) : Bool := decide (a = b)
open Classical in
theorem sameP_no {a b : List Pr} (h : a ≠ b) : sameP a b = false := decide_eq_false h
open Classical in
theorem sameP_yes {a b : List Pr} (h : a = b) : sameP a b = true := decide_eq_true h
theorem ne_at {a b : List Pr} {i : Nat} {p q : Pr} (ha : a[i]? = some p) (hb : b[i]? = some q) (h : p ≠ q) : a ≠ b := fun e => by
  subst e
  exact h (Option.some.inj (ha.symm.trans hb))
set_option maxHeartbeats 1000000 in
theorem same3_any (a b : Option Addr) (ca cb : Nat) (x y : List Pr) (w : World) (ha : PsV w a x) (hb : PsV w b y) (hx : x.length ≤ 100000) :
    Calls Try.prog 38 #[.slice a x.length ca, .slice b y.length cb] w fun e w' => e = .returned (.bool (sameP x y)) ∧ ∃ n, w' = w.drewN n := by
  by_cases hl : ¬ x.length = y.length
  · have HS := Lib.hid (sameP_no (fun e => hl (by rw [e]) : x ≠ y))
    have hl' : (x.length == y.length) = false := by simpa using hl
    clear hl
    go_enter Try.func38, Try.ntmps38
    go_wp2_with fail
    go_ret
    exact ⟨by rw [HS.out]; rfl, 0, rfl⟩
  replace hl : x.length = y.length := Decidable.not_not.1 hl
  have HA := Lib.hid ha
  have HB := Lib.hid hb
  clear ha hb
  go_enter Try.func38, Try.ntmps38
  rw [← hl]
  have HL := Lib.hid hl
  clear hl
  go_wp2_with fail
  go_loopw [5] (fun i wr => (∃ n, wr = w.drewN n) ∧ ∃ j : Nat, j ≤ x.length ∧ i = .int .i64 j ∧ Hid (x.take j = y.take j)) (fun i _ => x.length - (intOf i).toNat)
  case atStart => exact ⟨⟨0, rfl⟩, 0, by omega, rfl, Lib.hid rfl⟩
  case round =>
    obtain ⟨⟨n, rfl⟩, j, hj, rfl, HT⟩ := hrel
    by_cases hlt : j < x.length
    · have hly : j < y.length := by rw [← HL.out]; exact hlt
      obtain ⟨p, hp⟩ : ∃ p, x[j]? = some p := ⟨_, List.getElem?_eq_getElem hlt⟩
      obtain ⟨q, hq⟩ : ∃ q, y[j]? = some q := ⟨_, List.getElem?_eq_getElem hly⟩
      obtain ⟨b1, o1, rfl, at1⟩ := HA.out (fun e => by rw [e] at hlt; simp at hlt)
      obtain ⟨b2, o2, rfl, at2⟩ := HB.out (fun e => by rw [e] at hly; simp at hly)
      obtain ⟨p0, p1, p2, p3⟩ := at1.cells j p hp
      obtain ⟨q0, q1, q2, q3⟩ := at2.cells j q hq
      have l1 := at1.lt
      have l2 := at2.lt
      have HP := Lib.hid hp
      have HQ := Lib.hid hq
      clear at1 at2 hp hq hly
      by_cases e1 : p = q
      · subst e1
        have HT2 : Hid (x.take (j + 1) = y.take (j + 1)) := Lib.hid (by rw [List.take_add_one, List.take_add_one, HT.out, HP.out, HQ.out])
        go_wp2_with fail
        go_quiet (fail)
        go_wp2_with fail
        exact ⟨⟨⟨_, rfl⟩, j + 1, by omega, by go_num, HT2⟩, by simp [intOf]; omega⟩
      · have HS := Lib.hid (sameP_no (ne_at HP.out HQ.out e1))
        have hE := nePr p q
        rw [Pr.eqB_false e1] at hE
        clear e1
        go_wp2_with fail
        go_quiet (fail)
        go_wp2_with fail
        go_ret
        exact ⟨by rw [HS.out]; rfl, _, World.drewN_drewN _ _ _⟩
    · obtain rfl : j = x.length := by omega
      have HS := Lib.hid (sameP_yes (show x = y by have := HT.out; rw [List.take_length, HL.out, List.take_length] at this; exact this))
      go_wp2_with fail
      go_ret
      exact ⟨by rw [HS.out]; rfl, _, rfl⟩
end Go.Proofs.Ytcafedfldmcbiaa
