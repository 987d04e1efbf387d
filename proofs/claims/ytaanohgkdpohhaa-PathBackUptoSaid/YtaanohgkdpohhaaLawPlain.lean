/- Layer 19, plainly: what the laws PathRuns, PathParts and PathBack ask of a run. No program here beyond plain lists. -/
import Derived.Test.YtaanohgkdpohhaaPb7
import Derived.Test.YtaanohgkdpohhaaRg4
namespace Go.Proofs.Ytaanohgkdpohhaa
open Go.RowKit Go.Maps

/-- an edge turned about -/
def turn (e : Eg) : Eg := ⟨e.id, e.label, e.to, e.fr, e.ps⟩
theorem checkR_swap (l : ByteArray) (ps : List Pr) (a b c : Int) : checkR l ps [a, b, c] = checkR l ps [a, c, b] := by
  unfold checkR
  rw [show [a, b, c].any idB = [a, c, b].any idB by
    simp only [List.any_cons, List.any_nil, Bool.or_false]
    cases idB a <;> cases idB b <;> cases idB c <;> rfl]
theorem findB_turn (E : List Eg) (n : Int) : findB Eg.id (E.map turn) n = (findB Eg.id E n).map turn := by
  unfold findB
  rw [List.find?_map]
  rfl
theorem insB_turn (e : Eg) : ∀ E : List Eg, insB Eg.id (turn e) (E.map turn) = (insB Eg.id e E).map turn
  | [] => rfl
  | y :: t => by
    show (if (turn y).id < (turn e).id then turn y :: insB Eg.id (turn e) (t.map turn) else turn e :: turn y :: t.map turn) = (if y.id < e.id then y :: insB Eg.id e t else e :: y :: t).map turn
    rw [insB_turn e t]
    have h : ((turn y).id < (turn e).id) = (y.id < e.id) := rfl
    simp only [h]
    by_cases c : y.id < e.id
    · simp [if_pos c]
    · simp [if_neg c]
theorem addE_turn (V : List Vt) (E : List Eg) (e : Eg) : (addE V (E.map turn) (turn e)).2 = (addE V E e).2.map turn := by
  unfold addE
  rw [findB_turn, insB_turn]
  rw [show checkR (turn e).label (turn e).ps [(turn e).id, (turn e).fr, (turn e).to] = checkR e.label e.ps [e.id, e.fr, e.to] from checkR_swap _ _ _ _ _]
  rw [show (turn e).id = e.id from rfl, show (turn e).fr = e.to from rfl, show (turn e).to = e.fr from rfl]
  rw [show (Option.map turn (findB Eg.id E e.id)).isSome = (findB Eg.id E e.id).isSome by cases findB Eg.id E e.id <;> rfl]
  by_cases c1 : checkR e.label e.ps [e.id, e.fr, e.to] = 0
  · rw [if_pos c1, if_pos c1]
    by_cases c2 : (findB Eg.id E e.id).isSome = true
    · rw [if_pos c2, if_pos c2]
    · rw [if_neg c2, if_neg c2]
      rw [show ((findB Vt.id V e.to).isNone || (findB Vt.id V e.fr).isNone) = ((findB Vt.id V e.fr).isNone || (findB Vt.id V e.to).isNone) from Bool.or_comm _ _]
      by_cases c3 : ((findB Vt.id V e.fr).isNone || (findB Vt.id V e.to).isNone) = true
      · rw [if_pos c3, if_pos c3]
      · rw [if_neg c3, if_neg c3]
  · rw [if_neg c1, if_neg c1]
theorem adE_turn (V : List Vt) : ∀ l E : List Eg, adE V (E.map turn) (l.map turn) = (adE V E l).map turn
  | [], _ => rfl
  | e :: l, E => by
    show adE V (addE V (E.map turn) (turn e)).2 (l.map turn) = (adE V (addE V E e).2 l).map turn
    rw [addE_turn]
    exact adE_turn V l _
theorem edB_turn {E : List Eg} {lab : ByteArray} {a b : Int} (h : edB E lab a b) : edB (E.map turn) lab b a := by
  obtain ⟨e, he, h1, h2, h3⟩ := h
  exact ⟨turn e, List.mem_map.2 ⟨e, he, rfl⟩, h2, h1, h3⟩
theorem edB_turn' {E : List Eg} {lab : ByteArray} {a b : Int} (h : edB (E.map turn) lab a b) : edB E lab b a := by
  obtain ⟨e, he, h1, h2, h3⟩ := h
  obtain ⟨e', he', rfl⟩ := List.mem_map.1 he
  exact ⟨e', he', h2, h1, h3⟩
theorem dist_turn {E : List Eg} {lab : ByteArray} {n : Nat} {a b : Int} (h : Dist (edB E lab) n a b) : Dist (edB (E.map turn) lab) n b a := by
  obtain ⟨⟨l, hl⟩, h2⟩ := h
  exact ⟨⟨_, hl.rev (fun _ _ => edB_turn)⟩, fun k hk ⟨m, hm⟩ => h2 k hk ⟨_, hm.rev (fun _ _ => edB_turn')⟩⟩
theorem dist_turn' {E : List Eg} {lab : ByteArray} {n : Nat} {a b : Int} (h : Dist (edB (E.map turn) lab) n a b) : Dist (edB E lab) n b a := by
  obtain ⟨⟨l, hl⟩, h2⟩ := h
  exact ⟨⟨_, hl.rev (fun _ _ => edB_turn')⟩, fun k hk ⟨m, hm⟩ => h2 k hk ⟨_, hm.rev (fun _ _ => edB_turn)⟩⟩
theorem mem_addE {V : List Vt} {E : List Eg} {x e : Eg} (h : e ∈ E) : e ∈ (addE V E x).2 := by
  unfold addE
  split
  · split
    · exact h
    · split
      · exact h
      · exact mem_insB.2 (.inr h)
  · exact h
theorem edB_more {V : List Vt} {E : List Eg} {x : Eg} {lab : ByteArray} {a b : Int} (h : edB E lab a b) : edB (addE V E x).2 lab a b := by
  obtain ⟨e, he, h1⟩ := h
  exact ⟨e, mem_addE he, h1⟩
/-- there and back; one edge more -/
theorem back_law {V : List Vt} {E : List Eg} {a : PA} {x : Eg} {e f o : Int} {l m n : List Int} (hV : V.length ≤ 20) (hE : E.length ≤ 60)
    (h1 : RnM V E a (some 1048576) e l) (h2 : RnM V (E.map turn) ⟨a.t, a.fr, a.lab, a.most⟩ (some 1048576) f m) (h3 : RnM V (addE V E x).2 a (some 1048576) o n) :
    e = f ∧ l.length = m.length ∧ (e = 0 → o = 0 ∧ n.length ≤ l.length) := by
  have hx := addE_len V E x
  have g1 := h1.rich (by omega)
  have g2 := h2.rich (by rw [List.length_map]; omega)
  have g3 := h3.rich (by omega)
  rcases g1 with ⟨b, rfl, rfl⟩ | ⟨nb, g1⟩
  · rcases g2 with ⟨_, rfl, rfl⟩ | ⟨nb, _⟩
    · exact ⟨rfl, rfl, fun h => absurd h (by decide)⟩
    · exact absurd b nb
  · rcases g2 with ⟨b, _⟩ | ⟨_, g2⟩
    · exact absurd b nb
    rcases g1 with ⟨rfl, rfl, c1⟩ | ⟨rfl, rfl, c1, c2, c3⟩ | ⟨rfl, c1, c2, j, c3, c4, c5⟩
    · rcases g2 with ⟨rfl, rfl, _⟩ | ⟨_, _, d1, d2, _⟩ | ⟨_, d1, d2, _⟩
      · exact ⟨rfl, rfl, fun h => absurd h (by decide)⟩
      · exact absurd ⟨d2, d1⟩ c1
      · exact absurd ⟨d2, d1⟩ c1
    · rcases g2 with ⟨_, _, d1⟩ | ⟨rfl, rfl, _⟩ | ⟨_, _, _, j, d1, d2, _⟩
      · exact absurd ⟨c2, c1⟩ d1
      · exact ⟨rfl, rfl, fun h => absurd h (by decide)⟩
      · exact absurd (dist_turn' d2) (c3 j d1)
    · rcases g2 with ⟨_, _, d1⟩ | ⟨_, _, _, _, d1⟩ | ⟨rfl, _, _, i, _, d2, d3⟩
      · exact absurd ⟨c2, c1⟩ d1
      · exact absurd (dist_turn c4) (d1 j c3)
      · obtain rfl := (dist_turn' d2).uniq c4
        refine ⟨rfl, by rw [c5.1.len, d3.1.len], fun _ => ?_⟩
        obtain ⟨k, hk, dk⟩ := dist_of_way (c5.1.mono (fun _ _ => edB_more (V := V) (x := x)))
        rcases g3 with ⟨b, _⟩ | ⟨_, g3⟩
        · exact absurd b nb
        rcases g3 with ⟨_, _, d1⟩ | ⟨_, _, _, _, d1⟩ | ⟨rfl, _, _, i', _, d4, d5⟩
        · exact absurd ⟨c1, c2⟩ d1
        · exact absurd dk (d1 k (Nat.le_trans hk c3))
        · refine ⟨rfl, ?_⟩
          obtain rfl := d4.uniq dk
          rw [d5.1.len, c5.1.len]
          omega
/-- which way it is -/
theorem runs_law {V : List Vt} {E : List Eg} {a : PA} {n : Nat} {e : Int} {l w : List Int} (hn : 2 + 2 * (V.length + E.length) ≤ n) (h : RnM V E a (some n) e l) :
    (badA a → e = 2 ∧ l = []) ∧ (¬ badA a → (¬ (HasV V a.fr ∧ HasV V a.t) → e = 101 ∧ l = []) ∧ (HasV V a.fr ∧ HasV V a.t → RowOk (edB E a.lab) a.most.toNat a.fr a.t w → (w = [] → e = 190 ∧ l = []) ∧ (w ≠ [] → e = 0 ∧ l = w))) := by
  rcases h.rich hn with ⟨b, rfl, rfl⟩ | ⟨nb, g⟩
  · exact ⟨fun _ => ⟨rfl, rfl⟩, fun h => absurd b h⟩
  · refine ⟨fun h => absurd h nb, fun _ => ?_⟩
    rcases g with ⟨rfl, rfl, c1⟩ | ⟨rfl, rfl, c1, c2, c3⟩ | ⟨rfl, c1, c2, j, c3, c4, c5⟩
    · exact ⟨fun _ => ⟨rfl, rfl⟩, fun h => absurd h c1⟩
    · refine ⟨fun h => absurd ⟨c1, c2⟩ h, fun _ hr => ⟨fun _ => ⟨rfl, rfl⟩, fun hw => ?_⟩⟩
      rcases hr with ⟨rfl, _⟩ | ⟨d, h1, h2, _⟩
      · exact absurd rfl hw
      · exact absurd h2 (c3 d h1)
    · refine ⟨fun h => absurd ⟨c1, c2⟩ h, fun _ hr => ⟨fun hw => ?_, fun hw => ⟨rfl, ?_⟩⟩⟩
      · rcases hr with ⟨_, h1⟩ | ⟨d, h1, h2, h3⟩
        · exact absurd c4 (h1 j c3)
        · have := h3.1.len
          rw [hw] at this
          simp at this
      · rcases hr with ⟨h1, _⟩ | ⟨d, h1, h2, h3⟩
        · exact absurd h1 hw
        · obtain rfl := h2.uniq c4
          exact c5.uniq h3
/-- each beginning of a way -/
theorem parts_law {V : List Vt} {E : List Eg} {a : PA} {l : List Int} (hV : V.length ≤ 20) (hE : E.length ≤ 60) (ok : PGo V E) (h : RnM V E a (some 1048576) 0 l) :
    0 < l.length ∧ l.length ≤ 65 ∧ (l.length : Int) ≤ a.most + 1 ∧ l[0]? = some a.fr ∧ l[l.length - 1]? = some a.t ∧
    (∀ i k : Nat, k < i → i < l.length → l[k]? ≠ l[i]?) ∧
    (∀ (i : Nat) (b : Int), l[i]? = some b → HasV V b ∧ ∀ f m, RnM V E ⟨a.fr, b, a.lab, 64⟩ (some 1048576) f m → f = 0 ∧ m.length = i + 1) ∧
    (∀ (i : Nat) (b c : Int), l[i]? = some b → l[i + 1]? = some c → ∀ w, RowOk (edB E a.lab) 1 b c w → w.length = 2) ∧
    (∀ f m, RnM V E ⟨a.fr, a.t, a.lab, (l.length : Int) - 2⟩ (some 1048576) f m → (l.length = 1 → f = 2) ∧ (l.length ≠ 1 → f = 190)) := by
  rcases h.rich (by omega) with ⟨_, h1, _⟩ | ⟨nb, g⟩
  · cases h1
  rcases g with ⟨h1, _⟩ | ⟨h1, _⟩ | ⟨_, c1, c2, n, c3, c4, c5⟩
  · cases h1
  · cases h1
  have hlen := c5.1.len
  have nb' := nb
  unfold badA at nb'
  have hap : ∀ i k : Nat, k < i → i < l.length → l[k]? ≠ l[i]? := fun i k hk hi => c4.apart c5.1 (by omega) hk
  have hdi : ∀ (i : Nat) (b : Int), l[i]? = some b → Dist (edB E a.lab) i a.fr b := fun i b hb => c4.pre c5.1 (by have := (List.getElem?_eq_some_iff.1 hb).1; omega) hb
  have h0 : l[0]? = some a.fr := by
    obtain ⟨m, rfl⟩ := c5.1.head
    rfl
  have hz : l[n]? = some a.t := by
    cases n with
    | zero =>
      rw [h0, (dist_zero _ _).1 c4]
    | succ n =>
      obtain ⟨b, m, rfl, hw, _⟩ := c5.1.unsnoc
      have := hw.len
      rw [List.getElem?_append_right (by omega), this]
      simp
  have hed : ∀ (i : Nat) (b c : Int), l[i]? = some b → l[i + 1]? = some c → edB E a.lab b c := by
    intro i b c hb hc
    have hi := (List.getElem?_eq_some_iff.1 hc).1
    obtain ⟨b', g1, _, g3⟩ := c5.1.split i (by omega)
    rw [hb] at g1
    injection g1 with g1
    subst g1
    have hw : ∃ m, n - i = m + 1 := ⟨n - i - 1, by omega⟩
    obtain ⟨m, hm⟩ := hw
    rw [hm] at g3
    have h1 : (l.drop i)[1]? = some c := by rw [List.getElem?_drop, hc]
    generalize l.drop i = k at g3 h1
    cases g3 with
    | cons e1 e2 =>
      obtain ⟨t, rfl⟩ := e2.head
      simp at h1
      rw [← h1]
      exact e1
  refine ⟨by omega, by omega, by omega, h0, by rw [show l.length - 1 = n by omega]; exact hz, fun i k hk hi => hap i k hk hi, ?_, ?_, ?_⟩
  · intro i b hb
    have hi := (List.getElem?_eq_some_iff.1 hb).1
    have hv : HasV V b := by
      cases i with
      | zero =>
        rw [h0] at hb
        injection hb with hb
        rw [← hb]
        exact c1
      | succ i =>
        obtain ⟨c, hc⟩ : ∃ c, l[i]? = some c := ⟨_, List.getElem?_eq_getElem (by omega)⟩
        obtain ⟨e, he, _, h2, _⟩ := hed i c b hc hb
        obtain ⟨_, u, hu, e2⟩ := ok.ends e he
        exact ⟨u, hu, e2.trans h2⟩
    refine ⟨hv, fun f m hr => ?_⟩
    rcases hr.rich (by omega) with ⟨b, _⟩ | ⟨_, g⟩
    · exact absurd b (fun hb => by
        rcases hb with hb | hb | hb
        · exact nb (.inl hb)
        · exact absurd hb (show ¬ ((64 : Int) < 0) by decide)
        · exact absurd hb (show ¬ ((64 : Int) < 64) by decide))
    · rcases g with ⟨_, _, h1⟩ | ⟨_, _, _, _, h1⟩ | ⟨rfl, _, _, k, h1, h2, h3⟩
      · exact absurd ⟨c1, hv⟩ h1
      · exact absurd (hdi i b hb) (h1 i (by show i ≤ 64; omega))
      · obtain rfl := h2.uniq (hdi i b hb)
        exact ⟨rfl, h3.1.len⟩
  · intro i b c hb hc w hw
    have he := hed i b c hb hc
    have hne : b ≠ c := fun e => hap (i + 1) i (by omega) (List.getElem?_eq_some_iff.1 hc).1 (by rw [hb, hc, e])
    have hd : Dist (edB E a.lab) 1 b c := ⟨⟨[b, c], .cons he (.one c)⟩, fun k hk ⟨m, hm⟩ => by
      obtain rfl : k = 0 := by omega
      cases hm
      exact hne rfl⟩
    rcases hw with ⟨_, h1⟩ | ⟨d, h1, h2, h3⟩
    · exact absurd hd (h1 1 (Nat.le_refl _))
    · obtain rfl := h2.uniq hd
      exact h3.1.len
  · intro f m hr
    rcases hr.rich (by omega) with ⟨b, rfl, _⟩ | ⟨nb2, g⟩
    · exact ⟨fun _ => rfl, fun h => absurd b (fun hb => by
        rcases hb with hb | hb | hb
        · exact nb (.inl hb)
        · have hb2 : (l.length : Int) - 2 < 0 := hb
          omega
        · have hb2 : 64 < (l.length : Int) - 2 := hb
          omega)⟩
    · have h2 : l.length ≠ 1 := fun e => nb2 (.inr (.inl (show (l.length : Int) - 2 < 0 by omega)))
      refine ⟨fun h => absurd h h2, fun _ => ?_⟩
      rcases g with ⟨_, _, h1⟩ | ⟨rfl, _⟩ | ⟨_, _, _, k, h1, h3, _⟩
      · exact absurd ⟨c1, c2⟩ h1
      · rfl
      · exfalso
        obtain rfl := h3.uniq c4
        simp only at h1
        omega
end Go.Proofs.Ytaanohgkdpohhaa
