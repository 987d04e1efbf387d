/- What Sound keeps: cells as they are used up; texts by names. Conditions: each lemma's own premises. -/
import Derived.Test.YtkbmipmegljidaaGreatSs2
import Derived.Test.YtkbmipmegljidaaGreatSw10
import Derived.Test.YtkbmipmegljidaaGreatWsGs
namespace Go.Proofs.YtkbmipmegljidaaGreat
open Go.RowKit Go.Maps

theorem own_some {α : Type} {P : Program} {k : RowK P α} {w : World} {B : Nat} {v : Value} {l : List α} (h : k.Own w B v l) (hl : l ≠ []) : ∃ j, v.ownBlock = some j ∧ B ≤ j ∧ j < w.heap.size := by
  rcases h.2 with ⟨_, h'⟩ | ⟨g, cap, cur, rfl, hB, hg, _⟩
  · exact absurd (List.eq_nil_of_length_eq_zero h') hl
  · exact ⟨g, rfl, hB, (Array.getElem?_eq_some_iff.1 hg).1⟩
/-- texts by names: each name's an own row that is not empty, no two in one block -/
structure NmW (w : World) (B nb m cnt : Nat) (g : Lit → Option Value) : Prop where
  map : mapR w Tryz.prog 9 nb m g
  lt : nb < B
  row : ∀ kl v, g kl = some v → ∃ l, kT.Own w B v l ∧ l ≠ [] ∧ l.length ≤ cnt
  apart : ∀ kl kl' v v', kl ≠ kl' → g kl = some v → g kl' = some v' → v.ownBlock ≠ v'.ownBlock
  num : m ≤ cnt
  pos : 0 < cnt → 0 < m
theorem NmW.made0 {w : World} {B nb : Nat} (h : mapR w Tryz.prog 9 nb 0 (fun _ => none)) (hB : nb < B) : NmW w B nb 0 0 (fun _ => none) :=
  ⟨h, hB, (fun _ _ h => by cases h), (fun _ _ _ _ _ h => by cases h), Nat.le_refl _, fun h => h⟩
theorem NmW.same {w w' : World} {B nb m cnt : Nat} {g : Lit → Option Value} (h : NmW w B nb m cnt g) (hb : ∀ i, i < w.heap.size → i = nb ∨ B ≤ i → w'.heap[i]? = w.heap[i]?) : NmW w' B nb m cnt g :=
  ⟨h.map.of_block (hb nb h.map.lt (.inl rfl)), h.lt, fun kl v hv => by
    obtain ⟨l, ho, h1, h2⟩ := h.row kl v hv
    exact ⟨l, ownsRow_of_block ho (fun j hj => hb j (ho.lt j hj).2 (.inr (ho.lt j hj).1)), h1, h2⟩, h.apart, h.num, h.pos⟩
theorem NmW.below {w w' : World} {B nb m cnt : Nat} {g : Lit → Option Value} (h : NmW w B nb m cnt g) (hb : Below w.heap.size w w') : NmW w' B nb m cnt g := h.same fun i hi _ => hb.block i hi
open Classical in
/-- a text is appended to a name's -/
theorem NmW.put {w w2 w3 : World} {B nb m m' cnt : Nat} {g : Lit → Option Value} {kl : Lit} {v v' : Value} {l : List (List UInt8)} {x : List UInt8}
    (h : NmW w B nb m cnt g) (hl : l.length ≤ cnt) (hv : g kl = none → v = .slice none 0 0) (hv2 : ∀ u, g kl = some u → v = u)
    (ho : kT.Own w2 B v' (l ++ [x])) (hg : w.grownBy w2 v.ownBlock) (hat : v'.ownBlock = v.ownBlock ∨ v'.ownBlock = some w.heap.size)
    (hm : mapR w3 Tryz.prog 9 nb m' (upd g kl (.some v'))) (hm' : m' = if (g kl).isSome then m else m + 1) (ht : w2.mapTurned w3 nb) : NmW w3 B nb m' (cnt + 1) (upd g kl (.some v')) := by
  have hlt := h.lt
  have hold : ∀ kl2 u, kl2 ≠ kl → g kl2 = some u → v.ownBlock ≠ u.ownBlock := fun kl2 u hne hu => by
    obtain ⟨l2, o2, n2, _⟩ := h.row kl2 u hu
    obtain ⟨j, hj, _, _⟩ := own_some o2 n2
    cases hk : g kl with
    | none => rw [hv hk, hj]; intro e; cases e
    | some y => rw [hv2 y hk]; exact h.apart kl kl2 y u (Ne.symm hne) hk hu
  have hnew : ∀ kl2 u, kl2 ≠ kl → g kl2 = some u → v'.ownBlock ≠ u.ownBlock := fun kl2 u hne hu => by
    rcases hat with e | e
    · rw [e]; exact hold kl2 u hne hu
    · obtain ⟨l2, o2, n2, _⟩ := h.row kl2 u hu
      obtain ⟨j, hj, _, hj2⟩ := own_some o2 n2
      rw [e, hj]
      intro e2
      injection e2 with e2
      omega
  refine ⟨hm, hlt, fun kl2 u hu => ?_, fun kl2 kl3 u2 u3 hne h2 h3 => ?_, by rw [hm']; have := h.num; split <;> omega, fun _ => by
    rw [hm']
    split
    · rename_i hs
      obtain ⟨y, hy⟩ := Option.isSome_iff_exists.1 hs
      obtain ⟨l2, o2, n2, c2⟩ := h.row kl y hy
      exact h.pos (by cases l2 with | nil => exact absurd rfl n2 | cons a b => simp at c2; omega)
    · omega⟩
  · unfold upd at hu
    by_cases e : kl2 = kl
    · rw [if_pos e] at hu
      injection hu with hu
      subst hu
      refine ⟨l ++ [x], ownsRow_of_block ho (fun j hj => turned_block ht (by have := (ho.lt j hj).1; omega)), by simp, by simp; exact hl⟩
    · rw [if_neg e] at hu
      obtain ⟨l2, o2, n2, c2⟩ := h.row kl2 u hu
      refine ⟨l2, ownsRow_of_block o2 (fun j hj => ?_), n2, by omega⟩
      have hj2 := o2.lt j hj
      rw [turned_block ht (by omega)]
      exact hg.block j hj2.2 (fun e2 => hold kl2 u e hu (by rw [hj, e2]))
  · unfold upd at h2 h3
    by_cases e2 : kl2 = kl
    · have e3 : kl3 ≠ kl := fun e => hne (by rw [e2, e])
      rw [if_pos e2] at h2
      rw [if_neg e3] at h3
      injection h2 with h2
      subst h2
      exact hnew kl3 u3 e3 h3
    · rw [if_neg e2] at h2
      by_cases e3 : kl3 = kl
      · rw [if_pos e3] at h3
        injection h3 with h3
        subst h3
        exact fun e => hnew kl2 u2 e2 h2 e.symm
      · rw [if_neg e3] at h3
        exact h.apart kl2 kl3 u2 u3 hne h2 h3
/-- what a name has -/
theorem NmW.look {w : World} {B nb m cnt : Nat} {g : Lit → Option Value} (h : NmW w B nb m cnt g) {s : ByteArray} (hs : s.size ≤ maxLen) :
    ∃ v l, (∀ u : World, u.heap[nb]? = w.heap[nb]? → (Instr.lookup 87 (.map (some nb)) (.string s) false).run Tryz.prog u = .ok v u) ∧ kT.Own w B v l ∧ l.length ≤ cnt ∧ (g (.string s.data.toList) = none → v = .slice none 0 0) ∧ (∀ u, g (.string s.data.toList) = some u → v = u ∧ l ≠ []) := by
  have hk : keyOf Tryz.prog 9 (.string s) = some (.string s.data.toList) := by
    simp [keyOf, Tryz.underlying9, mapKey]
    exact hs
  have e : ∀ u : World, u.heap[nb]? = w.heap[nb]? → (Instr.lookup 87 (.map (some nb)) (.string s) false).run Tryz.prog u = .ok ((g (.string s.data.toList)).getD (.slice none 0 0)) u := fun u hu =>
    (h.map.of_block hu).look (string_keyed Tryz.underlying9) Tryz.underlying87 (show (zeroValue 88).run Tryz.prog u = .ok (.slice none 0 0) u from Tryz.zeroValue88 u) hk
  cases hg : g (.string s.data.toList) with
  | none =>
    rw [hg] at e
    exact ⟨_, [], e, RowK.Own.nil kT _ _, Nat.zero_le _, fun _ => rfl, fun u hu => by cases hu⟩
  | some y =>
    rw [hg] at e
    obtain ⟨l, ho, h1, h2⟩ := h.row _ y hg
    exact ⟨y, l, e, ho, h2, (fun hn => by cases hn), fun u hu => by injection hu with hu; exact ⟨hu, h1⟩⟩
theorem keyTxt {s : ByteArray} (hs : s.size ≤ maxLen) : keyOf Tryz.prog 9 (.string s) = some (.string s.data.toList) := by
  simp [keyOf, Tryz.underlying9, mapKey]
  exact hs
/-- keys of cells of vertices and of edges only -/
def CIf (f : Lit → Option Value) : Prop := ∀ y : Ky, y.Ok → y.kind ≠ 1 → y.kind ≠ 2 → f y.lit = none
open Classical in
theorem CIf.upd {f : Lit → Option Value} (h : CIf f) {x : Ky} (hx : x.Ok) (hk : x.kind = 1 ∨ x.kind = 2) (o : Option Value) : CIf (upd f x.lit o) := fun y hy h1 h2 => by
  unfold Go.Proofs.YtkbmipmegljidaaGreat.upd
  rw [if_neg (fun e => by have := lit_inj hy hx e; subst this; omega)]
  exact h y hy h1 h2
theorem map_no_cell {w : World} {k : TypeId} {b n : Nat} {f : Lit → Option Value} (h : mapR w Tryz.prog k b n f) (o : Nat) : w.cell? ⟨b, o, none⟩ = none := by
  obtain ⟨D, ⟨es, clock, hb, _⟩, _⟩ := h
  simp [World.cell?, hb]
/-- where Sound stands, since the graph was told: cells and names -/
structure SoJ (wa : World) (cb nb N cnt : Nat) (wr : World) : Prop where
  ex : ∃ n f, mapR wr Tryz.prog 41 cb n f ∧ CIf f ∧ n ≤ N
  nm : ∃ m g, NmW wr wa.heap.size nb m cnt g
  chg : Chg wa wr (fun i => i = cb ∨ i = nb)
theorem SoJ.below {wa wr w' : World} {cb nb N cnt : Nat} (h : SoJ wa cb nb N cnt wr) (hb : Below wr.heap.size wr w') : SoJ wa cb nb N cnt w' := by
  obtain ⟨n, f, h1, h2, h3⟩ := h.ex
  obtain ⟨m, g, h4⟩ := h.nm
  exact ⟨⟨n, f, h1.of_block (hb.block _ h1.lt), h2, h3⟩, ⟨m, g, h4.below hb⟩, h.chg.trans (Chg.of_below hb _) (fun _ _ h => h)⟩
/-- a key of a vertex or an edge is struck -/
theorem SoJ.drop {wa wr w' : World} {cb nb N cnt n n' : Nat} {f : Lit → Option Value} (h : SoJ wa cb nb N cnt wr) (hc : cb < nb) (hci : CIf f) (hn : n ≤ N) {x : Ky} (hx : x.Ok) (hk : x.kind = 1 ∨ x.kind = 2)
    (hn' : n' + (if (f x.lit).isSome then 1 else 0) = n) (hm : mapR w' Tryz.prog 41 cb n' (upd f x.lit none)) (ht : wr.mapTurned w' cb) : SoJ wa cb nb N cnt w' := by
  obtain ⟨m, g, h4⟩ := h.nm
  have hlt := h4.lt
  refine ⟨⟨n', _, hm, hci.upd hx hk _, by omega⟩, ⟨m, g, h4.same (fun i _ hi => turned_block ht (by omega))⟩, h.chg.turned ht (fun _ => .inl rfl)⟩
/-- a text is appended to a name's -/
theorem SoJ.put {wa wr w2 w3 : World} {cb nb N cnt m m' : Nat} {g : Lit → Option Value} {kl : Lit} {v v' : Value} {l : List (List UInt8)} {x : List UInt8} (h : SoJ wa cb nb N cnt wr) (hc : cb < nb)
    (hnm : NmW wr wa.heap.size nb m cnt g) (ho0 : kT.Own wr wa.heap.size v l) (hl : l.length ≤ cnt) (hv : g kl = none → v = .slice none 0 0) (hv2 : ∀ u, g kl = some u → v = u)
    (ho : kT.Own w2 wa.heap.size v' (l ++ [x])) (hg : wr.grownBy w2 v.ownBlock) (hat : v'.ownBlock = v.ownBlock ∨ v'.ownBlock = some wr.heap.size)
    (hm : mapR w3 Tryz.prog 9 nb m' (upd g kl (some v'))) (hm' : m' = if (g kl).isSome then m else m + 1) (ht : w2.mapTurned w3 nb) : SoJ wa cb nb N (cnt + 1) w3 := by
  obtain ⟨n, f, h1, h2, h3⟩ := h.ex
  have hlt := hnm.lt
  refine ⟨⟨n, f, h1.of_block ?_, h2, h3⟩, ⟨m', _, hnm.put hl hv hv2 ho hg hat hm hm' ht⟩, ?_⟩
  · rw [turned_block ht (by omega)]
    exact hg.block cb h1.lt (fun e => by have := (ho0.lt cb e.symm).1; omega)
  · exact (h.chg.grown hg (fun j hj hlt2 => absurd (ho0.lt j hj).1 (by omega))).turned ht (fun _ => .inr rfl)
end Go.Proofs.YtkbmipmegljidaaGreat
