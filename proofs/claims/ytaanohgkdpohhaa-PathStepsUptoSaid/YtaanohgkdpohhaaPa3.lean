/- Layer 19, plainly: what path.back keeps of levels and steps, round by round. No program here beyond plain lists. -/
import Derived.Test.YtaanohgkdpohhaaPa2
namespace Go.Proofs.Ytaanohgkdpohhaa
open Go.RowKit Go.Maps

/-- V holds a vertex -/
def HasV (V : List Vt) (v : Int) : Prop := ∃ u ∈ V, u.id = v
structure Bq where
  V : List Vt
  E : List Eg
  lab : ByteArray
  t : Int
  st0 : Option Nat
  ok : PGo V E
  tin : st0 = none ∨ HasV V t
/-- between rounds -/
def OutM (q : Bq) (row : List Int) (n : Nat) (st : Option Nat) (d : DM) : Prop := 1 ≤ n ∧ row.Nodup ∧ (∀ v ∈ row, v ∈ keysD d) ∧ (st = none → Sp q.st0 (q.V.length + q.E.length)) ∧ (st.isSome = true → ∃ X, payS q.st0 (cost q.E false X) = st ∧ Lvl (edB q.E q.lab) q.t n X row d ∧ ∀ v ∈ X ++ row, HasV q.V v)
/-- between vertices of a round -/
def InM (q : Bq) (X row : List Int) (n k : Nat) (st : Option Nat) (d : DM) (next : List Int) : Prop := 1 ≤ n ∧ next.Nodup ∧ (∀ v ∈ next, v ∈ keysD d) ∧ (st = none → Sp q.st0 (q.V.length + q.E.length)) ∧ (st.isSome = true → payS q.st0 (cost q.E false (X ++ row.take k)) = st ∧ Mid (edB q.E q.lab) q.t n X row next d k ∧ ∀ v ∈ X ++ row ++ next, HasV q.V v)
/-- between those next to one vertex -/
def InI (q : Bq) (X row : List Int) (n k : Nat) (st : Option Nat) (d : DM) (next L : List Int) (j : Nat) : Prop := 1 ≤ n ∧ next.Nodup ∧ (∀ v ∈ next, v ∈ keysD d) ∧ (st = none → Sp q.st0 (q.V.length + q.E.length)) ∧ (st.isSome = true → payS q.st0 (cost q.E false (X ++ row.take (k + 1))) = st ∧ Mid (edB q.E q.lab) q.t n X row next d k ∧ (∀ v ∈ X ++ row ++ next, HasV q.V v) ∧ ∀ v ∈ L.take j, v ∈ keysD d)
section
variable {q : Bq} {X row next L : List Int} {n k j : Nat} {st : Option Nat} {d : DM}
theorem payS_isSome {s : Option Nat} {c : Nat} (h : (payS s c).isSome = true) : s.isSome = true := by
  cases s with
  | none => exact h
  | some k => rfl
theorem Bq.start (q : Bq) : OutM q [q.t] 1 q.st0 [(q.t, 0)] :=
  ⟨Nat.le_refl _, by simp, (fun v hv => by simpa [keysD] using hv), (fun h k hk => by rw [h] at hk; cases hk), fun h => ⟨[], payS_zero _, Lvl.start _ _, fun v hv => by
    rcases q.tin with h2 | h2
    · rw [h2] at h; cases h
    · obtain rfl : v = q.t := by simpa using hv
      exact h2⟩⟩
theorem OutM.open' (h : OutM q row n st d) : ∃ X, InM q X row n 0 st d [] := by
  obtain ⟨h1, _, _, h2, h3⟩ := h
  cases st with
  | none => exact ⟨[], h1, List.nodup_nil, (fun v hv => by cases hv), h2, (fun e => by cases e)⟩
  | some s =>
    obtain ⟨X, a, b, c⟩ := h3 rfl
    exact ⟨X, h1, List.nodup_nil, (fun v hv => by cases hv), h2, fun _ => ⟨by simpa using a, b.mid, by simpa using c⟩⟩
theorem InM.open' {y : Int} (h : InM q X row n k st d next) (hy : row[k]? = some y) :
    InI q X row n k (payS st (1 + (idsE q.E (sideP false y)).length)) d next L 0 := by
  obtain ⟨h1, h0, h00, h2, h3⟩ := h
  have hc : ∀ {s}, payS q.st0 (cost q.E false (X ++ row.take k)) = s → payS s (1 + (idsE q.E (sideP false y)).length) = payS q.st0 (cost q.E false (X ++ row.take (k + 1))) := fun {s} e => by
    rw [← e, payS_add]
    congr 1
    rw [List.take_add_one, hy, Option.toList_some, ← List.append_assoc, cost_app _ _ _ [y], cost_one]
  refine ⟨h1, h0, h00, fun hn => ?_, fun hs => ?_⟩
  · cases hst : st with
    | none => exact h2 hst
    | some s =>
      obtain ⟨a, b, c⟩ := h3 (by rw [hst]; rfl)
      rw [hc a] at hn
      have hsub : (X ++ row.take (k + 1)).Sublist (X ++ row ++ next) := by
        rw [List.append_assoc]
        exact (List.Sublist.refl X).append ((List.take_sublist _ _).trans (List.sublist_append_left _ _))
      exact Sp.of hn (fun k' _ => cost_cb false (hsub.nodup b.nd) (fun v hv => c v (hsub.subset hv)))
  · obtain ⟨a, b, c⟩ := h3 (payS_isSome hs)
    exact ⟨(hc a).symm, b, c, fun v hv => by simp at hv⟩
theorem InI.seen {x : Int} (h : InI q X row n k st d next L j) (hx : L[j]? = some x) (hm : x ∈ keysD d) : InI q X row n k st d next L (j + 1) := by
  obtain ⟨h1, h0, h00, h2, h3⟩ := h
  refine ⟨h1, h0, h00, h2, fun hs => ?_⟩
  obtain ⟨a, b, c, e⟩ := h3 hs
  refine ⟨a, b, c, fun v hv => ?_⟩
  rw [List.take_add_one, hx] at hv
  rcases List.mem_append.1 hv with hv | hv
  · exact e v hv
  · obtain rfl : v = x := by simpa using hv
    exact hm
theorem InI.put {x y : Int} (h : InI q X row n k st d next L j) (hx : L[j]? = some x) (hm : x ∉ keysD d) (hy : row[k]? = some y) (hR : st.isSome = true → edB q.E q.lab x y) : InI q X row n k st (d ++ [(x, n)]) (next ++ [x]) L (j + 1) := by
  obtain ⟨h1, h0, h00, h2, h3⟩ := h
  have hk : keysD (d ++ [(x, n)]) = keysD d ++ [x] := by unfold keysD; rw [List.map_append]; rfl
  refine ⟨h1, List.nodup_append.2 ⟨h0, by simp, fun a ha b hb e => ?_⟩, fun v hv => ?_, h2, fun hs => ?_⟩
  · obtain rfl : b = x := by simpa using hb
    exact hm (e ▸ h00 a ha)
  · rw [hk]
    rcases List.mem_append.1 hv with hv | hv
    · exact List.mem_append.2 (.inl (h00 v hv))
    · exact List.mem_append.2 (.inr hv)
  obtain ⟨a, b, c, e⟩ := h3 hs
  refine ⟨a, b.seen (List.mem_of_getElem? hy) (hR hs) hm, fun v hv => ?_, fun v hv => ?_⟩
  · rw [← List.append_assoc] at hv
    rcases List.mem_append.1 hv with hv | hv
    · exact c v hv
    · obtain rfl : v = x := by simpa using hv
      obtain ⟨ed, he, e1, _, _⟩ := hR hs
      obtain ⟨⟨u, hu, e2⟩, _⟩ := q.ok.ends ed he
      exact ⟨u, hu, e2.trans e1⟩
  · rw [hk]
    rw [List.take_add_one, hx] at hv
    rcases List.mem_append.1 hv with hv | hv
    · exact List.mem_append.2 (.inl (e v hv))
    · exact List.mem_append.2 (.inr hv)
theorem InI.done {y : Int} (h : InI q X row n k st d next L L.length) (hy : row[k]? = some y) (hL : st.isSome = true → L = nextL q.E false q.lab y) : InM q X row n (k + 1) st d next := by
  obtain ⟨h1, h0, h00, h2, h3⟩ := h
  refine ⟨h1, h0, h00, h2, fun hs => ?_⟩
  obtain ⟨a, b, c, e⟩ := h3 hs
  refine ⟨a, b.step hy (fun v hR => e v ?_), c⟩
  rw [List.take_length, hL hs, mem_next q.ok.se]
  exact hR
theorem InM.done (h : InM q X row n row.length st d next) : OutM q next (n + 1) st d := by
  obtain ⟨h1, h0, h00, h2, h3⟩ := h
  refine ⟨by omega, h0, h00, h2, fun hs => ?_⟩
  obtain ⟨a, b, c⟩ := h3 hs
  exact ⟨X ++ row, by simpa using a, b.lvl, c⟩
/-- at the end -/
def BackM (q : Bq) (from' : Int) (most : Nat) (st : Option Nat) (d : DM) : Prop := (st = none → Sp q.st0 (q.V.length + q.E.length)) ∧ (st.isSome = true → ∃ c, payS q.st0 c = st ∧ c ≤ q.V.length + q.E.length ∧ ∃ m, m ≤ most ∧ Whole (edB q.E q.lab) q.t m d ∧ (from' ∉ keysD d → ∀ k, k ≤ most → ¬ Dist (edB q.E q.lab) k from' q.t))
theorem OutM.end' (h : OutM q row n st d) {from' : Int} {most : Nat} (hn : n ≤ most + 1) (hw : n = most + 1 ∨ row = [] ∨ from' ∈ keysD d) : BackM q from' most st d := by
  obtain ⟨h1, _, _, h2, h3⟩ := h
  refine ⟨h2, fun hs => ?_⟩
  obtain ⟨X, a, b, c⟩ := h3 hs
  have hsub : X.Sublist (X ++ row) := List.sublist_append_left _ _
  refine ⟨_, a, cost_cb false (hsub.nodup b.nd) (fun v hv => c v (hsub.subset hv)), n - 1, by omega, b.whole, fun hno k hk hd => ?_⟩
  by_cases hkn : k ≤ n - 1
  · have h5 := (b.whole.all from' k).2 ⟨hkn, hd⟩
    rw [lookD_none.2 hno] at h5
    cases h5
  · rcases hw with hw | hw | hw
    · omega
    · have hg := dist_gap (R := edB q.E q.lab) (t := q.t) (m := n - 1) (fun v hd2 => by have := (b.rowF v).2 hd2; rw [hw] at this; cases this) (k - (n - 1)) from'
      rw [show n - 1 + (k - (n - 1)) = k by omega] at hg
      exact hg hd
    · exact hno hw
end
end Go.Proofs.Ytaanohgkdpohhaa
