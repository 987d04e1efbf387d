/- Layer 13: the plain law. No program here beyond plain keys and rows. -/
import Derived.Test.YtcghgnncmnoalaaSx9
namespace Go.Proofs.Ytcghgnncmnoalaa
open Go.RowKit Go.Maps

def Wr.tx (w : Wr) : Tx := ⟨w.val, w.has⟩
/-- the rows of the reference say what the program's maps say -/
structure PX (L : List Rx) (gs : Ky → Option Sn) (gw gm : Ky → Option Tx) : Prop where
  sorted : KySorted (L.map Rx.k)
  ok : ∀ x ∈ L, x.k.Ok
  s : ∀ x ∈ L, gs x.k = some x.s
  w : ∀ x ∈ L, gw x.k = if x.wrote = true then some x.w.tx else none
  m : ∀ x ∈ L, gm x.k = if x.marked = true then some x.m.tx else none
  wk : ∀ x ∈ L, x.wrote = true → x.w.k = x.k
  mkk : ∀ x ∈ L, x.marked = true → x.m.k = x.k
  no : ∀ k : Ky, (∀ x ∈ L, x.k ≠ k) → gs k = none ∧ gw k = none ∧ gm k = none
theorem PX.start : PX [] (fun _ => none) (fun _ => none) (fun _ => none) where
  sorted := List.Pairwise.nil
  ok := fun _ h => by simp at h
  s := fun _ h => by simp at h
  w := fun _ h => by simp at h
  m := fun _ h => by simp at h
  wk := fun _ h => by simp at h
  mkk := fun _ h => by simp at h
  no := fun _ _ => ⟨rfl, rfl, rfl⟩
theorem PX.isSome {L : List Rx} {gs : Ky → Option Sn} {gw gm : Ky → Option Tx} (h : PX L gs gw gm) (k : Ky) : (gs k).isSome = true ↔ ∃ x ∈ L, x.k = k := by
  constructor
  · intro hs
    refine Classical.byContradiction fun hn => ?_
    have := (h.no k (fun x hx e => hn ⟨x, hx, e⟩)).1
    rw [this] at hs
    exact absurd hs (by decide)
  · rintro ⟨x, hx, rfl⟩
    rw [h.s x hx]; rfl
theorem PX.unseen {L : List Rx} {gs : Ky → Option Sn} {gw gm : Ky → Option Tx} (h : PX L gs gw gm) {k : Ky} (hk : ∀ x ∈ L, x.k ≠ k) : (gs k).isSome = false := by
  rw [(h.no k hk).1]; rfl
theorem sorted_unique : ∀ (a b : List Ky), KySorted a → KySorted b → (∀ k, k ∈ a ↔ k ∈ b) → a = b
  | [], [], _, _, _ => rfl
  | [], y :: b, _, _, h => by have := (h y).2 (by simp); simp at this
  | x :: a, [], _, _, h => by have := (h x).1 (by simp); simp at this
  | x :: a, y :: b, ha, hb, h => by
    have ha' := List.pairwise_cons.1 ha
    have hb' := List.pairwise_cons.1 hb
    have e : x = y := by
      refine Classical.byContradiction fun hn => ?_
      have h1 : x ∈ b := by
        rcases List.mem_cons.1 ((h x).1 (by simp)) with e | e
        · exact absurd e hn
        · exact e
      have h2 : y ∈ a := by
        rcases List.mem_cons.1 ((h y).2 (by simp)) with e | e
        · exact absurd e.symm hn
        · exact e
      have h3 := ha'.1 y h2
      have h4 := hb'.1 x h1
      have := Ky.cmp_neg x y
      omega
    subst e
    have hx : x.cmp x = 0 := (Ky.cmp_zero x x).2 rfl
    rw [sorted_unique a b ha'.2 hb'.2 (fun k => by
      constructor
      · intro hk
        rcases List.mem_cons.1 ((h k).1 (by simp [hk])) with e | e
        · subst e; have := ha'.1 k hk; omega
        · exact e
      · intro hk
        rcases List.mem_cons.1 ((h k).2 (by simp [hk])) with e | e
        · subst e; have := hb'.1 k hk; omega
        · exact e)]
theorem Ky.lt_trans {a b c : Ky} (h : a.cmp b < 0) (k : b.cmp c < 0) : a.cmp c < 0 := by
  have h3 := Ky.cmp_trans a b c (by omega) (by omega)
  have h4 : a.cmp c ≠ 0 := fun e => by
    have e := (Ky.cmp_zero a c).1 e
    subst e
    have := Ky.cmp_neg a b
    omega
  omega
/-- a row as it is laid -/
def Rx.of (k : Ky) (v : Sn) : Rx := ⟨k, v, false, false, ⟨⟨0, 0, 0, ByteArray.empty⟩, ByteArray.empty, false⟩, ⟨⟨0, 0, 0, ByteArray.empty⟩, ByteArray.empty, false⟩⟩
def AtX (L : List Rx) (k : Ky) (n : Nat) : Prop := n ≤ L.length ∧ (∀ j x, j < n → L[j]? = some x → x.k.cmp k < 0) ∧ ∀ x, L[n]? = some x → 0 ≤ x.k.cmp k
def insX (L : List Rx) (n : Nat) (r : Rx) : List Rx := L.take n ++ [r] ++ L.drop n
theorem insX_mem {L : List Rx} {n : Nat} {r x : Rx} : x ∈ insX L n r ↔ x = r ∨ x ∈ L := by
  have : x ∈ L ↔ x ∈ L.take n ∨ x ∈ L.drop n := by rw [← List.mem_append, List.take_append_drop]
  rw [this]
  unfold insX
  simp only [List.mem_append, List.mem_singleton]
  constructor
  · rintro ((h | h) | h)
    · exact .inr (.inl h)
    · exact .inl h
    · exact .inr (.inr h)
  · rintro (h | h | h)
    · exact .inl (.inr h)
    · exact .inl (.inl h)
    · exact .inr h
theorem PX.see {L : List Rx} {gs : Ky → Option Sn} {gw gm : Ky → Option Tx} (h : PX L gs gw gm) {k : Ky} (hk : k.Ok) (hno : ∀ x ∈ L, x.k ≠ k) {n : Nat} (ha : AtX L k n) (v : Sn) : PX (insX L n (Rx.of k v)) (updK gs k (some v)) gw gm := by
  obtain ⟨hn, hlt, hge⟩ := ha
  have hgt : ∀ x ∈ L.drop n, k.cmp x.k < 0 := by
    intro x hx
    obtain ⟨i, hi⟩ := List.mem_iff_getElem?.1 hx
    rw [List.getElem?_drop] at hi
    have hl : n < L.length := by
      have := (List.getElem?_eq_some_iff.1 hi).1
      omega
    have h0 := hge L[n] (List.getElem?_eq_getElem hl)
    have hne : L[n].k.cmp k ≠ 0 := fun e => hno L[n] (List.getElem_mem hl) ((Ky.cmp_zero _ _).1 e)
    have hneg := Ky.cmp_neg L[n].k k
    have h1 : k.cmp L[n].k < 0 := by omega
    by_cases h2 : i = 0
    · subst h2
      rw [Nat.add_zero, List.getElem?_eq_getElem hl] at hi
      injection hi with hi
      rw [← hi]; exact h1
    · obtain ⟨hil, hie⟩ := List.getElem?_eq_some_iff.1 hi
      have h3 : (L.map Rx.k).Pairwise (fun a b => a.cmp b < 0) := h.sorted
      rw [List.pairwise_map] at h3
      have := List.pairwise_iff_getElem.1 h3 n (n + i) hl hil (by omega)
      rw [hie] at this
      exact Ky.lt_trans h1 this
  have hlt2 : ∀ x ∈ L.take n, x.k.cmp k < 0 := by
    intro x hx
    obtain ⟨i, hi⟩ := List.mem_iff_getElem?.1 hx
    rw [List.getElem?_take] at hi
    split at hi
    · rename_i hin
      exact hlt i x hin hi
    · cases hi
  have hs : L.Pairwise (fun a b => a.k.cmp b.k < 0) := by
    have h3 : (L.map Rx.k).Pairwise (fun a b => a.cmp b < 0) := h.sorted
    rwa [List.pairwise_map] at h3
  refine ⟨?_, ?_, ?_, ?_, ?_, ?_, ?_, ?_⟩
  · show (List.map Rx.k _).Pairwise _
    rw [List.pairwise_map]
    unfold insX
    rw [List.append_assoc, List.pairwise_append]
    refine ⟨hs.sublist (List.take_sublist _ _), List.pairwise_cons.2 ⟨fun x hx => hgt x hx, hs.sublist (List.drop_sublist _ _)⟩, fun a ha b hb => ?_⟩
    rcases List.mem_cons.1 hb with rfl | hb
    · exact hlt2 a ha
    · exact Ky.lt_trans (hlt2 a ha) (hgt b hb)
  · intro x hx
    rcases insX_mem.1 hx with rfl | hx
    · exact hk
    · exact h.ok x hx
  · intro x hx
    unfold updK
    rcases insX_mem.1 hx with rfl | hx
    · exact if_pos rfl
    · rw [if_neg (hno x hx)]; exact h.s x hx
  · intro x hx
    rcases insX_mem.1 hx with rfl | hx
    · exact (h.no k hno).2.1
    · exact h.w x hx
  · intro x hx
    rcases insX_mem.1 hx with rfl | hx
    · exact (h.no k hno).2.2
    · exact h.m x hx
  · intro x hx hq
    rcases insX_mem.1 hx with rfl | hx
    · exact absurd (show false = true from hq) (by decide)
    · exact h.wk x hx hq
  · intro x hx hq
    rcases insX_mem.1 hx with rfl | hx
    · exact absurd (show false = true from hq) (by decide)
    · exact h.mkk x hx hq
  · intro j hj
    have h1 := h.no j (fun x hx => hj x (insX_mem.2 (.inr hx)))
    have h2 : j ≠ k := fun e => hj (Rx.of k v) (insX_mem.2 (.inl rfl)) e.symm
    unfold updK
    rw [if_neg h2]
    exact h1
open Classical in
noncomputable def setX (k : Ky) (t : Tx) (x : Rx) : Rx := if x.k = k then { x with wrote := true, w := ⟨k, t.val, t.has⟩ } else x
theorem setX_k (k : Ky) (t : Tx) (x : Rx) : (setX k t x).k = x.k := by unfold setX; split <;> rfl
theorem PX.set {L : List Rx} {gs : Ky → Option Sn} {gw gm : Ky → Option Tx} (h : PX L gs gw gm) {k : Ky} (hin : ∃ x ∈ L, x.k = k) (t : Tx) : PX (L.map (setX k t)) gs (updK gw k (some t)) gm := by
  have hmap : (L.map (setX k t)).map Rx.k = L.map Rx.k := by rw [List.map_map]; exact List.map_congr_left (fun x _ => setX_k k t x)
  refine ⟨by rw [hmap]; exact h.sorted, ?_, ?_, ?_, ?_, ?_, ?_, ?_⟩
  · intro y hy
    obtain ⟨x, hx, rfl⟩ := List.mem_map.1 hy
    rw [setX_k]; exact h.ok x hx
  · intro y hy
    obtain ⟨x, hx, rfl⟩ := List.mem_map.1 hy
    rw [setX_k, h.s x hx]
    unfold setX; split <;> rfl
  · intro y hy
    obtain ⟨x, hx, rfl⟩ := List.mem_map.1 hy
    rw [setX_k]
    unfold updK setX
    by_cases e : x.k = k
    · rw [if_pos e, if_pos e]; rfl
    · rw [if_neg e, if_neg e]; exact h.w x hx
  · intro y hy
    obtain ⟨x, hx, rfl⟩ := List.mem_map.1 hy
    rw [setX_k, h.m x hx]
    unfold setX
    by_cases e : x.k = k
    · rw [if_pos e]
    · rw [if_neg e]
  · intro y hy
    obtain ⟨x, hx, rfl⟩ := List.mem_map.1 hy
    rw [setX_k]
    unfold setX
    by_cases e : x.k = k
    · rw [if_pos e]; intro _; exact e.symm
    · rw [if_neg e]; exact h.wk x hx
  · intro y hy
    obtain ⟨x, hx, rfl⟩ := List.mem_map.1 hy
    rw [setX_k]
    unfold setX
    by_cases e : x.k = k
    · rw [if_pos e]; exact h.mkk x hx
    · rw [if_neg e]; exact h.mkk x hx
  · intro j hj
    have h1 := h.no j (fun x hx => by have := hj _ (List.mem_map_of_mem hx); rwa [setX_k] at this)
    obtain ⟨x, hx, hxk⟩ := hin
    have h2 : j ≠ k := fun e => hj _ (List.mem_map_of_mem hx) (by rw [setX_k, hxk, e])
    unfold updK
    rw [if_neg h2]
    exact h1
noncomputable def setXs (t : Tx) : List Ky → List Rx → List Rx
  | [], L => L
  | k :: ks, L => setXs t ks (L.map (setX k t))
noncomputable def updKs (t : Tx) : List Ky → (Ky → Option Tx) → (Ky → Option Tx)
  | [], g => g
  | k :: ks, g => updKs t ks (updK g k (some t))
theorem PX.sets {gs : Ky → Option Sn} {gm : Ky → Option Tx} (t : Tx) : ∀ (ks : List Ky) (L : List Rx) (gw : Ky → Option Tx), PX L gs gw gm → (∀ k ∈ ks, ∃ x ∈ L, x.k = k) → PX (setXs t ks L) gs (updKs t ks gw) gm
  | [], _, _, h, _ => h
  | k :: ks, L, gw, h, hk => by
    refine PX.sets t ks _ _ (h.set (hk k (by simp)) t) (fun j hj => ?_)
    obtain ⟨x, hx, e⟩ := hk j (by simp [hj])
    exact ⟨_, List.mem_map_of_mem hx, by rw [setX_k]; exact e⟩
def markX (x : Rx) : Rx := { x with marked := x.wrote, m := x.w }
def backX (x : Rx) : Rx := { x with wrote := x.marked, w := x.m }
theorem PX.mark {L : List Rx} {gs : Ky → Option Sn} {gw gm : Ky → Option Tx} (h : PX L gs gw gm) : PX (L.map markX) gs gw gw := by
  have hmap : (L.map markX).map Rx.k = L.map Rx.k := by rw [List.map_map]; rfl
  refine ⟨by rw [hmap]; exact h.sorted, ?_, ?_, ?_, ?_, ?_, ?_, ?_⟩
  · intro y hy; obtain ⟨x, hx, rfl⟩ := List.mem_map.1 hy; exact h.ok x hx
  · intro y hy; obtain ⟨x, hx, rfl⟩ := List.mem_map.1 hy; exact h.s x hx
  · intro y hy; obtain ⟨x, hx, rfl⟩ := List.mem_map.1 hy; exact h.w x hx
  · intro y hy; obtain ⟨x, hx, rfl⟩ := List.mem_map.1 hy; exact h.w x hx
  · intro y hy; obtain ⟨x, hx, rfl⟩ := List.mem_map.1 hy; exact h.wk x hx
  · intro y hy; obtain ⟨x, hx, rfl⟩ := List.mem_map.1 hy; exact h.wk x hx
  · intro j hj
    have h1 := h.no j (fun x hx => hj (markX x) (List.mem_map_of_mem (f := markX) hx))
    exact ⟨h1.1, h1.2.1, h1.2.1⟩
theorem PX.back {L : List Rx} {gs : Ky → Option Sn} {gw gm : Ky → Option Tx} (h : PX L gs gw gm) : PX (L.map backX) gs gm gm := by
  have hmap : (L.map backX).map Rx.k = L.map Rx.k := by rw [List.map_map]; rfl
  refine ⟨by rw [hmap]; exact h.sorted, ?_, ?_, ?_, ?_, ?_, ?_, ?_⟩
  · intro y hy; obtain ⟨x, hx, rfl⟩ := List.mem_map.1 hy; exact h.ok x hx
  · intro y hy; obtain ⟨x, hx, rfl⟩ := List.mem_map.1 hy; exact h.s x hx
  · intro y hy; obtain ⟨x, hx, rfl⟩ := List.mem_map.1 hy; exact h.m x hx
  · intro y hy; obtain ⟨x, hx, rfl⟩ := List.mem_map.1 hy; exact h.m x hx
  · intro y hy; obtain ⟨x, hx, rfl⟩ := List.mem_map.1 hy; exact h.mkk x hx
  · intro y hy; obtain ⟨x, hx, rfl⟩ := List.mem_map.1 hy; exact h.mkk x hx
  · intro j hj
    have h1 := h.no j (fun x hx => hj (backX x) (List.mem_map_of_mem (f := backX) hx))
    exact ⟨h1.1, h1.2.2, h1.2.2⟩
/-- what was seen, as a text -/
def snTx (o : Option Sn) : Tx := match o with | none => ⟨⟨#[]⟩, false⟩ | some s => ⟨s.val, s.has⟩
def txD (o : Option Tx) : Tx := match o with | none => ⟨⟨#[]⟩, false⟩ | some t => t
def txB (a b : Tx) : Bool := a.val.toList == b.val.toList && a.has == b.has
theorem txB_iff (a b : Tx) : txB a b = true ↔ a = b := by
  unfold txB
  cases a; cases b
  simp [ByteArray.toList_eq]
  intro _
  rw [ByteArray.ext_iff]
def wrAt (gs : Ky → Option Sn) (gw : Ky → Option Tx) (k : Ky) : List Wr := if txB (snTx (gs k)) (txD (gw k)) = true then [] else [⟨k, (txD (gw k)).val, (txD (gw k)).has⟩]
/-- what Writes gives of keys -/
def wrOut (gs : Ky → Option Sn) (gw : Ky → Option Tx) (ks : List Ky) : List Wr := ks.flatMap (wrAt gs gw)
def outB (x : Rx) : Bool := x.wrote && !txB ⟨x.s.val, x.s.has⟩ x.w.tx
def outAt (x : Rx) : List Wr := if outB x = true then [x.w] else []
def outX (L : List Rx) : List Wr := L.flatMap outAt
theorem KsG.reads {L : List Rx} {gs : Ky → Option Sn} {gw gm : Ky → Option Tx} (h : PX L gs gw gm) {n : Nat} {ks : List Ky} (hk : KsG gs n ks) : ks = L.map Rx.k := by
  obtain ⟨h1, h2, _, h4⟩ := hk
  refine sorted_unique _ _ h1 h.sorted (fun k => ?_)
  constructor
  · intro hm
    obtain ⟨x, hx, e⟩ := (h.isSome k).1 ((h4 k (h2 k hm)).1 hm)
    exact List.mem_map.2 ⟨x, hx, e⟩
  · intro hm
    obtain ⟨x, hx, rfl⟩ := List.mem_map.1 hm
    exact (h4 _ (h.ok x hx)).2 ((h.isSome _).2 ⟨x, hx, rfl⟩)
theorem KsG.wrote {L : List Rx} {gs : Ky → Option Sn} {gw gm : Ky → Option Tx} (h : PX L gs gw gm) {n : Nat} {ks : List Ky} (hk : KsG gw n ks) : ks = (L.filter Rx.wrote).map Rx.k := by
  obtain ⟨h1, h2, _, h4⟩ := hk
  have hs : KySorted ((L.filter Rx.wrote).map Rx.k) := by
    have h3 : (L.map Rx.k).Pairwise (fun a b => a.cmp b < 0) := h.sorted
    exact h3.sublist (List.Sublist.map _ List.filter_sublist)
  refine sorted_unique _ _ h1 hs (fun k => ?_)
  constructor
  · intro hm
    have hw := (h4 k (h2 k hm)).1 hm
    refine Classical.byContradiction fun hn => ?_
    by_cases hx : ∃ x ∈ L, x.k = k
    · obtain ⟨x, hx, rfl⟩ := hx
      rw [h.w x hx] at hw
      by_cases hq : x.wrote = true
      · exact hn (List.mem_map.2 ⟨x, List.mem_filter.2 ⟨hx, hq⟩, rfl⟩)
      · rw [if_neg hq] at hw; exact absurd hw (by decide)
    · rw [(h.no k (fun x hx' e => hx ⟨x, hx', e⟩)).2.1] at hw; exact absurd hw (by decide)
  · intro hm
    obtain ⟨x, hx, rfl⟩ := List.mem_map.1 hm
    obtain ⟨hx, hq⟩ := List.mem_filter.1 hx
    refine (h4 _ (h.ok x hx)).2 ?_
    rw [h.w x hx, if_pos hq]; rfl
theorem wrOut_eq {L : List Rx} {gs : Ky → Option Sn} {gw gm : Ky → Option Tx} (h : PX L gs gw gm) : ∀ M : List Rx, (∀ x ∈ M, x ∈ L) → wrOut gs gw ((M.filter Rx.wrote).map Rx.k) = outX M
  | [], _ => rfl
  | x :: M, hM => by
    have ih := wrOut_eq h M (fun y hy => hM y (by simp [hy]))
    have hx := hM x (by simp)
    have e2 : outX (x :: M) = outAt x ++ outX M := rfl
    rw [e2, ← ih]
    by_cases hq : x.wrote = true
    · rw [List.filter_cons_of_pos hq]
      show wrAt gs gw x.k ++ _ = _
      congr 1
      unfold wrAt outAt outB
      rw [h.s x hx, h.w x hx, if_pos hq, hq, Bool.true_and]
      show (if txB ⟨x.s.val, x.s.has⟩ x.w.tx = true then _ else _) = _
      cases txB ⟨x.s.val, x.s.has⟩ x.w.tx
      · have := h.wk x hx hq
        show [(⟨x.k, x.w.val, x.w.has⟩ : Wr)] = [x.w]
        rw [← this]
      · rfl
    · rw [List.filter_cons_of_neg hq]
      have : outAt x = [] := by unfold outAt outB; simp at hq; rw [hq]; rfl
      rw [this]; rfl
/-- what both write -/
theorem PX.writes {L : List Rx} {gs : Ky → Option Sn} {gw gm : Ky → Option Tx} (h : PX L gs gw gm) {n : Nat} {ks : List Ky} (hk : KsG gw n ks) : wrOut gs gw ks = outX L := by
  rw [KsG.wrote h hk]
  exact wrOut_eq h L (fun _ h => h)
/-- what both have -/
theorem PX.get {L : List Rx} {gs : Ky → Option Sn} {gw gm : Ky → Option Tx} (h : PX L gs gw gm) {x : Rx} (hx : x ∈ L) : (match gw x.k with | some t => t | none => snTx (gs x.k)) = x.tx := by
  unfold Rx.tx
  rw [h.w x hx, h.s x hx]
  by_cases hq : x.wrote = true
  · rw [if_pos hq, if_pos hq]; rfl
  · rw [if_neg hq, if_neg hq]; rfl
end Go.Proofs.Ytcghgnncmnoalaa
