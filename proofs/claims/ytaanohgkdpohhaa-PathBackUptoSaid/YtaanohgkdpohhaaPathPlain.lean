/- Layer 19: ways, plainly. No program here. -/
import Derived.Lib.Hide
namespace Go.Proofs.Ytaanohgkdpohhaa

/-- a way of n edges from a to b: its vertices -/
inductive Way (E : Int → Int → Prop) : Nat → Int → Int → List Int → Prop
  | one (a : Int) : Way E 0 a a [a]
  | cons {n : Nat} {a b c : Int} {l : List Int} : E a b → Way E n b c l → Way E (n + 1) a c (a :: l)
variable {E : Int → Int → Prop}
theorem Way.len {n : Nat} {a b : Int} {l : List Int} (h : Way E n a b l) : l.length = n + 1 := by
  induction h with
  | one => rfl
  | cons _ _ ih => simp [ih]
theorem Way.head {n : Nat} {a b : Int} {l : List Int} (h : Way E n a b l) : ∃ m, l = a :: m := by
  cases h with
  | one => exact ⟨[], rfl⟩
  | cons _ _ => exact ⟨_, rfl⟩
theorem Way.snoc {n : Nat} {a b c : Int} {l : List Int} (h : Way E n a b l) (e : E b c) : Way E (n + 1) a c (l ++ [c]) := by
  induction h with
  | one => exact .cons e (.one c)
  | cons e1 _ ih => exact .cons e1 (ih e)
theorem Way.unsnoc {n : Nat} : ∀ {a c : Int} {l : List Int}, Way E (n + 1) a c l → ∃ b m, l = m ++ [c] ∧ Way E n a b m ∧ E b c := by
  induction n with
  | zero =>
    intro a c l h
    cases h with
    | cons e h2 =>
      cases h2
      exact ⟨a, [a], rfl, .one a, e⟩
  | succ n ih =>
    intro a c l h
    cases h with
    | cons e h2 =>
      obtain ⟨b, m, rfl, h3, h4⟩ := ih h2
      exact ⟨b, _ :: m, rfl, .cons e h3, h4⟩
theorem Way.append {n m : Nat} {a b c : Int} {l k : List Int} (h : Way E n a b l) (g : Way E m b c (b :: k)) : Way E (n + m) a c (l ++ k) := by
  induction h with
  | one => rw [Nat.zero_add]; exact g
  | cons e _ ih => rw [Nat.succ_add]; exact .cons e (ih g)
/-- its vertex number i, and the ways to it and from it -/
theorem Way.split {n : Nat} : ∀ {a c : Int} {l : List Int}, Way E n a c l → ∀ i, i ≤ n → ∃ b, l[i]? = some b ∧ Way E i a b (l.take (i + 1)) ∧ Way E (n - i) b c (l.drop i) := by
  induction n with
  | zero =>
    intro a c l h i hi
    obtain rfl : i = 0 := by omega
    cases h
    exact ⟨a, rfl, .one a, .one a⟩
  | succ n ih =>
    intro a c l h i hi
    cases h with
    | cons e h2 =>
      cases i with
      | zero => exact ⟨a, rfl, .one a, .cons e h2⟩
      | succ i =>
        obtain ⟨b, h3, h4, h5⟩ := ih h2 i (by omega)
        refine ⟨b, by simpa using h3, .cons e h4, ?_⟩
        rw [show n + 1 - (i + 1) = n - i by omega]
        exact h5
theorem Way.mono {F : Int → Int → Prop} (hf : ∀ a b, E a b → F a b) {n : Nat} {a b : Int} {l : List Int} (h : Way E n a b l) : Way F n a b l := by
  induction h with
  | one => exact .one _
  | cons e _ ih => exact .cons (hf _ _ e) ih
theorem Way.rev {F : Int → Int → Prop} (hf : ∀ a b, E a b → F b a) {n : Nat} {a b : Int} {l : List Int} (h : Way E n a b l) : Way F n b a l.reverse := by
  induction h with
  | one => exact .one _
  | cons e _ ih =>
    rw [List.reverse_cons]
    exact ih.snoc (hf _ _ e)
/-- less: of two rows of one length -/
def lexLt : List Int → List Int → Bool
  | a :: l, b :: m => if a = b then lexLt l m else decide (a < b)
  | _, _ => false
theorem lexLt_irrefl : ∀ l : List Int, lexLt l l = false
  | [] => rfl
  | a :: l => by unfold lexLt; rw [if_pos rfl]; exact lexLt_irrefl l
theorem lexLt_eq : ∀ {l m : List Int}, l.length = m.length → lexLt l m = false → lexLt m l = false → l = m
  | [], [], _, _, _ => rfl
  | [], _ :: _, h, _, _ => by simp at h
  | _ :: _, [], h, _, _ => by simp at h
  | a :: l, b :: m, h, h1, h2 => by
    unfold lexLt at h1 h2
    by_cases e : a = b
    · subst e
      rw [if_pos rfl] at h1 h2
      rw [lexLt_eq (by simpa using h) h1 h2]
    · rw [if_neg e] at h1
      rw [if_neg (fun x => e x.symm)] at h2
      simp only [decide_eq_false_iff_not] at h1 h2
      omega
theorem lexLt_trans : ∀ {l m k : List Int}, lexLt l m = true → lexLt m k = true → lexLt l k = true
  | [], _, _, h, _ => by simp [lexLt] at h
  | _ :: _, [], _, h, _ => by simp [lexLt] at h
  | _ :: _, _ :: _, [], _, h => by simp [lexLt] at h
  | a :: l, b :: m, c :: k, h1, h2 => by
    unfold lexLt at *
    by_cases e1 : a = b
    · subst e1
      rw [if_pos rfl] at h1
      by_cases e2 : a = c
      · subst e2
        rw [if_pos rfl] at h2
        rw [if_pos rfl]
        exact lexLt_trans h1 h2
      · rw [if_neg e2] at h2 ⊢
        exact h2
    · rw [if_neg e1] at h1
      simp only [decide_eq_true_eq] at h1
      by_cases e2 : b = c
      · subst e2
        rw [if_neg e1]
        exact decide_eq_true h1
      · rw [if_neg e2] at h2
        simp only [decide_eq_true_eq] at h2
        rw [if_neg (by omega)]
        exact decide_eq_true (by omega)
/-- not less, in a row -/
theorem lexGe_trans {l m k : List Int} (hl : l.length = m.length) (h1 : lexLt l m = false) (h2 : lexLt m k = false) (hk : m.length = k.length) : lexLt l k = false := by
  refine Bool.eq_false_iff.2 fun h => ?_
  cases h3 : lexLt m l with
  | true => rw [lexLt_trans h3 h] at h2; cases h2
  | false =>
    obtain rfl := lexLt_eq hl h1 h3
    rw [h] at h2; cases h2
theorem lexLt_snoc : ∀ {l m : List Int} (v : Int), l.length = m.length → lexLt (l ++ [v]) (m ++ [v]) = lexLt l m
  | [], [], v, _ => by simp [lexLt]
  | [], _ :: _, _, h => by simp at h
  | _ :: _, [], _, h => by simp at h
  | a :: l, b :: m, v, h => by
    show lexLt (a :: (l ++ [v])) (b :: (m ++ [v])) = _
    unfold lexLt
    by_cases e : a = b
    · rw [if_pos e, if_pos e]; exact lexLt_snoc v (by simpa using h)
    · rw [if_neg e, if_neg e]
/-- a way of n edges that is the least -/
def Least (E : Int → Int → Prop) (n : Nat) (a b : Int) (l : List Int) : Prop := Way E n a b l ∧ ∀ m, Way E n a b m → lexLt m l = false
theorem Least.uniq {n : Nat} {a b : Int} {l m : List Int} (h : Least E n a b l) (k : Least E n a b m) : l = m :=
  lexLt_eq (by rw [h.1.len, k.1.len]) (k.2 l h.1) (h.2 m k.1)
/-- how far: n edges, and no fewer -/
def Dist (E : Int → Int → Prop) (n : Nat) (a b : Int) : Prop := (∃ l, Way E n a b l) ∧ ∀ k, k < n → ¬ ∃ l, Way E k a b l
theorem Dist.uniq {n m : Nat} {a b : Int} (h : Dist E n a b) (k : Dist E m a b) : n = m := by
  rcases Nat.lt_trichotomy n m with e | e | e
  · exact absurd h.1 (k.2 n e)
  · exact e
  · exact absurd k.1 (h.2 m e)
theorem dist_of_way : ∀ {n : Nat} {a b : Int} {l : List Int}, Way E n a b l → ∃ k, k ≤ n ∧ Dist E k a b := by
  intro n
  induction n using Nat.strongRecOn with
  | ind n ih =>
    intro a b l h
    by_cases hk : ∃ k, k < n ∧ ∃ l, Way E k a b l
    · obtain ⟨k, hk, l, hw⟩ := hk
      obtain ⟨j, hj, hd⟩ := ih k hk hw
      exact ⟨j, by omega, hd⟩
    · exact ⟨n, Nat.le_refl _, ⟨l, h⟩, fun k hlt hw => hk ⟨k, hlt, hw⟩⟩
theorem dist_zero (a b : Int) : Dist E 0 a b ↔ a = b := by
  constructor
  · rintro ⟨⟨l, h⟩, _⟩
    cases h; rfl
  · rintro rfl
    exact ⟨⟨[a], .one a⟩, fun k hk => absurd hk (Nat.not_lt_zero _)⟩
theorem Dist.next {n : Nat} {a y c : Int} (h : Dist E (n + 1) a c) (e : E a y) {l : List Int} (hw : Way E n y c l) : Dist E n y c :=
  ⟨⟨l, hw⟩, fun k hk ⟨m, hm⟩ => h.2 (k + 1) (by omega) ⟨_, .cons e hm⟩⟩
theorem Dist.step {n : Nat} {a c : Int} (h : Dist E (n + 1) a c) : ∃ y, E a y ∧ Dist E n y c := by
  obtain ⟨l, hl⟩ := h.1
  cases hl with
  | cons e h2 => exact ⟨_, e, h.next e h2⟩
theorem Dist.prev {n : Nat} {a c : Int} (h : Dist E (n + 1) a c) : ∃ y, E y c ∧ Dist E n a y := by
  obtain ⟨l, hl⟩ := h.1
  obtain ⟨b, m, rfl, h3, h4⟩ := hl.unsnoc
  exact ⟨b, h4, ⟨m, h3⟩, fun k hk ⟨q, hq⟩ => h.2 (k + 1) (by omega) ⟨_, hq.snoc h4⟩⟩
/-- one vertex more, at the front -/
theorem Dist.more {n : Nat} {x y c : Int} (h : Dist E n y c) (e : E x y) (hno : ∀ d, d ≤ n → ¬ Dist E d x c) : Dist E (n + 1) x c := by
  obtain ⟨l, hl⟩ := h.1
  refine ⟨⟨_, .cons e hl⟩, fun k hk ⟨m, hm⟩ => ?_⟩
  obtain ⟨j, hj, hd⟩ := dist_of_way hm
  exact hno j (by omega) hd
/-- .. at the end -/
theorem Dist.more' {n : Nat} {a y c : Int} (h : Dist E n a y) (e : E y c) (hno : ∀ d, d ≤ n → ¬ Dist E d a c) : Dist E (n + 1) a c := by
  obtain ⟨l, hl⟩ := h.1
  refine ⟨⟨_, hl.snoc e⟩, fun k hk ⟨m, hm⟩ => ?_⟩
  obtain ⟨j, hj, hd⟩ := dist_of_way hm
  exact hno j (by omega) hd
/-- the least of the next ones, and the least way from it -/
theorem Least.greedy {n : Nat} {a x c : Int} {l : List Int} (hd : Dist E (n + 1) a c) (hx : E a x) (hmin : ∀ y, E a y → Dist E n y c → x ≤ y) (hl : Least E n x c l) : Least E (n + 1) a c (a :: l) := by
  refine ⟨.cons hx hl.1, fun m hm => ?_⟩
  cases hm with
  | cons e h2 =>
    rename_i y m'
    have hy := hmin y e (hd.next e h2)
    unfold lexLt
    rw [if_pos rfl]
    by_cases e2 : x = y
    · subst e2; exact hl.2 _ h2
    · obtain ⟨q, rfl⟩ := h2.head
      obtain ⟨p, rfl⟩ := hl.1.head
      unfold lexLt
      rw [if_neg (fun h => e2 h.symm)]
      exact decide_eq_false (by omega)
theorem Least.zero (a : Int) : Least E 0 a a [a] := ⟨.one a, fun m hm => by cases hm; exact lexLt_irrefl _⟩
/-- a beginning of the least shortest way is the least shortest way to its end -/
theorem Dist.pre {n : Nat} {a c : Int} (h : Dist E n a c) {l : List Int} (hl : Way E n a c l) {i : Nat} (hi : i ≤ n) {b : Int} (hb : l[i]? = some b) : Dist E i a b := by
  obtain ⟨b', h1, h2, h3⟩ := hl.split i hi
  rw [hb] at h1
  injection h1 with h1
  subst h1
  refine ⟨⟨_, h2⟩, fun k hk ⟨m, hm⟩ => ?_⟩
  obtain ⟨q, hq⟩ := h3.head
  rw [hq] at h3
  exact h.2 (k + (n - i)) (by omega) ⟨_, hm.append h3⟩
/-- its vertices differ -/
theorem Dist.apart {n : Nat} {a c : Int} (h : Dist E n a c) {l : List Int} (hl : Way E n a c l) {i k : Nat} (hi : i ≤ n) (hk : k < i) : l[k]? ≠ l[i]? := by
  intro e
  obtain ⟨b, h1, _, _⟩ := hl.split i hi
  have d1 := h.pre hl hi h1
  have d2 := h.pre hl (i := k) (by omega) (e.trans h1)
  have := d1.uniq d2
  omega
/-- what the reference's rows say behind n rounds -/
def RowOk (E : Int → Int → Prop) (n : Nat) (a v : Int) (b : List Int) : Prop := (b = [] ∧ ∀ d, d ≤ n → ¬ Dist E d a v) ∨ ∃ d, d ≤ n ∧ Dist E d a v ∧ Least E d a v b
theorem RowOk.len {n : Nat} {a v : Int} {b : List Int} (h : RowOk E n a v b) : (b.length = n + 1 → Dist E n a v ∧ Least E n a v b) := by
  intro hl
  rcases h with ⟨rfl, _⟩ | ⟨d, hd, h1, h2⟩
  · simp at hl
  · have := h2.1.len
    obtain rfl : d = n := by omega
    exact ⟨h1, h2⟩
/-- one candidate more -/
def pick (way w : List Int) : List Int := if way.length = 0 ∨ lexLt w way = true then w else way
def Best (S : List Int → Prop) (r : List Int) : Prop := (r = [] ∧ ∀ w, ¬ S w) ∨ (S r ∧ ∀ w, S w → lexLt w r = false)
theorem Best.pick {S : List Int → Prop} {r w : List Int} {n : Nat} (h : Best S r) (hS : ∀ w, S w → w.length = n + 1) (hw : w.length = n + 1) : Best (fun x => S x ∨ x = w) (pick r w) := by
  unfold Go.Proofs.Ytaanohgkdpohhaa.pick
  rcases h with ⟨rfl, hno⟩ | ⟨hr, hmin⟩
  · rw [if_pos (.inl rfl)]
    refine .inr ⟨.inr rfl, fun x hx => ?_⟩
    rcases hx with hx | rfl
    · exact absurd hx (hno x)
    · exact lexLt_irrefl _
  · have hrl := hS r hr
    by_cases hlt : lexLt w r = true
    · rw [if_pos (.inr hlt)]
      refine .inr ⟨.inr rfl, fun x hx => ?_⟩
      rcases hx with hx | rfl
      · refine Bool.eq_false_iff.2 fun h => ?_
        have := hmin x hx
        rw [lexLt_trans h hlt] at this
        cases this
      · exact lexLt_irrefl _
    · rw [if_neg (fun h => h.elim (fun h => by omega) (fun h => hlt h))]
      refine .inr ⟨.inl hr, fun x hx => ?_⟩
      rcases hx with hx | rfl
      · exact hmin x hx
      · exact Bool.eq_false_iff.2 hlt
/-- the rows behind one round more -/
theorem RowOk.step {n : Nat} {a v : Int} {b r : List Int} (h : RowOk E n a v b) (hall : ∀ u, E u v → Dist E n a u → ∃ bu, Least E n a u bu)
    (hb : b ≠ [] → r = b) (hr : b = [] → Best (fun w => ∃ u bu, E u v ∧ Least E n a u bu ∧ Dist E n a u ∧ w = bu ++ [v]) r) : RowOk E (n + 1) a v r := by
  rcases h with ⟨rfl, hno⟩ | ⟨d, hd, h1, h2⟩
  · rcases hr rfl with ⟨rfl, hn⟩ | ⟨⟨u, bu, e, hl, hdu, rfl⟩, hmin⟩
    · refine .inl ⟨rfl, fun d hd hdist => ?_⟩
      by_cases h3 : d ≤ n
      · exact hno d h3 hdist
      · obtain rfl : d = n + 1 := by omega
        obtain ⟨y, e, hdy⟩ := hdist.prev
        obtain ⟨bu, hl⟩ := hall y e hdy
        exact hn _ ⟨y, bu, e, hl, hdy, rfl⟩
    · have hdv : Dist E (n + 1) a v := hdu.more' e hno
      refine .inr ⟨n + 1, Nat.le_refl _, hdv, hl.1.snoc e, fun m hm => ?_⟩
      obtain ⟨y, q, rfl, hq, ey⟩ := hm.unsnoc
      have hdy : Dist E n a y := ⟨⟨q, hq⟩, fun k hk ⟨z, hz⟩ => by
        obtain ⟨j, hj, hd⟩ := dist_of_way (hz.snoc ey)
        exact hno j (by omega) hd⟩
      obtain ⟨by', hly⟩ := hall y ey hdy
      have h1 := hly.2 q hq
      have h2 := hmin _ ⟨y, by', ey, hly, hdy, rfl⟩
      refine lexGe_trans (m := by' ++ [v]) ?_ ?_ h2 ?_
      · simp [hq.len, hly.1.len]
      · rw [lexLt_snoc v (by rw [hq.len, hly.1.len])]; exact h1
      · simp [hl.1.len, hly.1.len]
  · have hne : b ≠ [] := fun e => by have := h2.1.len; rw [e] at this; simp at this
    rw [hb hne]
    exact .inr ⟨d, by omega, h1, h2⟩
end Go.Proofs.Ytaanohgkdpohhaa
