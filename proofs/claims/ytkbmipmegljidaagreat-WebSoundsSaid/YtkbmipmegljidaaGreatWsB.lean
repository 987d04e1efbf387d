/- Layer 21, common words: whole numbers, reading calls, worlds that have grown. No condition beyond each lemma's premises. Package letter: letters and names. Conditions: each contract's own premises. slices.IndexFunc and slices.ContainsFunc at texts (letter.wrong), numbers (graph.Check's) and values (value.Right's); letter.Right, value.Right. Conditions: each contract's own premises. Printed by gen_wb2.py. Values: value.thing, slices.ContainsFunc at values, value.Right; letter.Right. Conditions: each contract's own premises. Printed by gen_wb2.py. -/
import Derived.Test.YtkbmipmegljidaaGreatWsA
import Derived.Test.YtkbmipmegljidaaGreatProg
import Derived.Test.YtkbmipmegljidaaGreatMem
import Derived.WalkKit
import Derived.WalkSpells
import Derived.WalkLawsBesides
import Derived.StillTailTactics
import Derived.Deep.RegionHeld3
import Derived.Deep.RegionLaw
import Derived.BigRegion
import Derived.BigQuiet
import Derived.BigCall
import Derived.Outline
import Derived.Lib.Hide
import Derived.Lib.Bytealg
import Derived.LoopTactic
import Derived.Laws.RangeAny
namespace Go.Proofs.YtkbmipmegljidaaGreat
open Go.RowKit Go.Maps

/-- a 64 bit int -/
def I64 (x : Int) : Prop := -9223372036854775808 ≤ x ∧ x ≤ 9223372036854775807
theorem I64.wf {x : Int} (h : I64 x) : (Lit.int .i64 x).wf = true := WalkArith.wf_i64 h
theorem I64.of_wf {x : Int} (h : (Lit.int .i64 x).wf = true) : I64 x := by
  simp [Lit.wf] at h
  exact ⟨h.1, h.2⟩
theorem ret_int {k : IntKind} {a b : Int} (h : a = b) : Ending.returned (.int k a) = .returned (.int k b) := by rw [h]
theorem ret_bool {a b : Bool} (h : a = b) : Ending.returned (.bool a) = .returned (.bool b) := by rw [h]

/-- a call that only reads -/
def Quiet (P : Program) (f : FuncId) (args : Array Value) (w : World) (v : Value) : Prop := Calls P f args w fun e w' => e = .returned v ∧ ∃ m, w' = w.drewN m
theorem below_then {a b c : World} (h : Below a.heap.size a b) (k : Below b.heap.size b c) : Below a.heap.size a c := h.trans (k.mono h.size)
theorem below_cell {a b : World} (h : Below a.heap.size a b) {n : Nat} (i : Nat) (hn : n < a.heap.size) {v : Value} (hc : a.cell? ⟨n, i, none⟩ = some v) : b.cell? ⟨n, i, none⟩ = some v := (h.cell (p := ⟨n, i, none⟩) hn).trans hc
theorem below_drewN' {B : Nat} {a b : World} (h : Below B a b) (n : Nat) : Below B a (b.drewN n) := ⟨h.os, h.tape, h.output, h.size, h.block⟩
theorem below_iter {B : Nat} {a b : World} (h : Below B a b) (hB : B ≤ b.heap.size) (s : ByteArray) (p : Nat) : Below B a (b.iter s p) := h.alloc hB _
theorem below_box (w : World) (X : Obj) : Below w.heap.size w (w.alloc X) := (Below.refl _ _).alloc (Nat.le_refl _) _
end Go.Proofs.YtkbmipmegljidaaGreat
namespace Go.Proofs.YtkbmipmegljidaaGreat
open Go.RowKit Go.Maps

/-- is a rune a letter? -/
def letterB (r : Int) : Bool := decide (97 ≤ r ∧ r ≤ 122 ∨ 65 ≤ r ∧ r ≤ 90 ∨ r = 95 ∨ 192 ≤ r ∧ r ≤ 591 ∧ r ≠ 215 ∧ r ≠ 247)
theorem letter_ways (r : Int) : r < 65 ∨ 65 ≤ r ∧ r ≤ 90 ∨ 91 ≤ r ∧ r < 95 ∨ r = 95 ∨ r = 96 ∨ 97 ≤ r ∧ r ≤ 122 ∨ 123 ≤ r ∧ r < 192 ∨ 192 ≤ r ∧ r < 215 ∨ r = 215 ∨ 216 ≤ r ∧ r < 247 ∨ r = 247 ∨ 248 ≤ r ∧ r ≤ 591 ∨ 591 < r := by omega
set_option maxHeartbeats 2000000 in
theorem letter_any (r : Int) (w : World) : Calls Tryz.prog 116 #[.int .i32 r] w fun e w' => e = .returned (.bool (letterB r)) ∧ w = w' := by
  rcases letter_ways r with h | h | h | h | h | h | h | h | h | h | h | h | h
  all_goals
    have e1 : (r == 95) = decide (r = 95) := by rw [Bool.eq_iff_iff]; simp
    have e2 : (r != 215) = !decide (r = 215) := by rw [Bool.eq_iff_iff]; simp
    have e3 : (r != 247) = !decide (r = 247) := by rw [Bool.eq_iff_iff]; simp
    first | rw [decide_eq_true (show r = 95 by omega)] at e1 | rw [decide_eq_false (show ¬ r = 95 by omega)] at e1
    first | rw [decide_eq_true (show r = 215 by omega)] at e2 | rw [decide_eq_false (show ¬ r = 215 by omega)] at e2
    first | rw [decide_eq_true (show r = 247 by omega)] at e3 | rw [decide_eq_false (show ¬ r = 247 by omega)] at e3
    simp only [Bool.not_true, Bool.not_false] at e2 e3
    have HL := Lib.hid h
    try (obtain ⟨h1, h2⟩ := h)
    go_enter Tryz.func116, Tryz.ntmps116
    go_wp2
    go_ret
    exact ⟨ret_bool (by have h' := HL.out; unfold letterB; rw [Bool.eq_iff_iff]; simp only [Bool.or_eq_true, decide_eq_true_eq, Bool.false_eq_true, true_iff, false_iff]; first | omega | decide), rfl⟩

/-- the runes of a text from a place on -/
def runesAt (s : ByteArray) : Nat → Nat → List Int
  | 0, _ => []
  | f + 1, p => if p < s.size then ((Utf8.decode s p).1 : Int) :: runesAt s f (p + (Utf8.decode s p).2) else []
def runes (s : ByteArray) : List Int := runesAt s s.size 0
theorem decode_pos (s : ByteArray) (p : Nat) (h : p < s.size) : 1 ≤ (Utf8.decode s p).2 := by
  by_cases ha : (s[p]'h).toNat < 128
  · rw [decode_ascii s p h ha]; exact Nat.le_refl _
  · exact (decode_high s p h (by omega)).2
theorem runesAt_fuel (s : ByteArray) : ∀ (f f' p : Nat), s.size - p ≤ f → s.size - p ≤ f' → runesAt s f p = runesAt s f' p
  | 0, 0, _, _, _ => rfl
  | 0, f' + 1, p, h, _ => by unfold runesAt; rw [if_neg (by omega)]
  | f + 1, 0, p, _, h => by unfold runesAt; rw [if_neg (by omega)]
  | f + 1, f' + 1, p, h, h' => by
    unfold runesAt
    by_cases hp : p < s.size
    · have := decode_pos s p hp
      rw [if_pos hp, if_pos hp, runesAt_fuel s f f' _ (by omega) (by omega)]
    · rw [if_neg hp, if_neg hp]
/-- what is left of a text's runes at a place -/
def runesFrom (s : ByteArray) (p : Nat) : List Int := runesAt s (s.size - p) p
theorem runesFrom_end {s : ByteArray} {p : Nat} (h : ¬ p < s.size) : runesFrom s p = [] := by
  unfold runesFrom
  rw [show s.size - p = 0 by omega]; rfl
theorem runesFrom_step {s : ByteArray} {p : Nat} (h : p < s.size) : runesFrom s p = ((Utf8.decode s p).1 : Int) :: runesFrom s (p + (Utf8.decode s p).2) := by
  have := decode_pos s p h
  unfold runesFrom
  rw [show s.size - p = (s.size - p - 1) + 1 by omega]
  conv => lhs; unfold runesAt
  rw [if_pos h, runesAt_fuel s _ (s.size - (p + (Utf8.decode s p).2)) _ (by omega) (by omega)]
theorem runes_from (s : ByteArray) : runes s = runesFrom s 0 := by unfold runes runesFrom; rw [Nat.sub_zero]
theorem runesFrom_len (s : ByteArray) : ∀ (n p : Nat), s.size - p ≤ n → (runesFrom s p).length ≤ s.size - p
  | 0, p, h => by rw [runesFrom_end (by omega)]; simp
  | n + 1, p, h => by
    by_cases hp : p < s.size
    · have := decode_pos s p hp
      rw [runesFrom_step hp]
      have := runesFrom_len s n (p + (Utf8.decode s p).2) (by omega)
      simp; omega
    · rw [runesFrom_end hp]; simp

/-- a text isn't a name: n of its runes were good, these are left -/
def badFrom : Nat → List Int → Bool
  | n, [] => n == 0 || decide (32 < n)
  | n, r :: t => if (!letterB r && (n == 0 || decide (r < 48) || decide (57 < r))) = true then true else badFrom (n + 1) t

set_option maxHeartbeats 1000000 in
theorem wrong_any (s : ByteArray) (w : World) (hs : s.size ≤ maxLen) : Calls Tryz.prog 87 #[.string s] w fun e w' => e = .returned (.bool (badFrom 0 (runes s))) ∧ Below w.heap.size w w' := by
  unfold maxLen at hs
  have hnx := fun p (h : p < s.size) ty => run_next_any (P := Tryz.prog) w s p ty h
  have hne := fun p (h : ¬ p < s.size) ty => run_next_end (P := Tryz.prog) w s p ty h
  have HNX := Lib.hid hnx
  have HNE := Lib.hid hne
  clear hnx hne
  rw [runes_from]
  go_enter Tryz.func87, Tryz.ntmps87
  go_wp2_with fail
  go_loopw [3] (fun n wr => ∃ k p : Nat, k ≤ p ∧ n = .int .i64 k ∧ Hid (badFrom 0 (runesFrom s 0) = badFrom k (runesFrom s p)) ∧ wr = w.iter s p) (fun _ wr => s.size - wr.iterPos w.heap.size)
  case atStart => exact ⟨0, 0, Nat.le_refl _, rfl, Lib.hid rfl, rfl⟩
  case round =>
    obtain ⟨k, p, hk, rfl, HB, rfl⟩ := hrel
    by_cases hlt : p < s.size
    · have nx := HNX.out p hlt
      have hw1 := decode_pos s p hlt
      have hst := runesFrom_step hlt
      rw [hst] at HB
      clear hst
      obtain ⟨rw_, hrw⟩ : ∃ v, Utf8.decode s p = v := ⟨_, rfl⟩
      rw [hrw] at nx HB hw1
      obtain ⟨r, wd⟩ := rw_
      dsimp only at nx HB hw1
      clear hrw
      have go : ∀ c, (!letterB r && (k == 0 || decide ((r : Int) < 48) || decide (57 < (r : Int)))) = c → badFrom k ((r : Int) :: runesFrom s (p + wd)) = if c = true then true else badFrom (k + 1) (runesFrom s (p + wd)) := fun c hc => by rw [← hc]; rfl
      have GO := Lib.hid go
      clear go
      have fin : ∀ q, Below w.heap.size w (w.iter s q) := fun q => below_iter (Below.refl _ _) (Nat.le_refl _) s q
      have FIN := Lib.hid fin
      clear fin
      cases hl : letterB r
      · by_cases h0 : k = 0
        · subst h0
          have HL := Lib.hid (GO.out true (by simp [hl]))
          go_wp2_with (go_at_call 116; refine (letter_any _ _).mono ?_; rintro e w' ⟨rfl, rfl⟩)
          go_ret
          exact ⟨ret_bool (by rw [HB.out, HL.out]; rfl), FIN.out _⟩
        · have k0 : ((k : Int) == 0) = false := by simpa using h0
          by_cases h1 : r < 48
          · have HL := Lib.hid (GO.out true (by simp [hl]; omega))
            clear h0
            go_wp2_with (go_at_call 116; refine (letter_any _ _).mono ?_; rintro e w' ⟨rfl, rfl⟩)
            go_ret
            exact ⟨ret_bool (by rw [HB.out, HL.out]; rfl), FIN.out _⟩
          · by_cases h2 : 57 < r
            · have HL := Lib.hid (GO.out true (by simp [hl]; omega))
              clear h0
              go_wp2_with (go_at_call 116; refine (letter_any _ _).mono ?_; rintro e w' ⟨rfl, rfl⟩)
              go_ret
              exact ⟨ret_bool (by rw [HB.out, HL.out]; rfl), FIN.out _⟩
            · have HL := Lib.hid (GO.out false (by simp [h0]; omega))
              clear h0
              go_wp2_with (go_at_call 116; refine (letter_any _ _).mono ?_; rintro e w' ⟨rfl, rfl⟩)
              exact ⟨⟨k + 1, p + wd, by omega, by go_num, Lib.hid (by rw [HB.out, HL.out]; rfl), rfl⟩, by simp; omega⟩
      · have HL := Lib.hid (GO.out false (by simp [hl]))
        go_wp2_with (go_at_call 116; refine (letter_any _ _).mono ?_; rintro e w' ⟨rfl, rfl⟩)
        exact ⟨⟨k + 1, p + wd, by omega, by go_num, Lib.hid (by rw [HB.out, HL.out]; rfl), rfl⟩, by simp; omega⟩
    · have ne := HNE.out p hlt
      rw [runesFrom_end hlt] at HB
      have fin : ∀ q, Below w.heap.size w (w.iter s q) := fun q => below_iter (Below.refl _ _) (Nat.le_refl _) s q
      have FIN := Lib.hid fin
      clear fin
      by_cases h0 : k = 0
      · subst h0
        go_wp2_with fail
        go_ret
        exact ⟨ret_bool (by rw [HB.out]; rfl), FIN.out _⟩
      · have k0 : ((k : Int) == 0) = false := by simpa using h0
        go_wp2_with fail
        go_ret
        exact ⟨ret_bool (by rw [HB.out]; unfold badFrom; rw [Bool.eq_iff_iff]; simp; omega), FIN.out _⟩
end Go.Proofs.YtkbmipmegljidaaGreat
namespace Go.Proofs.YtkbmipmegljidaaGreat
open Go.RowKit Go.Maps

/-- a value -/
structure Vl where
  kind : Int
  n : Int
  s : ByteArray
structure Vl.Ok (v : Vl) : Prop where
  kind : I64 v.kind
  n : I64 v.n
  s : v.s.size ≤ maxLen
/-- is an id bad? -/
def idB (n : Int) : Bool := decide (n < 0 ∨ 1099511627776 ≤ n)
theorem check1_any (n : Int) (w : World) : Calls Tryz.prog 47 #[.int .i64 n] w fun e w' => e = .returned (.bool (idB n)) ∧ Below w.heap.size w w' := by
  by_cases h : n < 0
  · go_enter Tryz.func47, Tryz.ntmps47
    go_wp2
    go_ret
    exact ⟨ret_bool (by unfold idB; simp; omega), Below.refl _ _⟩
  · go_enter Tryz.func47, Tryz.ntmps47
    go_wp2
    go_ret
    exact ⟨ret_bool (by unfold idB; rw [Bool.eq_iff_iff]; simp; omega), Below.refl _ _⟩
/-- is a value a number, a text? -/
def Vl.isN (v : Vl) : Bool := decide (v.kind = 1) && v.s.toList.isEmpty
def Vl.isT (v : Vl) : Bool := decide (v.kind = 2) && decide (v.n = 0) && decide (v.s.size ≤ 200)
def Vl.right (v : Vl) : Bool := v.isN || v.isT
def Vl.thing (v : Vl) : Value := if v.isN = true then .iface 3 (.int .i64 v.n) else if v.isT = true then .iface 9 (.string v.s) else .nilIface

/-- isn't a text a name? -/
def badS (s : ByteArray) : Bool := badFrom 0 (runes s)
theorem wrong_bad (s : ByteArray) (w : World) (hs : s.size ≤ maxLen) : Calls Tryz.prog 87 #[.string s] w fun e w' => e = .returned (.bool (badS s)) ∧ Below w.heap.size w w' := wrong_any s w hs
/-- texts in memory, one behind the other -/
structure SsAt (w : World) (b off : Nat) (l : List ByteArray) : Prop where
  ok : ∀ x ∈ l, x.size ≤ maxLen
  cells : ∀ (i : Nat) (x : ByteArray), l[i]? = some x → w.cell? ⟨b, off + i, none⟩ = some (.string x)
  lt : b < w.heap.size
def SsV (w : World) (a : Option Addr) (l : List ByteArray) : Prop := l ≠ [] → ∃ b off, a = some ⟨b, off, none⟩ ∧ SsAt w b off l
theorem SsAt.of_block {w w' : World} {b off : Nat} {l : List ByteArray} (h : SsAt w b off l) (hb : w'.heap[b]? = w.heap[b]?) : SsAt w' b off l :=
  ⟨h.ok, fun i x hx => by
    have e : ∀ j, w'.cell? ⟨b, j, none⟩ = w.cell? ⟨b, j, none⟩ := fun j => World.cell?_of_block (a := ⟨b, j, none⟩) hb
    simp only [e]; exact h.cells i x hx, (Array.getElem?_eq_some_iff.1 (hb.trans (Array.getElem?_eq_getElem h.lt))).1⟩
theorem SsV.below {w w' : World} {a : Option Addr} {l : List ByteArray} (h : SsV w a l) (hb : Below w.heap.size w w') : SsV w' a l := fun e => by
  obtain ⟨b, off, h1, h2⟩ := h e
  exact ⟨b, off, h1, h2.of_block (hb.block _ h2.lt)⟩
def SsPost (w : World) (l : List ByteArray) (e : Ending) (w' : World) : Prop := ∃ r : Int, e = .returned (.int .i64 r) ∧ (r = -1 ∧ l.any badS = false ∨ 0 ≤ r ∧ l.any badS = true) ∧ Below w.heap.size w w'
set_option maxHeartbeats 400000 in
theorem idxSs_any (a : Option Addr) (cap : Nat) (l : List ByteArray) (w : World) (h : SsV w a l) (hl : l.length ≤ 100000) :
    Calls Tryz.prog 115 #[.slice a l.length cap, .func (Fn.func 87) #[] #[]] w (SsPost w l) := by
  go_enter Tryz.func115, Tryz.ntmps115
  go_wp2_with fail
  go_loopw [8] (fun i wr => ∃ j : Nat, j ≤ l.length ∧ i = .int .i64 j ∧ Hid ((l.take j).any badS = false) ∧ Below w.heap.size w wr) (fun i _ => l.length - (intOf i).toNat)
  case atStart => exact ⟨0, Nat.zero_le _, rfl, Lib.hid rfl, Below.refl _ _⟩
  case round =>
    obtain ⟨j, hj, rfl, HN, hbel⟩ := hrel
    by_cases hlt : j < l.length
    · obtain ⟨x, hx⟩ : ∃ x, l[j]? = some x := ⟨_, List.getElem?_eq_getElem hlt⟩
      obtain ⟨b, off, rfl, hat⟩ := (h.below hbel) (fun e => by rw [e] at hlt; simp at hlt)
      have hc := hat.cells j x hx
      have hok := hat.ok x (List.mem_of_getElem? hx)
      have hlb := hat.lt
      have HX := Lib.hid hx
      have HOK := Lib.hid hok
      have tk : Hid ((l.take (j + 1)).any badS = badS x) := Lib.hid (by rw [List.take_succ_eq_append_getElem hlt, List.any_append, HN.out]; obtain ⟨_, e⟩ := List.getElem?_eq_some_iff.1 hx; rw [e]; simp)
      clear hx hat hok h
      obtain q0 := hc
      obtain ⟨pv, hpv⟩ : ∃ pv, badS x = pv := ⟨_, rfl⟩
      have HP := Lib.hid hpv
      rw [hpv] at tk
      clear hpv
      have hany : Hid (pv = true → l.any badS = true) := Lib.hid (fun e => List.any_eq_true.2 ⟨x, List.mem_of_getElem? HX.out, HP.out.trans e⟩)
      cases pv
      · go_wp2_with (go_at_call 87; refine (wrong_bad _ _ HOK.out).mono ?_; rintro e w1 ⟨rfl, hb1⟩; rw [HP.out])
        exact ⟨⟨j + 1, by omega, by go_num, tk, below_then hbel hb1⟩, by simp [intOf]; omega⟩
      · go_wp2_with (go_at_call 87; refine (wrong_bad _ _ HOK.out).mono ?_; rintro e w1 ⟨rfl, hb1⟩; rw [HP.out])
        go_ret
        exact ⟨_, rfl, .inr ⟨by omega, hany.out (by first | rfl | trivial)⟩, below_then hbel hb1⟩
    · obtain rfl : j = l.length := by omega
      go_wp2_with fail
      go_ret
      exact ⟨_, rfl, .inl ⟨rfl, by rw [← HN.out, List.take_length]⟩, hbel⟩
theorem conSs_any (a : Option Addr) (cap : Nat) (l : List ByteArray) (w : World) (h : SsV w a l) (hl : l.length ≤ 100000) :
    Calls Tryz.prog 86 #[.slice a l.length cap, .func (Fn.func 87) #[] #[]] w fun e w' => e = .returned (.bool (l.any badS)) ∧ Below w.heap.size w w' := by
  go_enter Tryz.func86, Tryz.ntmps86
  go_wp2_with fail
  refine (idxSs_any a cap l _ h hl).mono ?_
  rintro e w1 ⟨r, rfl, hr, hb⟩
  clear h
  rcases hr with ⟨rfl, ha⟩ | ⟨h0, ha⟩
  · have HA := Lib.hid ha
    clear ha
    go_wp2_with fail
    go_ret
    exact ⟨ret_bool HA.out.symm, hb⟩
  · have HA := Lib.hid ha
    clear ha
    go_wp2_with fail
    go_ret
    exact ⟨ret_bool HA.out.symm, hb⟩

/-- numbers in memory, one behind the other -/
structure IsAt (w : World) (b off : Nat) (l : List Int) : Prop where
  ok : ∀ x ∈ l, I64 x
  cells : ∀ (i : Nat) (x : Int), l[i]? = some x → w.cell? ⟨b, off + i, none⟩ = some (.int .i64 x)
  lt : b < w.heap.size
def IsV (w : World) (a : Option Addr) (l : List Int) : Prop := l ≠ [] → ∃ b off, a = some ⟨b, off, none⟩ ∧ IsAt w b off l
theorem IsAt.of_block {w w' : World} {b off : Nat} {l : List Int} (h : IsAt w b off l) (hb : w'.heap[b]? = w.heap[b]?) : IsAt w' b off l :=
  ⟨h.ok, fun i x hx => by
    have e : ∀ j, w'.cell? ⟨b, j, none⟩ = w.cell? ⟨b, j, none⟩ := fun j => World.cell?_of_block (a := ⟨b, j, none⟩) hb
    simp only [e]; exact h.cells i x hx, (Array.getElem?_eq_some_iff.1 (hb.trans (Array.getElem?_eq_getElem h.lt))).1⟩
theorem IsV.below {w w' : World} {a : Option Addr} {l : List Int} (h : IsV w a l) (hb : Below w.heap.size w w') : IsV w' a l := fun e => by
  obtain ⟨b, off, h1, h2⟩ := h e
  exact ⟨b, off, h1, h2.of_block (hb.block _ h2.lt)⟩
def IsPost (w : World) (l : List Int) (e : Ending) (w' : World) : Prop := ∃ r : Int, e = .returned (.int .i64 r) ∧ (r = -1 ∧ l.any idB = false ∨ 0 ≤ r ∧ l.any idB = true) ∧ Below w.heap.size w w'
set_option maxHeartbeats 400000 in
theorem idxIs_any (a : Option Addr) (cap : Nat) (l : List Int) (w : World) (h : IsV w a l) (hl : l.length ≤ 100000) :
    Calls Tryz.prog 85 #[.slice a l.length cap, .func (Fn.func 47) #[] #[]] w (IsPost w l) := by
  go_enter Tryz.func85, Tryz.ntmps85
  go_wp2_with fail
  go_loopw [8] (fun i wr => ∃ j : Nat, j ≤ l.length ∧ i = .int .i64 j ∧ Hid ((l.take j).any idB = false) ∧ Below w.heap.size w wr) (fun i _ => l.length - (intOf i).toNat)
  case atStart => exact ⟨0, Nat.zero_le _, rfl, Lib.hid rfl, Below.refl _ _⟩
  case round =>
    obtain ⟨j, hj, rfl, HN, hbel⟩ := hrel
    by_cases hlt : j < l.length
    · obtain ⟨x, hx⟩ : ∃ x, l[j]? = some x := ⟨_, List.getElem?_eq_getElem hlt⟩
      obtain ⟨b, off, rfl, hat⟩ := (h.below hbel) (fun e => by rw [e] at hlt; simp at hlt)
      have hc := hat.cells j x hx
      have hok := hat.ok x (List.mem_of_getElem? hx)
      have hlb := hat.lt
      have HX := Lib.hid hx
      have HOK := Lib.hid hok
      have tk : Hid ((l.take (j + 1)).any idB = idB x) := Lib.hid (by rw [List.take_succ_eq_append_getElem hlt, List.any_append, HN.out]; obtain ⟨_, e⟩ := List.getElem?_eq_some_iff.1 hx; rw [e]; simp)
      clear hx hat hok h
      obtain q0 := hc
      obtain ⟨pv, hpv⟩ : ∃ pv, idB x = pv := ⟨_, rfl⟩
      have HP := Lib.hid hpv
      rw [hpv] at tk
      clear hpv
      have hany : Hid (pv = true → l.any idB = true) := Lib.hid (fun e => List.any_eq_true.2 ⟨x, List.mem_of_getElem? HX.out, HP.out.trans e⟩)
      cases pv
      · go_wp2_with (go_at_call 47; refine (check1_any _ _).mono ?_; rintro e w1 ⟨rfl, hb1⟩; rw [HP.out])
        exact ⟨⟨j + 1, by omega, by go_num, tk, below_then hbel hb1⟩, by simp [intOf]; omega⟩
      · go_wp2_with (go_at_call 47; refine (check1_any _ _).mono ?_; rintro e w1 ⟨rfl, hb1⟩; rw [HP.out])
        go_ret
        exact ⟨_, rfl, .inr ⟨by omega, hany.out (by first | rfl | trivial)⟩, below_then hbel hb1⟩
    · obtain rfl : j = l.length := by omega
      go_wp2_with fail
      go_ret
      exact ⟨_, rfl, .inl ⟨rfl, by rw [← HN.out, List.take_length]⟩, hbel⟩
theorem conIs_any (a : Option Addr) (cap : Nat) (l : List Int) (w : World) (h : IsV w a l) (hl : l.length ≤ 100000) :
    Calls Tryz.prog 46 #[.slice a l.length cap, .func (Fn.func 47) #[] #[]] w fun e w' => e = .returned (.bool (l.any idB)) ∧ Below w.heap.size w w' := by
  go_enter Tryz.func46, Tryz.ntmps46
  go_wp2_with fail
  refine (idxIs_any a cap l _ h hl).mono ?_
  rintro e w1 ⟨r, rfl, hr, hb⟩
  clear h
  rcases hr with ⟨rfl, ha⟩ | ⟨h0, ha⟩
  · have HA := Lib.hid ha
    clear ha
    go_wp2_with fail
    go_ret
    exact ⟨ret_bool HA.out.symm, hb⟩
  · have HA := Lib.hid ha
    clear ha
    go_wp2_with fail
    go_ret
    exact ⟨ret_bool HA.out.symm, hb⟩
end Go.Proofs.YtkbmipmegljidaaGreat
namespace Go.Proofs.YtkbmipmegljidaaGreat
open Go.RowKit Go.Maps

set_option maxHeartbeats 1000000 in
theorem thing_any (v : Vl) (w : World) (h : v.Ok) : Calls Tryz.prog 82 #[.agg #[.int .i64 v.kind, .int .i64 v.n, .string v.s]] w fun e w' => e = .returned v.thing ∧ Below w.heap.size w w' := by
  have hs := h.s
  unfold maxLen at hs
  have fin := Lib.hid (fun X => below_box w X)
  unfold Vl.thing Vl.isN Vl.isT
  by_cases k1 : v.kind = 1
  · have n1 : (v.kind == 1) = true := by simpa using k1
    have n2 : (v.kind == 2) = false := by simp; omega
    rw [decide_eq_true k1, decide_eq_false (show ¬ v.kind = 2 by omega)]
    clear k1
    cases he : v.s.toList.isEmpty
    · have he2 : (v.s.toList == []) = false := by simpa using he
      go_enter Tryz.func82, Tryz.ntmps82
      go_wp2
      go_ret
      exact ⟨rfl, fin.out _⟩
    · have he2 : (v.s.toList == []) = true := by simpa using he
      go_enter Tryz.func82, Tryz.ntmps82
      go_wp2
      go_ret
      exact ⟨rfl, fin.out _⟩
  · have n1 : (v.kind == 1) = false := by simpa using k1
    rw [decide_eq_false k1]
    clear k1
    by_cases k2 : v.kind = 2
    · have n2 : (v.kind == 2) = true := by simpa using k2
      rw [decide_eq_true k2]
      clear k2
      by_cases k3 : v.n = 0
      · have n3 : (v.n == 0) = true := by simpa using k3
        rw [decide_eq_true k3]
        clear k3
        by_cases k4 : v.s.size ≤ 200
        · rw [decide_eq_true k4]
          go_enter Tryz.func82, Tryz.ntmps82
          go_wp2
          go_ret
          exact ⟨rfl, fin.out _⟩
        · rw [decide_eq_false k4]
          go_enter Tryz.func82, Tryz.ntmps82
          go_wp2
          go_ret
          exact ⟨rfl, fin.out _⟩
      · have n3 : (v.n == 0) = false := by simpa using k3
        rw [decide_eq_false k3]
        clear k3
        go_enter Tryz.func82, Tryz.ntmps82
        go_wp2
        go_ret
        exact ⟨rfl, fin.out _⟩
    · have n2 : (v.kind == 2) = false := by simpa using k2
      rw [decide_eq_false k2]
      clear k2
      go_enter Tryz.func82, Tryz.ntmps82
      go_wp2
      go_ret
      exact ⟨rfl, fin.out _⟩
theorem vright1_any (v : Vl) (w : World) (h : v.Ok) : Calls Tryz.prog 118 #[.agg #[.int .i64 v.kind, .int .i64 v.n, .string v.s]] w fun e w' => e = .returned (.bool (!v.right)) ∧ Below w.heap.size w w' := by
  have fin := Lib.hid (fun X w1 (hb : Below (w.alloc X).heap.size (w.alloc X) w1) => below_then (below_box w X) hb)
  unfold Vl.right
  have ht : v.thing = v.thing := rfl
  cases h1 : v.isN
  · cases h2 : v.isT
    · have HT : Hid (v.thing = .nilIface) := Lib.hid (by unfold Vl.thing; rw [h1, h2]; rfl)
      clear h1 h2 ht
      go_enter Tryz.func118, Tryz.ntmps118
      go_wp2_with (go_at_call 82; refine (thing_any v _ h).mono ?_; rintro e w1 ⟨rfl, hb⟩; rw [HT.out])
      go_ret
      exact ⟨rfl, fin.out _ _ hb⟩
    · have HT : Hid (v.thing = .iface 9 (.string v.s)) := Lib.hid (by unfold Vl.thing; rw [h1, h2]; rfl)
      clear h1 h2 ht
      go_enter Tryz.func118, Tryz.ntmps118
      go_wp2_with (go_at_call 82; refine (thing_any v _ h).mono ?_; rintro e w1 ⟨rfl, hb⟩; rw [HT.out])
      go_ret
      exact ⟨rfl, fin.out _ _ hb⟩
  · have HT : Hid (v.thing = .iface 3 (.int .i64 v.n)) := Lib.hid (by unfold Vl.thing; rw [h1]; rfl)
    clear h1 ht
    go_enter Tryz.func118, Tryz.ntmps118
    go_wp2_with (go_at_call 82; refine (thing_any v _ h).mono ?_; rintro e w1 ⟨rfl, hb⟩; rw [HT.out])
    go_ret
    exact ⟨rfl, fin.out _ _ hb⟩
def wrongV (v : Vl) : Bool := !v.right
theorem vright1_bad (v : Vl) (w : World) (h : v.Ok) : Calls Tryz.prog 118 #[.agg #[.int .i64 v.kind, .int .i64 v.n, .string v.s]] w fun e w' => e = .returned (.bool (wrongV v)) ∧ Below w.heap.size w w' := vright1_any v w h

/-- values in memory, one behind the other -/
structure VsAt (w : World) (b off : Nat) (l : List Vl) : Prop where
  ok : ∀ x ∈ l, x.Ok
  cells : ∀ (i : Nat) (x : Vl), l[i]? = some x → w.cell? ⟨b, off + i * 3, none⟩ = some (.int .i64 x.kind) ∧ w.cell? ⟨b, off + i * 3 + 1, none⟩ = some (.int .i64 x.n) ∧ w.cell? ⟨b, off + i * 3 + 2, none⟩ = some (.string x.s)
  lt : b < w.heap.size
def VsV (w : World) (a : Option Addr) (l : List Vl) : Prop := l ≠ [] → ∃ b off, a = some ⟨b, off, none⟩ ∧ VsAt w b off l
theorem VsAt.of_block {w w' : World} {b off : Nat} {l : List Vl} (h : VsAt w b off l) (hb : w'.heap[b]? = w.heap[b]?) : VsAt w' b off l :=
  ⟨h.ok, fun i x hx => by
    have e : ∀ j, w'.cell? ⟨b, j, none⟩ = w.cell? ⟨b, j, none⟩ := fun j => World.cell?_of_block (a := ⟨b, j, none⟩) hb
    simp only [e]; exact h.cells i x hx, (Array.getElem?_eq_some_iff.1 (hb.trans (Array.getElem?_eq_getElem h.lt))).1⟩
theorem VsV.below {w w' : World} {a : Option Addr} {l : List Vl} (h : VsV w a l) (hb : Below w.heap.size w w') : VsV w' a l := fun e => by
  obtain ⟨b, off, h1, h2⟩ := h e
  exact ⟨b, off, h1, h2.of_block (hb.block _ h2.lt)⟩
def VsPost (w : World) (l : List Vl) (e : Ending) (w' : World) : Prop := ∃ r : Int, e = .returned (.int .i64 r) ∧ (r = -1 ∧ l.any wrongV = false ∨ 0 ≤ r ∧ l.any wrongV = true) ∧ Below w.heap.size w w'
set_option maxHeartbeats 400000 in
theorem idxVs_any (a : Option Addr) (cap : Nat) (l : List Vl) (w : World) (h : VsV w a l) (hl : l.length ≤ 100000) :
    Calls Tryz.prog 154 #[.slice a l.length cap, .func (Fn.func 118) #[] #[]] w (VsPost w l) := by
  go_enter Tryz.func154, Tryz.ntmps154
  go_wp2_with fail
  go_loopw [8] (fun i wr => ∃ j : Nat, j ≤ l.length ∧ i = .int .i64 j ∧ Hid ((l.take j).any wrongV = false) ∧ Below w.heap.size w wr) (fun i _ => l.length - (intOf i).toNat)
  case atStart => exact ⟨0, Nat.zero_le _, rfl, Lib.hid rfl, Below.refl _ _⟩
  case round =>
    obtain ⟨j, hj, rfl, HN, hbel⟩ := hrel
    by_cases hlt : j < l.length
    · obtain ⟨x, hx⟩ : ∃ x, l[j]? = some x := ⟨_, List.getElem?_eq_getElem hlt⟩
      obtain ⟨b, off, rfl, hat⟩ := (h.below hbel) (fun e => by rw [e] at hlt; simp at hlt)
      have hc := hat.cells j x hx
      have hok := hat.ok x (List.mem_of_getElem? hx)
      have hlb := hat.lt
      have HX := Lib.hid hx
      have HOK := Lib.hid hok
      have tk : Hid ((l.take (j + 1)).any wrongV = wrongV x) := Lib.hid (by rw [List.take_succ_eq_append_getElem hlt, List.any_append, HN.out]; obtain ⟨_, e⟩ := List.getElem?_eq_some_iff.1 hx; rw [e]; simp)
      clear hx hat hok h
      obtain ⟨q0, q1, q2⟩ := hc
      obtain ⟨pv, hpv⟩ : ∃ pv, wrongV x = pv := ⟨_, rfl⟩
      have HP := Lib.hid hpv
      rw [hpv] at tk
      clear hpv
      have hany : Hid (pv = true → l.any wrongV = true) := Lib.hid (fun e => List.any_eq_true.2 ⟨x, List.mem_of_getElem? HX.out, HP.out.trans e⟩)
      cases pv
      · go_wp2_with (go_at_call 118; refine (vright1_bad _ _ HOK.out).mono ?_; rintro e w1 ⟨rfl, hb1⟩; rw [HP.out])
        exact ⟨⟨j + 1, by omega, by go_num, tk, below_then hbel hb1⟩, by simp [intOf]; omega⟩
      · go_wp2_with (go_at_call 118; refine (vright1_bad _ _ HOK.out).mono ?_; rintro e w1 ⟨rfl, hb1⟩; rw [HP.out])
        go_ret
        exact ⟨_, rfl, .inr ⟨by omega, hany.out (by first | rfl | trivial)⟩, below_then hbel hb1⟩
    · obtain rfl : j = l.length := by omega
      go_wp2_with fail
      go_ret
      exact ⟨_, rfl, .inl ⟨rfl, by rw [← HN.out, List.take_length]⟩, hbel⟩
theorem conVs_any (a : Option Addr) (cap : Nat) (l : List Vl) (w : World) (h : VsV w a l) (hl : l.length ≤ 100000) :
    Calls Tryz.prog 117 #[.slice a l.length cap, .func (Fn.func 118) #[] #[]] w fun e w' => e = .returned (.bool (l.any wrongV)) ∧ Below w.heap.size w w' := by
  go_enter Tryz.func117, Tryz.ntmps117
  go_wp2_with fail
  refine (idxVs_any a cap l _ h hl).mono ?_
  rintro e w1 ⟨r, rfl, hr, hb⟩
  clear h
  rcases hr with ⟨rfl, ha⟩ | ⟨h0, ha⟩
  · have HA := Lib.hid ha
    clear ha
    go_wp2_with fail
    go_ret
    exact ⟨ret_bool HA.out.symm, hb⟩
  · have HA := Lib.hid ha
    clear ha
    go_wp2_with fail
    go_ret
    exact ⟨ret_bool HA.out.symm, hb⟩

theorem SsV.one {w : World} {b : Nat} {s : ByteArray} {t : TypeId} {z : Nat × Nat} (hb : w.heap[b]? = some (.cells #[.string s] t z)) (hs : s.size ≤ maxLen) : SsV w (some ⟨b, 0, none⟩) [s] := fun _ =>
  ⟨b, 0, rfl, ⟨by simp [hs], fun i x hx => by
    cases i with
    | zero => simp at hx; subst hx; rw [cell_of_blk hb]; rfl
    | succ i => simp at hx, (Array.getElem?_eq_some_iff.1 hb).1⟩⟩
theorem VsV.one {w : World} {b : Nat} {v : Vl} {t : TypeId} {z : Nat × Nat} (hb : w.heap[b]? = some (.cells #[.int .i64 v.kind, .int .i64 v.n, .string v.s] t z)) (hv : v.Ok) : VsV w (some ⟨b, 0, none⟩) [v] := fun _ =>
  ⟨b, 0, rfl, ⟨by simp [hv], fun i x hx => by
    cases i with
    | zero => simp at hx; subst hx; exact ⟨by rw [cell_of_blk hb]; rfl, by rw [cell_of_blk hb]; rfl, by rw [cell_of_blk hb]; rfl⟩
    | succ i => simp at hx, (Array.getElem?_eq_some_iff.1 hb).1⟩⟩
/-- letter.Right of one -/
theorem lright_one (b cap : Nat) (s : ByteArray) (t : TypeId) (z : Nat × Nat) (w : World) (hb : w.heap[b]? = some (.cells #[.string s] t z)) (hs : s.size ≤ maxLen) :
    Calls Tryz.prog 48 #[.slice (some ⟨b, 0, none⟩) 1 cap] w fun e w' => e = .returned (.bool (!badS s)) ∧ Below w.heap.size w w' := by
  have hc := conSs_any (some ⟨b, 0, none⟩) cap [s] w (SsV.one hb hs) (by simp)
  simp only [List.any_cons, List.any_nil, Bool.or_false] at hc
  go_enter Tryz.func48, Tryz.ntmps48
  go_wp2_with fail
  refine hc.mono ?_
  rintro e w1 ⟨rfl, hb1⟩
  clear hc
  go_wp2_with fail
  go_ret
  exact ⟨rfl, hb1⟩
/-- value.Right of one -/
theorem vright_one (b cap : Nat) (v : Vl) (t : TypeId) (z : Nat × Nat) (w : World) (hb : w.heap[b]? = some (.cells #[.int .i64 v.kind, .int .i64 v.n, .string v.s] t z)) (hv : v.Ok) :
    Calls Tryz.prog 88 #[.slice (some ⟨b, 0, none⟩) 1 cap] w fun e w' => e = .returned (.bool v.right) ∧ Below w.heap.size w w' := by
  have hc := conVs_any (some ⟨b, 0, none⟩) cap [v] w (VsV.one hb hv) (by simp)
  simp only [List.any_cons, List.any_nil, Bool.or_false] at hc
  go_enter Tryz.func88, Tryz.ntmps88
  go_wp2_with fail
  refine hc.mono ?_
  rintro e w1 ⟨rfl, hb1⟩
  clear hc
  go_wp2_with fail
  go_ret
  exact ⟨ret_bool (by unfold wrongV; simp), hb1⟩
end Go.Proofs.YtkbmipmegljidaaGreat
