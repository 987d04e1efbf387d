/- slices.IndexFunc and slices.ContainsFunc at texts (letter.wrong), numbers (graph.Check's) and values (value.Right's); letter.Right, value.Right. Conditions: each contract's own premises. Printed by gen_wb2.py. -/
import Derived.Test.YtonilojjahfboaaGreatWb1
namespace Go.Proofs.YtonilojjahfboaaGreat
open Go.RowKit Go.Maps

/-- a value -/
structure Vl where
  kind : Int
  n : Int
  s : ByteArray
structure Vl.Ok (v : Vl) : Prop where
  kind : I64 v.kind
  n : I64 v.n
  s : v.s.size ≤ maxLen
/-- is an id bad? -/
def idB (n : Int) : Bool := decide (n < 0 ∨ 1099511627776 ≤ n)
theorem check1_any (n : Int) (w : World) : Calls Tryz.prog 243 #[.int .i64 n] w fun e w' => e = .returned (.bool (idB n)) ∧ Below w.heap.size w w' := by
  by_cases h : n < 0
  · go_enter Tryz.func243, Tryz.ntmps243
    go_wp2
    go_ret
    exact ⟨ret_bool (by unfold idB; simp; omega), Below.refl _ _⟩
  · go_enter Tryz.func243, Tryz.ntmps243
    go_wp2
    go_ret
    exact ⟨ret_bool (by unfold idB; rw [Bool.eq_iff_iff]; simp; omega), Below.refl _ _⟩
/-- is a value a number, a text? -/
def Vl.isN (v : Vl) : Bool := decide (v.kind = 1) && v.s.toList.isEmpty
def Vl.isT (v : Vl) : Bool := decide (v.kind = 2) && decide (v.n = 0) && decide (v.s.size ≤ 200)
def Vl.right (v : Vl) : Bool := v.isN || v.isT
def Vl.thing (v : Vl) : Value := if v.isN = true then .iface 3 (.int .i64 v.n) else if v.isT = true then .iface 9 (.string v.s) else .nilIface

/-- isn't a text a name? -/
def badS (s : ByteArray) : Bool := badFrom 0 (runes s)
theorem wrong_bad (s : ByteArray) (w : World) (hs : s.size ≤ maxLen) : Calls Tryz.prog 228 #[.string s] w fun e w' => e = .returned (.bool (badS s)) ∧ Below w.heap.size w w' := wrong_any s w hs
/-- texts in memory, one behind the other -/
structure SsAt (w : World) (b off : Nat) (l : List ByteArray) : Prop where
  ok : ∀ x ∈ l, x.size ≤ maxLen
  cells : ∀ (i : Nat) (x : ByteArray), l[i]? = some x → w.cell? ⟨b, off + i, none⟩ = some (.string x)
  lt : b < w.heap.size
def SsV (w : World) (a : Option Addr) (l : List ByteArray) : Prop := l ≠ [] → ∃ b off, a = some ⟨b, off, none⟩ ∧ SsAt w b off l
theorem SsAt.of_block {w w' : World} {b off : Nat} {l : List ByteArray} (h : SsAt w b off l) (hb : w'.heap[b]? = w.heap[b]?) : SsAt w' b off l :=
  ⟨h.ok, fun i x hx => by
    have e : ∀ j, w'.cell? ⟨b, j, none⟩ = w.cell? ⟨b, j, none⟩ := fun j => World.cell?_of_block (a := ⟨b, j, none⟩) hb
    simp only [e]; exact h.cells i x hx, (Array.getElem?_eq_some_iff.1 (hb.trans (Array.getElem?_eq_getElem h.lt))).1⟩
theorem SsV.below {w w' : World} {a : Option Addr} {l : List ByteArray} (h : SsV w a l) (hb : Below w.heap.size w w') : SsV w' a l := fun e => by
  obtain ⟨b, off, h1, h2⟩ := h e
  exact ⟨b, off, h1, h2.of_block (hb.block _ h2.lt)⟩
def SsPost (w : World) (l : List ByteArray) (e : Ending) (w' : World) : Prop := ∃ r : Int, e = .returned (.int .i64 r) ∧ (r = -1 ∧ l.any badS = false ∨ 0 ≤ r ∧ l.any badS = true) ∧ Below w.heap.size w w'
set_option maxHeartbeats 400000 in
theorem idxSs_any (a : Option Addr) (cap : Nat) (l : List ByteArray) (w : World) (h : SsV w a l) (hl : l.length ≤ 100000) :
    Calls Tryz.prog 313 #[.slice a l.length cap, .func (Fn.func 228) #[] #[]] w (SsPost w l) := by
  go_enter Tryz.func313, Tryz.ntmps313
  go_wp2_with fail
  go_loopw [8] (fun i wr => ∃ j : Nat, j ≤ l.length ∧ i = .int .i64 j ∧ Hid ((l.take j).any badS = false) ∧ Below w.heap.size w wr) (fun i _ => l.length - (intOf i).toNat)
  case atStart => exact ⟨0, Nat.zero_le _, rfl, Lib.hid rfl, Below.refl _ _⟩
  case round =>
    obtain ⟨j, hj, rfl, HN, hbel⟩ := hrel
    by_cases hlt : j < l.length
    · obtain ⟨x, hx⟩ : ∃ x, l[j]? = some x := ⟨_, List.getElem?_eq_getElem hlt⟩
      obtain ⟨b, off, rfl, hat⟩ := (h.below hbel) (fun e => by rw [e] at hlt; simp at hlt)
      have hc := hat.cells j x hx
      have hok := hat.ok x (List.mem_of_getElem? hx)
      have hlb := hat.lt
      have HX := Lib.hid hx
      have HOK := Lib.hid hok
      have tk : Hid ((l.take (j + 1)).any badS = badS x) := Lib.hid (by rw [List.take_succ_eq_append_getElem hlt, List.any_append, HN.out]; obtain ⟨_, e⟩ := List.getElem?_eq_some_iff.1 hx; rw [e]; simp)
      clear hx hat hok h
      obtain q0 := hc
      obtain ⟨pv, hpv⟩ : ∃ pv, badS x = pv := ⟨_, rfl⟩
      have HP := Lib.hid hpv
      rw [hpv] at tk
      clear hpv
      have hany : Hid (pv = true → l.any badS = true) := Lib.hid (fun e => List.any_eq_true.2 ⟨x, List.mem_of_getElem? HX.out, HP.out.trans e⟩)
      cases pv
      · go_wp2_with (go_at_call 228; refine (wrong_bad _ _ HOK.out).mono ?_; rintro e w1 ⟨rfl, hb1⟩; rw [HP.out])
        exact ⟨⟨j + 1, by omega, by go_num, tk, below_then hbel hb1⟩, by simp [intOf]; omega⟩
      · go_wp2_with (go_at_call 228; refine (wrong_bad _ _ HOK.out).mono ?_; rintro e w1 ⟨rfl, hb1⟩; rw [HP.out])
        go_ret
        exact ⟨_, rfl, .inr ⟨by omega, hany.out (by first | rfl | trivial)⟩, below_then hbel hb1⟩
    · obtain rfl : j = l.length := by omega
      go_wp2_with fail
      go_ret
      exact ⟨_, rfl, .inl ⟨rfl, by rw [← HN.out, List.take_length]⟩, hbel⟩
theorem conSs_any (a : Option Addr) (cap : Nat) (l : List ByteArray) (w : World) (h : SsV w a l) (hl : l.length ≤ 100000) :
    Calls Tryz.prog 227 #[.slice a l.length cap, .func (Fn.func 228) #[] #[]] w fun e w' => e = .returned (.bool (l.any badS)) ∧ Below w.heap.size w w' := by
  go_enter Tryz.func227, Tryz.ntmps227
  go_wp2_with fail
  refine (idxSs_any a cap l _ h hl).mono ?_
  rintro e w1 ⟨r, rfl, hr, hb⟩
  clear h
  rcases hr with ⟨rfl, ha⟩ | ⟨h0, ha⟩
  · have HA := Lib.hid ha
    clear ha
    go_wp2_with fail
    go_ret
    exact ⟨ret_bool HA.out.symm, hb⟩
  · have HA := Lib.hid ha
    clear ha
    go_wp2_with fail
    go_ret
    exact ⟨ret_bool HA.out.symm, hb⟩

/-- numbers in memory, one behind the other -/
structure IsAt (w : World) (b off : Nat) (l : List Int) : Prop where
  ok : ∀ x ∈ l, I64 x
  cells : ∀ (i : Nat) (x : Int), l[i]? = some x → w.cell? ⟨b, off + i, none⟩ = some (.int .i64 x)
  lt : b < w.heap.size
def IsV (w : World) (a : Option Addr) (l : List Int) : Prop := l ≠ [] → ∃ b off, a = some ⟨b, off, none⟩ ∧ IsAt w b off l
theorem IsAt.of_block {w w' : World} {b off : Nat} {l : List Int} (h : IsAt w b off l) (hb : w'.heap[b]? = w.heap[b]?) : IsAt w' b off l :=
  ⟨h.ok, fun i x hx => by
    have e : ∀ j, w'.cell? ⟨b, j, none⟩ = w.cell? ⟨b, j, none⟩ := fun j => World.cell?_of_block (a := ⟨b, j, none⟩) hb
    simp only [e]; exact h.cells i x hx, (Array.getElem?_eq_some_iff.1 (hb.trans (Array.getElem?_eq_getElem h.lt))).1⟩
theorem IsV.below {w w' : World} {a : Option Addr} {l : List Int} (h : IsV w a l) (hb : Below w.heap.size w w') : IsV w' a l := fun e => by
  obtain ⟨b, off, h1, h2⟩ := h e
  exact ⟨b, off, h1, h2.of_block (hb.block _ h2.lt)⟩
def IsPost (w : World) (l : List Int) (e : Ending) (w' : World) : Prop := ∃ r : Int, e = .returned (.int .i64 r) ∧ (r = -1 ∧ l.any idB = false ∨ 0 ≤ r ∧ l.any idB = true) ∧ Below w.heap.size w w'
set_option maxHeartbeats 400000 in
theorem idxIs_any (a : Option Addr) (cap : Nat) (l : List Int) (w : World) (h : IsV w a l) (hl : l.length ≤ 100000) :
    Calls Tryz.prog 233 #[.slice a l.length cap, .func (Fn.func 243) #[] #[]] w (IsPost w l) := by
  go_enter Tryz.func233, Tryz.ntmps233
  go_wp2_with fail
  go_loopw [8] (fun i wr => ∃ j : Nat, j ≤ l.length ∧ i = .int .i64 j ∧ Hid ((l.take j).any idB = false) ∧ Below w.heap.size w wr) (fun i _ => l.length - (intOf i).toNat)
  case atStart => exact ⟨0, Nat.zero_le _, rfl, Lib.hid rfl, Below.refl _ _⟩
  case round =>
    obtain ⟨j, hj, rfl, HN, hbel⟩ := hrel
    by_cases hlt : j < l.length
    · obtain ⟨x, hx⟩ : ∃ x, l[j]? = some x := ⟨_, List.getElem?_eq_getElem hlt⟩
      obtain ⟨b, off, rfl, hat⟩ := (h.below hbel) (fun e => by rw [e] at hlt; simp at hlt)
      have hc := hat.cells j x hx
      have hok := hat.ok x (List.mem_of_getElem? hx)
      have hlb := hat.lt
      have HX := Lib.hid hx
      have HOK := Lib.hid hok
      have tk : Hid ((l.take (j + 1)).any idB = idB x) := Lib.hid (by rw [List.take_succ_eq_append_getElem hlt, List.any_append, HN.out]; obtain ⟨_, e⟩ := List.getElem?_eq_some_iff.1 hx; rw [e]; simp)
      clear hx hat hok h
      obtain q0 := hc
      obtain ⟨pv, hpv⟩ : ∃ pv, idB x = pv := ⟨_, rfl⟩
      have HP := Lib.hid hpv
      rw [hpv] at tk
      clear hpv
      have hany : Hid (pv = true → l.any idB = true) := Lib.hid (fun e => List.any_eq_true.2 ⟨x, List.mem_of_getElem? HX.out, HP.out.trans e⟩)
      cases pv
      · go_wp2_with (go_at_call 243; refine (check1_any _ _).mono ?_; rintro e w1 ⟨rfl, hb1⟩; rw [HP.out])
        exact ⟨⟨j + 1, by omega, by go_num, tk, below_then hbel hb1⟩, by simp [intOf]; omega⟩
      · go_wp2_with (go_at_call 243; refine (check1_any _ _).mono ?_; rintro e w1 ⟨rfl, hb1⟩; rw [HP.out])
        go_ret
        exact ⟨_, rfl, .inr ⟨by omega, hany.out (by first | rfl | trivial)⟩, below_then hbel hb1⟩
    · obtain rfl : j = l.length := by omega
      go_wp2_with fail
      go_ret
      exact ⟨_, rfl, .inl ⟨rfl, by rw [← HN.out, List.take_length]⟩, hbel⟩
theorem conIs_any (a : Option Addr) (cap : Nat) (l : List Int) (w : World) (h : IsV w a l) (hl : l.length ≤ 100000) :
    Calls Tryz.prog 242 #[.slice a l.length cap, .func (Fn.func 243) #[] #[]] w fun e w' => e = .returned (.bool (l.any idB)) ∧ Below w.heap.size w w' := by
  go_enter Tryz.func242, Tryz.ntmps242
  go_wp2_with fail
  refine (idxIs_any a cap l _ h hl).mono ?_
  rintro e w1 ⟨r, rfl, hr, hb⟩
  clear h
  rcases hr with ⟨rfl, ha⟩ | ⟨h0, ha⟩
  · have HA := Lib.hid ha
    clear ha
    go_wp2_with fail
    go_ret
    exact ⟨ret_bool HA.out.symm, hb⟩
  · have HA := Lib.hid ha
    clear ha
    go_wp2_with fail
    go_ret
    exact ⟨ret_bool HA.out.symm, hb⟩
end Go.Proofs.YtonilojjahfboaaGreat
