/- Reference 16: a graph as two rows in memory. Conditions: each lemma's own premises. Reference 16: places of vertices and edges. Conditions: each contract's own premises. -/
import Derived.Test.YtkbmipmegljidaaGreatWsP
import Derived.Test.YtkbmipmegljidaaGreatGr6
import Derived.Test.YtkbmipmegljidaaGreatWsE
namespace Go.Proofs.YtkbmipmegljidaaGreat
open Go.RowKit Go.Maps

theorem infoVt : (Tryz.prog.info? 30).map (fun i => (i.zero, i.size, i.bytes)) = some (some (.agg #[.int .i64 0, .string ByteArray.empty, .slice none 0 0]), 3, 48) := by kernel_rfl
theorem infoEg : (Tryz.prog.info? 32).map (fun i => (i.zero, i.size, i.bytes)) = some (some (.agg #[.int .i64 0, .string ByteArray.empty, .int .i64 0, .int .i64 0, .slice none 0 0]), 5, 64) := by kernel_rfl
/-- a vertex, an edge as it lies in a row: with the slice of its properties -/
structure Vr where
  v : Vt
  a : Option Addr
  c : Nat
structure Er where
  e : Eg
  a : Option Addr
  c : Nat
def Vr.enc (x : Vr) : List Value := [.int .i64 x.v.id, .string x.v.label, .slice x.a x.v.ps.length x.c]
def Er.enc (x : Er) : List Value := [.int .i64 x.e.id, .string x.e.label, .int .i64 x.e.fr, .int .i64 x.e.to, .slice x.a x.e.ps.length x.c]
def kVr : RowK Tryz.prog Vr where
  t := 22
  e := 30
  size := 3
  bytes := 48
  z := .agg #[.int .i64 0, .string ByteArray.empty, .slice none 0 0]
  enc := Vr.enc
  ht := Tryz.underlying22
  info := infoVt
  hz := rfl
  pos := by decide
  small := by decide
  len := fun _ => rfl
  one := fun x u hu => by
    simp [Vr.enc] at hu
    rcases hu with rfl | rfl | rfl <;> rfl
def kEr : RowK Tryz.prog Er where
  t := 23
  e := 32
  size := 5
  bytes := 64
  z := .agg #[.int .i64 0, .string ByteArray.empty, .int .i64 0, .int .i64 0, .slice none 0 0]
  enc := Er.enc
  ht := Tryz.underlying23
  info := infoEg
  hz := rfl
  pos := by decide
  small := by decide
  len := fun _ => rfl
  one := fun x u hu => by
    simp [Er.enc] at hu
    rcases hu with rfl | rfl | rfl | rfl | rfl <;> rfl
/-- a slice of properties that lies from B on -/
def PsB (w : World) (B : Nat) (a : Option Addr) (c : Nat) (ps : List Pr) : Prop := PsA w a c ps ∧ ∀ b off, a = some ⟨b, off, none⟩ → B ≤ b
theorem PsB.mono {w : World} {B B' : Nat} {a : Option Addr} {c : Nat} {ps : List Pr} (h : PsB w B a c ps) (hB : B' ≤ B) : PsB w B' a c ps := ⟨h.1, fun b off e => Nat.le_trans hB (h.2 b off e)⟩
theorem PsB.below {w w' : World} {B : Nat} {a : Option Addr} {c : Nat} {ps : List Pr} (h : PsB w B a c ps) (hb : Below w.heap.size w w') : PsB w' B a c ps := ⟨h.1.below hb, h.2⟩
theorem PsB.chg {w w' : World} {B : Nat} {S : Nat → Prop} {a : Option Addr} {c : Nat} {ps : List Pr} (h : PsB w B a c ps) (hc : Chg w w' S) (hS : ∀ j, S j → j < B) : PsB w' B a c ps :=
  ⟨⟨fun hp => by
    obtain ⟨b, off, e, hat⟩ := h.1.v hp
    have hB := h.2 b off e
    have hk : w'.heap[b]? = w.heap[b]? := hc.block b hat.lt (fun hs => by have := hS b hs; omega)
    exact ⟨b, off, e, ⟨hat.ok, fun i p hp => by
      obtain ⟨h0, h1, h2, h3⟩ := hat.cells i p hp
      exact ⟨(World.cell?_of_block (a := ⟨b, _, none⟩) hk).trans h0, (World.cell?_of_block (a := ⟨b, _, none⟩) hk).trans h1, (World.cell?_of_block (a := ⟨b, _, none⟩) hk).trans h2, (World.cell?_of_block (a := ⟨b, _, none⟩) hk).trans h3⟩, Nat.lt_of_lt_of_le hat.lt hc.size⟩⟩, h.1.nil⟩, h.2⟩
/-- a reference graph in memory -/
structure RgL (w : World) (rb B : Nat) (VL : List Vr) (EL : List Er) : Prop where
  ex : ∃ va vc ea ec, w.heap[rb]? = some (.cells #[.slice va VL.length vc, .slice ea EL.length ec] 36 (0, 0)) ∧ kVr.Own w B (.slice va VL.length vc) VL ∧ kEr.Own w B (.slice ea EL.length ec) EL
  pv : ∀ x ∈ VL, PsB w B x.a x.c x.v.ps
  pe : ∀ x ∈ EL, PsB w B x.a x.c x.e.ps
  lt : rb < B
def RgC (w : World) (rb B : Nat) (V : List Vt) (E : List Eg) : Prop := ∃ VL EL, RgL w rb B VL EL ∧ VL.map Vr.v = V ∧ EL.map Er.e = E
section
variable {w w' : World} {rb B : Nat} {VL : List Vr} {EL : List Er} {V : List Vt} {E : List Eg}
theorem RgL.below (h : RgL w rb B VL EL) (hb : Below w.heap.size w w') : RgL w' rb B VL EL := by
  obtain ⟨⟨va, vc, ea, ec, h1, h2, h3⟩, h4, h5, h6⟩ := h
  exact ⟨⟨va, vc, ea, ec, (hb.block _ (Array.getElem?_eq_some_iff.1 h1).1).trans h1, h2.below hb, h3.below hb⟩, fun x hx => (h4 x hx).below hb, fun x hx => (h5 x hx).below hb, h6⟩
theorem RgL.chg {S : Nat → Prop} (h : RgL w rb B VL EL) (hc : Chg w w' S) (hS : ∀ j, S j → j < rb) : RgL w' rb B VL EL := by
  obtain ⟨⟨va, vc, ea, ec, h1, h2, h3⟩, h4, h5, h6⟩ := h
  have hS2 : ∀ j, S j → j < B := fun j hj => by have := hS j hj; omega
  refine ⟨⟨va, vc, ea, ec, (hc.block _ (Array.getElem?_eq_some_iff.1 h1).1 (fun hs => absurd (hS _ hs) (Nat.lt_irrefl _))).trans h1, h2.chg hc (fun j hj hs => ?_), h3.chg hc (fun j hj hs => ?_)⟩, fun x hx => (h4 x hx).chg hc hS2, fun x hx => (h5 x hx).chg hc hS2, h6⟩
  · have := (h2.lt j hj).1
    have := hS2 j hs
    omega
  · have := (h3.lt j hj).1
    have := hS2 j hs
    omega
theorem RgL.size (h : RgL w rb B VL EL) : rb < w.heap.size := by
  obtain ⟨⟨va, vc, ea, ec, h1, _⟩, _⟩ := h
  exact (Array.getElem?_eq_some_iff.1 h1).1
theorem RgC.below (h : RgC w rb B V E) (hb : Below w.heap.size w w') : RgC w' rb B V E := by
  obtain ⟨VL, EL, h1, h2⟩ := h
  exact ⟨VL, EL, h1.below hb, h2⟩
theorem RgC.chg {S : Nat → Prop} (h : RgC w rb B V E) (hc : Chg w w' S) (hS : ∀ j, S j → j < rb) : RgC w' rb B V E := by
  obtain ⟨VL, EL, h1, h2⟩ := h
  exact ⟨VL, EL, h1.chg hc hS, h2⟩
end
def AtB {α : Type} (key : α → Int) (L : List α) (n : Int) (r : Int) : Prop := (r = -1 ∧ ∀ x ∈ L, key x ≠ n) ∨ ∃ i x, r = ((i : Nat) : Int) ∧ L[i]? = some x ∧ key x = n
end Go.Proofs.YtkbmipmegljidaaGreat
namespace Go.Proofs.YtkbmipmegljidaaGreat
open Go.RowKit Go.Maps

set_option maxRecDepth 100000 in
set_option maxHeartbeats 2000000 in
theorem r16V_any {w : World} {rb B : Nat} {VL : List Vr} {EL : List Er} (h : RgL w rb B VL EL) (hl : VL.length ≤ 1000000) (n : Int) :
    Calls Tryz.prog 44 #[.pointer (some ⟨rb, 0, none⟩), .int .i64 n] w fun e w' => w = w' ∧ ∃ r, e = .returned (.int .i64 r) ∧ AtB (fun x : Vr => x.v.id) VL n r := by
  obtain ⟨m, hm⟩ : ∃ m, m = VL.length := ⟨_, rfl⟩
  have HR : Hid (∃ a c, w.cell? ⟨rb, 0, none⟩ = some (.slice a m c) ∧ (VL ≠ [] → ∃ b, a = some ⟨b, 0, none⟩ ∧ kVr.At w b 0 VL)) := Lib.hid (by
    obtain ⟨⟨va, vc, ea, ec, h1, h2, h3⟩, _, _, _⟩ := h
    refine ⟨_, _, by rw [cell_of_blk h1, hm]; rfl, fun hne => ?_⟩
    obtain ⟨b, cp, e, _, _, hat⟩ := h2.at' hne
    injection e with e1 e2 e3
    exact ⟨b, e1, hat⟩)
  have HZ : Hid (rb < w.heap.size) := Lib.hid h.size
  have HM := Lib.hid hm
  have HL : Hid (m ≤ 1000000) := Lib.hid (by rw [hm]; exact hl)
  clear h hl hm
  obtain ⟨a, c, c0, hat0⟩ := HR.out
  have HAT := Lib.hid hat0
  clear hat0 HR
  have hzz := HZ.out
  go_enter Tryz.func44, Tryz.ntmps44
  go_wp2_with fail
  go_loopw [5] (fun i wr => ∃ j : Nat, i = .int .i64 j ∧ wr = w ∧ j ≤ m ∧ Hid (∀ j' x, j' < j → VL[j']? = some x → ((fun x : Vr => x.v.id) x) ≠ n)) (fun i _ => m - (intOf i).toNat)
  case atStart => exact ⟨0, rfl, rfl, Nat.zero_le _, Lib.hid (fun _ _ h => absurd h (Nat.not_lt_zero _))⟩
  case round =>
    obtain ⟨j, rfl, rfl, hj, HNO⟩ := hrel
    have hml := HL.out
    by_cases hlt : j < m
    · have hne : VL ≠ [] := fun e => by have := HM.out; rw [e] at this; simp at this; omega
      obtain ⟨b, rfl, hat⟩ := HAT.out hne
      obtain ⟨x, hx⟩ : ∃ x, VL[j]? = some x := ⟨_, List.getElem?_eq_getElem (by have := HM.out; omega)⟩
      have k0 := hat.cells j x hx 0 _ rfl
      simp [kVr] at k0
      have hbl := hat.lt
      have HX := Lib.hid hx
      clear hat hx hne
      by_cases he : x.v.id = n
      · have HE := Lib.hid he
        go_wp2_with fail
        go_ret
        exact ⟨by trivial, _, rfl, .inr ⟨j, x, rfl, HX.out, HE.out⟩⟩
      · have HE := Lib.hid he
        go_wp2_with fail
        refine ⟨⟨j + 1, by simp, trivial, hlt, Lib.hid (fun j' y hj' hy => ?_)⟩, by simp [intOf]; omega⟩
        by_cases e : j' < j
        · exact HNO.out j' y e hy
        · obtain rfl : j' = j := by omega
          rw [HX.out] at hy
          injection hy with hy
          subst hy
          exact HE.out
    · obtain rfl : j = m := by omega
      go_wp2_with fail
      go_ret
      refine ⟨by trivial, _, rfl, .inl ⟨rfl, fun x hx => ?_⟩⟩
      obtain ⟨i, hi, e⟩ := List.getElem_of_mem hx
      exact HNO.out i x (by rw [HM.out]; exact hi) (by rw [List.getElem?_eq_getElem hi, e])

set_option maxRecDepth 100000 in
set_option maxHeartbeats 2000000 in
theorem r16E_any {w : World} {rb B : Nat} {VL : List Vr} {EL : List Er} (h : RgL w rb B VL EL) (hl : EL.length ≤ 1000000) (n : Int) :
    Calls Tryz.prog 45 #[.pointer (some ⟨rb, 0, none⟩), .int .i64 n] w fun e w' => w = w' ∧ ∃ r, e = .returned (.int .i64 r) ∧ AtB (fun x : Er => x.e.id) EL n r := by
  obtain ⟨m, hm⟩ : ∃ m, m = EL.length := ⟨_, rfl⟩
  have HR : Hid (∃ a c, w.cell? ⟨rb, 1, none⟩ = some (.slice a m c) ∧ (EL ≠ [] → ∃ b, a = some ⟨b, 0, none⟩ ∧ kEr.At w b 0 EL)) := Lib.hid (by
    obtain ⟨⟨va, vc, ea, ec, h1, h2, h3⟩, _, _, _⟩ := h
    refine ⟨_, _, by rw [cell_of_blk h1, hm]; rfl, fun hne => ?_⟩
    obtain ⟨b, cp, e, _, _, hat⟩ := h3.at' hne
    injection e with e1 e2 e3
    exact ⟨b, e1, hat⟩)
  have HZ : Hid (rb < w.heap.size) := Lib.hid h.size
  have HM := Lib.hid hm
  have HL : Hid (m ≤ 1000000) := Lib.hid (by rw [hm]; exact hl)
  clear h hl hm
  obtain ⟨a, c, c0, hat0⟩ := HR.out
  have HAT := Lib.hid hat0
  clear hat0 HR
  have hzz := HZ.out
  go_enter Tryz.func45, Tryz.ntmps45
  go_wp2_with fail
  go_loopw [5] (fun i wr => ∃ j : Nat, i = .int .i64 j ∧ wr = w ∧ j ≤ m ∧ Hid (∀ j' x, j' < j → EL[j']? = some x → ((fun x : Er => x.e.id) x) ≠ n)) (fun i _ => m - (intOf i).toNat)
  case atStart => exact ⟨0, rfl, rfl, Nat.zero_le _, Lib.hid (fun _ _ h => absurd h (Nat.not_lt_zero _))⟩
  case round =>
    obtain ⟨j, rfl, rfl, hj, HNO⟩ := hrel
    have hml := HL.out
    by_cases hlt : j < m
    · have hne : EL ≠ [] := fun e => by have := HM.out; rw [e] at this; simp at this; omega
      obtain ⟨b, rfl, hat⟩ := HAT.out hne
      obtain ⟨x, hx⟩ : ∃ x, EL[j]? = some x := ⟨_, List.getElem?_eq_getElem (by have := HM.out; omega)⟩
      have k0 := hat.cells j x hx 0 _ rfl
      simp [kEr] at k0
      have hbl := hat.lt
      have HX := Lib.hid hx
      clear hat hx hne
      by_cases he : x.e.id = n
      · have HE := Lib.hid he
        go_wp2_with fail
        go_ret
        exact ⟨by trivial, _, rfl, .inr ⟨j, x, rfl, HX.out, HE.out⟩⟩
      · have HE := Lib.hid he
        go_wp2_with fail
        refine ⟨⟨j + 1, by simp, trivial, hlt, Lib.hid (fun j' y hj' hy => ?_)⟩, by simp [intOf]; omega⟩
        by_cases e : j' < j
        · exact HNO.out j' y e hy
        · obtain rfl : j' = j := by omega
          rw [HX.out] at hy
          injection hy with hy
          subst hy
          exact HE.out
    · obtain rfl : j = m := by omega
      go_wp2_with fail
      go_ret
      refine ⟨by trivial, _, rfl, .inl ⟨rfl, fun x hx => ?_⟩⟩
      obtain ⟨i, hi, e⟩ := List.getElem_of_mem hx
      exact HNO.out i x (by rw [HM.out]; exact hi) (by rw [List.getElem?_eq_getElem hi, e])

end Go.Proofs.YtkbmipmegljidaaGreat
