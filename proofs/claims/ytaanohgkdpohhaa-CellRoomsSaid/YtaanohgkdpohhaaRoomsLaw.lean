/- CellRooms: the walk. Conditions: the theorem's own premises. -/
import Derived.Test.YtaanohgkdpohhaaHoldsLaw
import Derived.Test.YtaanohgkdpohhaaCell13
import Derived.Test.YtaanohgkdpohhaaStays2
import Derived.Test.YtaanohgkdpohhaaIntMem
namespace Go.Proofs.Ytaanohgkdpohhaa
open Go.RowKit Go.Maps

/-- the cells of CellRooms: those of the numbers in P -/
def x5 : Cl := ⟨5, false, false, ⟨#[120]⟩, 1⟩
open Classical in
noncomputable def rmG (P : List Nat) : Ky → Option Cl := fun k => if ∃ i : Nat, i ∈ P ∧ k = k9 i then some x5 else none
theorem k9_inj {i j : Nat} (h : k9 i = k9 j) : i = j := by
  unfold k9 at h
  injection h with _ h
  omega
theorem rmG_yes {P : List Nat} {i : Nat} (h : i ∈ P) : rmG P (k9 i) = some x5 := by
  unfold rmG
  rw [if_pos ⟨i, h, rfl⟩]
theorem rmG_no {P : List Nat} {i : Nat} (h : i ∉ P) : rmG P (k9 i) = none := by
  unfold rmG
  rw [if_neg]
  rintro ⟨j, hj, e⟩
  rw [k9_inj e] at h
  exact h hj
theorem rmG_nil : rmG [] = fun _ => none := by
  funext k
  unfold rmG
  rw [if_neg]
  rintro ⟨j, hj, _⟩
  cases hj
theorem rmG_add (P : List Nat) (i : Nat) (a : Option Cl) : setG (setG (rmG P) (k9 i) a) (k9 i) (some x5) = rmG (P ++ [i]) := by
  rw [setG_setG]
  funext k
  by_cases e : k = k9 i
  · subst e
    rw [setG_same, rmG_yes (by simp)]
  · rw [setG_other _ _ e]
    unfold rmG
    congr 1
    refine propext ⟨fun ⟨j, hj, hk⟩ => ⟨j, by simp [hj], hk⟩, fun ⟨j, hj, hk⟩ => ?_⟩
    rcases List.mem_append.1 hj with h | h
    · exact ⟨j, h, hk⟩
    · obtain rfl : j = i := by simpa using h
      exact absurd hk e
theorem rmG_del {P : List Nat} (hn : P.Nodup) (i : Nat) : setG (rmG P) (k9 i) none = rmG (P.erase i) := by
  funext k
  by_cases e : k = k9 i
  · subst e
    rw [setG_same, rmG_no (fun h => by simpa using (hn.mem_erase_iff.1 h).1)]
  · rw [setG_other _ _ e]
    unfold rmG
    congr 1
    refine propext ⟨fun ⟨j, hj, hk⟩ => ⟨j, hn.mem_erase_iff.2 ⟨fun h => e (by rw [hk, h]), hj⟩, hk⟩, fun ⟨j, hj, hk⟩ => ⟨j, (hn.mem_erase_iff.1 hj).2, hk⟩⟩
/-- how many keys there are of which it is so -/
theorem rm_which {P : List Nat} (hn : P.Nodup) {n : Nat} {w w' : World} {e : Ending} (h : WhichG (rmG P) hasC n w e w') : ∃ a cap, e = .returned (.slice a P.length cap) ∧ Below w.heap.size w w' := by
  obtain ⟨v, ks, rfl, h2, _, h4, h5, h6⟩ := h
  have hnd : ks.Nodup := h2.imp (fun {a b} h e => by
    subst e
    have := (Ky.cmp_zero a a).2 rfl
    omega)
  have hmd : (P.map (fun i : Nat => k9 (i : Int))).Nodup := by
    rw [List.nodup_iff_pairwise_ne] at *
    exact List.pairwise_map.2 (hn.imp (fun {a b} h e => h (k9_inj e)))
  have hp : ks.Perm (P.map (fun i : Nat => k9 (i : Int))) := (List.perm_ext_iff_of_nodup hnd hmd).2 (fun k => by
    rw [h4, List.mem_map]
    unfold rmG
    constructor
    · rintro ⟨c, hc, _⟩
      split at hc
      · rename_i hx
        obtain ⟨i, hi, e⟩ := hx
        exact ⟨i, hi, e.symm⟩
      · cases hc
    · rintro ⟨i, hi, e⟩
      exact ⟨x5, by rw [if_pos ⟨i, hi, e.symm⟩], rfl⟩)
  have hl := hp.length_eq
  rw [List.length_map] at hl
  obtain ⟨a, cap, rfl⟩ := h5.shape
  rw [hl]
  exact ⟨a, cap, rfl, h6⟩
/-- the store of CellRooms -/
structure RmS (W w : World) (s : Sto) (sb n : Nat) (P : List Nat) : Prop where
  st : StS W w s
  g : s.g = rmG P
  cnt : s.cnt = P.length
  c : s.c + P.length ≤ n
  room : s.ar.room = n
  sb : s.sb = sb
  nd : P.Nodup
  lt : ∀ i ∈ P, i < n
theorem RmS.below {W w w' : World} {s : Sto} {sb n : Nat} {P : List Nat} (h : RmS W w s sb n P) (hb : Below w.heap.size w w') : RmS W w' s sb n P := ⟨h.st.below hb, h.g, h.cnt, h.c, h.room, h.sb, h.nd, h.lt⟩
/-- a store, one more cell -/
theorem RmS.lock {W w w' : World} {s s' : Sto} {sb n : Nat} {P : List Nat} {g : Ky → Option Cl} {cnt c : Nat} (h : RmS W w s sb n P) (p : GPost w s s' g cnt c w') : StS W w' s' ∧ s'.sb = sb ∧ s'.ar.room = n := ⟨h.st.gpost p, p.sb.trans h.sb, p.room.trans h.room⟩
/-- Lock of a cell that is free, and Install, with the slot itself -/
def SlPost (w : World) (s : Sto) (k : Ky) (y : Sl) (r : Value) (e : Ending) (w' : World) : Prop := e = .returned r ∧ ∃ s', GPost w s s' (setG s.g k (some y.cl)) s.cnt s.c w' ∧ s'.f k = some y ∧ s'.ab = s.ab
theorem put_sl {w w' : World} {s : Sto} {k : Ky} {y : Sl} {r : Value} {e : Ending} (h : StPost w s (s.put k y) r e w') : SlPost w s k y r e w' :=
  ⟨h.1, _, ⟨h.2.1, h.2.2.1, h.2.2.2, rfl, rfl, by rw [setF_g s k (some y) _ rfl, Option.map_some], rfl, rfl⟩, setF_same _ _ _, rfl⟩
theorem lock_sl (s : Sto) (b : Nat) (k : Ky) (x : Sl) (who : Int) (w : World) (h : StC w s) (hb : s.sb = b) (hk : k.Ok) (hw : I64 who) (hx : s.f k = some x) (hlk : x.lk = false) :
    Calls Try.prog 17 #[.pointer (some ⟨b, 0, none⟩), .agg #[.int .i64 k.kind, .int .i64 k.a, .int .i64 k.b, .string k.s], .int .i64 who] w (SlPost w s k { x with lk := true, who := who } (.tuple #[.int .u64 x.st, .int .i64 0])) := by
  subst hb
  exact (lock_free s k x who w h hk hw hx hlk).mono fun _ _ hp => put_sl hp
theorem install_sl (s : Sto) (b : Nat) (k : Ky) (x : Sl) (who : Int) (t : Nat) (vw : Int) (vs : ByteArray) (vh : Bool) (w : World) (h : StC w s) (hb : s.sb = b) (hk : k.Ok) (hx : s.f k = some x) (hlk : x.lk = true) (hwho : x.who = who) (ht : Sm t) (hst : x.st < t) (hv : vh = true ∨ (vh = false ∧ vs = ⟨#[]⟩)) (hvs : vs.size ≤ maxLen) :
    Calls Try.prog 19 #[.pointer (some ⟨b, 0, none⟩), .agg #[.int .i64 k.kind, .int .i64 k.a, .int .i64 k.b, .string k.s], .int .i64 who, .int .u64 t, .agg #[.int .u64 vw, .string vs, .bool vh]] w (SlPost w s k { x with st := t, lk := false, ab := !vh, text := vs } (.int .i64 0)) := by
  subst hb
  exact (install_ok s k x who t vw vs vh w h hk hx hlk hwho ht hst hv hvs).mono fun _ _ hp => put_sl hp
theorem ksv_any {u : World} {n : Nat} (hn : u.heap.size = n) {k : Ky} (hk : k.Ok) : KsV (u.alloc (.cells #[.int .i64 k.kind, .int .i64 k.a, .int .i64 k.b, .string k.s] 32)) (fun _ => False) (some ⟨n, 0, none⟩) [k] := by
  subst hn
  exact fun _ => ⟨_, 0, rfl, KsAt.one (heap_new u _) hk, fun e => e⟩
theorem ksv_two {u : World} {s : Sto} (h : StC u s) {n : Nat} (hn : u.heap.size = n) {k : Ky} (hk : k.Ok) : KsV (u.alloc (.cells #[.int .i64 k.kind, .int .i64 k.a, .int .i64 k.b, .string k.s, .int .i64 k.kind, .int .i64 k.a, .int .i64 k.b, .string k.s] 32)) s.fp (some ⟨n, 0, none⟩) [k, k] := by
  subst hn
  refine fun _ => ⟨_, 0, rfl, ⟨by simp [hk], fun i y he => ?_, by simp⟩, fun e => by have := h.lt e; omega⟩
  have hb := heap_new u (.cells #[.int .i64 k.kind, .int .i64 k.a, .int .i64 k.b, .string k.s, .int .i64 k.kind, .int .i64 k.a, .int .i64 k.b, .string k.s] 32)
  match i, he with
  | 0, he => simp at he; subst he; exact ⟨by rw [cell_of_blk hb]; rfl, by rw [cell_of_blk hb]; rfl, by rw [cell_of_blk hb]; rfl, by rw [cell_of_blk hb]; rfl⟩
  | 1, he => simp at he; subst he; exact ⟨by rw [cell_of_blk hb]; rfl, by rw [cell_of_blk hb]; rfl, by rw [cell_of_blk hb]; rfl, by rw [cell_of_blk hb]; rfl⟩
theorem Bx.drewN' {w : World} {s : Sto} {b : Nat} {X : Obj} (h : Bx w s b X) : Bx w.drew s b X := ⟨h.at', h.out⟩
/-- what a round of CellRooms holds: the store, and its three boxes -/
structure RmB (W w : World) (s : Sto) (sb kb hb vb : Nat) (q hs hg : Int) : Prop where
  st : StS W w s
  sb : s.sb = sb
  k : Bx w s kb (.cells #[.int .i64 1, .int .i64 q, .int .i64 0, .string ⟨#[]⟩] 32)
  h : Bx w s hb (.cells #[.int .i64 hs, .int .i64 hg] 44)
  v : Bx w s vb (.cells #[.int .u64 5, .string ⟨#[120]⟩, .bool true] 36)
section
variable {W w w' : World} {s s' : Sto} {sb kb hb vb : Nat} {q hs hg : Int}
theorem RmB.below (h : RmB W w s sb kb hb vb q hs hg) (b : Below w.heap.size w w') : RmB W w' s sb kb hb vb q hs hg := ⟨h.st.below b, h.sb, h.k.below b, h.h.below b, h.v.below b⟩
theorem RmB.gpost {g : Ky → Option Cl} {n c : Nat} (h : RmB W w s sb kb hb vb q hs hg) (p : GPost w s s' g n c w') : RmB W w' s' sb kb hb vb q hs hg := ⟨h.st.gpost p, p.sb.trans h.sb, h.k.gpost p, h.h.gpost p, h.v.gpost p⟩
def RmC (kb hb vb : Nat) (q hs hg : Int) (w : World) : Prop := w.cell? ⟨kb, 0, none⟩ = some (.int .i64 1) ∧ w.cell? ⟨kb, 1, none⟩ = some (.int .i64 q) ∧ w.cell? ⟨kb, 2, none⟩ = some (.int .i64 0) ∧ w.cell? ⟨kb, 3, none⟩ = some (.string ⟨#[]⟩) ∧ w.cell? ⟨hb, 0, none⟩ = some (.int .i64 hs) ∧ w.cell? ⟨hb, 1, none⟩ = some (.int .i64 hg) ∧ w.cell? ⟨vb, 0, none⟩ = some (.int .u64 5)
theorem RmB.c (h : RmB W w s sb kb hb vb q hs hg) : RmC kb hb vb q hs hg w := ⟨h.k.cell 0, h.k.cell 1, h.k.cell 2, h.k.cell 3, h.h.cell 0, h.h.cell 1, h.v.cell 0⟩
theorem RmB.a0 (h : RmB W w s sb kb hb vb q hs hg) : w.cell? ⟨sb, 0, none⟩ = some (.pointer (some ⟨s.ab, 0, none⟩)) := by
  have := cell_of_blk h.st.st.blk 0
  rw [h.sb] at this
  exact this
end
theorem live_s (s : Sto) (w : World) (h : StC w s) (x g : Int) (hx : I64 x) (v : Bool) (hv : s.ar.live x g = v) : Calls Try.prog 25 #[.pointer (some ⟨s.ab, 0, none⟩), .agg #[.int .i64 x, .int .i64 g]] w fun e w' => e = .returned (.bool v) ∧ Below w.heap.size w w' := by
  subst hv
  exact live_any s.ab s.bg s.bt s.v s.ar s.c w x g hx h.ar
def Rm2 (W : World) (sb n : Nat) (l : List Int) (left i : Value) (wr : World) : Prop := ∃ (j : Nat) (s : Sto) (P : List Nat), j ≤ l.length ∧ i = .int .i64 j ∧ left = .int .i64 P.length ∧ RmS W wr s sb n P
theorem rm_free {s2 s3 s4 : Sto} {q : Nat} {y3 y4 : Sl} {P : List Nat} {V u : World} {n3 c3 n4 c4 : Nat} {w3 w4 : World} (p3 : GPost V s2 s3 (setG s2.g (k9 q) (some y3.cl)) n3 c3 w3) (p4 : GPost u s3 s4 (setG s3.g (k9 q) (some y4.cl)) n4 c4 w4) (hg : s2.g = rmG P) (hn : P.Nodup) (h1 : y4.ab = true := by rfl) (h2 : y4.lk = false := by rfl) :
    freeG s4.g [k9 q, k9 q] = (rmG (P.erase q), 1) := by
  have e4 : s4.g = setG (rmG P) (k9 q) (some y4.cl) := by rw [p4.g, p3.g, setG_setG, hg]
  have e5 : setG s4.g (k9 q) none = rmG (P.erase q) := by rw [e4, setG_setG]; exact rmG_del hn q
  show freeStep (freeStep (s4.g, 0) (k9 q)) (k9 q) = _
  have e6 : freeStep (s4.g, 0) (k9 q) = (rmG (P.erase q), 1) := by
    unfold freeStep
    dsimp only
    rw [show s4.g (k9 q) = some y4.cl by rw [e4, setG_same]]
    dsimp only [Sl.cl]
    rw [h1, h2]
    simp only [Bool.not_false, Bool.and_self, if_true]
    rw [← e5]
  rw [e6]
  unfold freeStep
  dsimp only
  rw [rmG_no (fun h => by simpa using (hn.mem_erase_iff.1 h).1)]
theorem rm_done {W V u u5 u6 u6' : World} {w3 w4 : World} {s2 s3 s4 s5 : Sto} {sb j q : Nat} {P : List Nat} {g3 g4 : Ky → Option Cl} (hs : StS W u6 s5) (p3 : GPost V s2 s3 g3 s2.cnt s2.c w3) (p4 : GPost u s3 s4 g4 s3.cnt s3.c w4) (p5 : GPost u5 s4 s5 (rmG (P.erase q)) (s4.cnt - 1) (s4.c + 1) u6')
    (hZ : s2.g = rmG P ∧ s2.cnt = P.length ∧ s2.c + P.length ≤ j ∧ s2.ar.room = j ∧ P.Nodup ∧ ∀ i ∈ P, i < j) (hin : q ∈ P) (hsb : s5.sb = sb) : RmS W u6 s5 sb j (P.erase q) ∧ (P.erase q).length + 1 = P.length := by
  have hl := List.length_erase_of_mem hin
  have hpos := List.length_pos_of_mem hin
  have hc5 := p5.cnt
  have hcc5 := p5.c
  rw [p4.cnt, p3.cnt, hZ.2.1] at hc5
  rw [p4.c, p3.c] at hcc5
  have := hZ.2.2.1
  exact ⟨⟨hs, p5.g, by omega, by omega, p5.room.trans (p4.room.trans (p3.room.trans hZ.2.2.2.1)), hsb, hZ.2.2.2.2.1.erase _, fun i hi => hZ.2.2.2.2.2 i (List.mem_of_mem_erase hi)⟩, by omega⟩
end Go.Proofs.Ytaanohgkdpohhaa
