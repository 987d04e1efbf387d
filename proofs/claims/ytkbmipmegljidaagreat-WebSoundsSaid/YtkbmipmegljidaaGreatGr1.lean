/- slices.Clone of properties; graph.ownV, ownE. Conditions: each contract's own premises. -/
import Derived.Test.YtkbmipmegljidaaGreatWsL
import Derived.Test.YtkbmipmegljidaaGreatWsE
namespace Go.Proofs.YtkbmipmegljidaaGreat
open Go.RowKit Go.Maps

theorem infoPr : (Tryz.prog.info? 62).map (fun i => (i.zero, i.size, i.bytes)) = some (some (.agg #[.string ByteArray.empty, .int .i64 0, .int .i64 0, .string ByteArray.empty]), 4, 48) := by kernel_rfl
def Pr.enc (p : Pr) : List Value := [.string p.key, .int .i64 p.v.kind, .int .i64 p.v.n, .string p.v.s]
/-- properties, as elements -/
def kP : RowK Tryz.prog Pr where
  t := 28
  e := 62
  size := 4
  bytes := 48
  z := .agg #[.string ByteArray.empty, .int .i64 0, .int .i64 0, .string ByteArray.empty]
  enc := Pr.enc
  ht := Tryz.underlying28
  info := infoPr
  hz := rfl
  pos := by decide
  small := by decide
  len := fun _ => rfl
  one := fun x u hu => by
    simp [Pr.enc] at hu
    rcases hu with rfl | rfl | rfl | rfl <;> rfl
/-- a slice of properties as it lies in a value -/
structure PsA (w : World) (a : Option Addr) (c : Nat) (ps : List Pr) : Prop where
  v : PsV w a ps
  nil : a = none → c = 0 ∧ ps = []
theorem PsA.below {w w' : World} {a : Option Addr} {c : Nat} {ps : List Pr} (h : PsA w a c ps) (hb : Below w.heap.size w w') : PsA w' a c ps := ⟨h.v.below hb, h.nil⟩
theorem PsV.kP {w : World} {a : Option Addr} {ps : List Pr} (h : PsV w a ps) : kP.V w a ps := fun hn => by
  obtain ⟨b, off, e, hat⟩ := h hn
  refine ⟨b, off, e, ⟨fun i x hx j u hu => ?_, hat.lt⟩⟩
  obtain ⟨h0, h1, h2, h3⟩ := hat.cells i x hx
  match j, hu with
  | 0, hu => injection hu with hu; subst hu; exact h0
  | 1, hu => injection hu with hu; subst hu; exact h1
  | 2, hu => injection hu with hu; subst hu; exact h2
  | 3, hu => injection hu with hu; subst hu; exact h3
theorem psV_own {w : World} {B : Nat} {a : Option Addr} {n c : Nat} {ps : List Pr} (h : kP.Own w B (.slice a n c) ps) (ok : ∀ p ∈ ps, p.Ok) : PsV w a ps := fun hn => by
  obtain ⟨b, off, e, hat⟩ := h.toV hn
  exact ⟨b, off, e, ⟨ok, fun i p hp => ⟨hat.cells i p hp 0 _ rfl, hat.cells i p hp 1 _ rfl, hat.cells i p hp 2 _ rfl, hat.cells i p hp 3 _ rfl⟩, hat.lt⟩⟩
theorem PsV.ok {w : World} {a : Option Addr} {ps : List Pr} (h : PsV w a ps) : ∀ p ∈ ps, p.Ok := fun p hp => by
  obtain ⟨b, off, _, hat⟩ := h (fun e => by rw [e] at hp; cases hp)
  exact hat.ok p hp
theorem heap_new2 (w : World) (X Y : Obj) : ((w.alloc X).alloc Y).heap[w.heap.size + 1]? = some Y := by
  have := heap_new (w.alloc X) Y
  rw [size_alloc] at this
  exact this
theorem nilP_some (a : Addr) (n c : Nat) (w : World) : (binOp .eql 28 (.slice (some a) n c) (.slice none 0 0)).run Tryz.prog w = .ok (.bool false) w := by kernel_rfl
theorem nilP_none (w : World) : (binOp .eql 28 (.slice none 0 0) (.slice none 0 0)).run Tryz.prog w = .ok (.bool true) w := by kernel_rfl
def ClPost (w : World) (ps : List Pr) (e : Ending) (w' : World) : Prop := ∃ a c, e = .returned (.slice a ps.length c) ∧ (PsA w' a c ps ∧ ∀ b off, a = some ⟨b, off, none⟩ → w.heap.size ≤ b) ∧ Below w.heap.size w w'
theorem set_ne (w : World) (n i : Nat) (v : Value) {b : Nat} (h : b ≠ n) : (w.setCell ⟨n, i, none⟩ v).heap[b]? = w.heap[b]? := Below.heap_setCell _ _ _ _ h
set_option maxRecDepth 100000 in
set_option maxHeartbeats 400000 in
theorem clone_any (a : Option Addr) (c : Nat) (ps : List Pr) (w : World) (h : PsA w a c ps) (hl : ps.length ≤ 100000) :
    Calls Tryz.prog 64 #[.slice a ps.length c] w (ClPost w ps) := by
  cases a with
  | none =>
    obtain ⟨rfl, rfl⟩ := h.nil rfl
    have H := Lib.hid h
    have hq := nilP_none w
    clear h
    go_enter Tryz.func64, Tryz.ntmps64
    go_wp2
    go_ret
    exact ⟨none, 0, rfl, ⟨H.out, fun _ _ e => by cases e⟩, Below.refl _ _⟩
  | some a =>
    have HO : Hid (kP.Own (w.alloc (.cells #[] 62)) w.heap.size (.slice (some ⟨w.heap.size, 0, none⟩) 0 0) []) := Lib.hid (RowK.Own.new (k := kP) (heap_new w _) (Nat.le_refl _) rfl (Nat.zero_le _))
    have HV := Lib.hid (h.below (below_box w (.cells #[] 62)))
    have HL := Lib.hid hl
    have hq := nilP_some a ps.length c w
    clear h hl
    go_enter Tryz.func64, Tryz.ntmps64
    go_wp2_with (at_builtin; refine RowK.wpList_app (k := kP) rfl (.tmp 5) (.tmp 6) rfl rfl HO.out (some a) ps.length ps c rfl rfl HV.out.v.kP (fun e => by cases e) (by have := HL.out; simp; omega) (by simp) ?_; intro v8 w8 hA; have HA8 := Lib.hid hA; clear hA)
    obtain ⟨oA, gA, kA⟩ := HA8.out
    rw [List.nil_append] at oA
    obtain ⟨a2, c2, rfl⟩ := oA.shape
    have HP : Hid (PsA w8 a2 c2 ps) := Lib.hid ⟨psV_own oA HV.out.v.ok, fun e => by
      subst e
      exact ⟨oA.noneCap, Classical.byContradiction fun hn => by
        obtain ⟨b, off, e, _⟩ := oA.toV hn
        cases e⟩⟩
    have HB : Hid (Below w.heap.size w w8) := Lib.hid ((below_box w (.cells #[] 62)).grown gA (by simp) (fun j hj => (HO.out.lt j hj).1))
    have HN : Hid (∀ b off, a2 = some ⟨b, off, none⟩ → w.heap.size ≤ b) := Lib.hid (fun b off e => by
      subst e
      exact (oA.lt b rfl).1)
    clear oA gA kA
    go_wp2_with fail
    go_ret
    exact ⟨a2, c2, rfl, ⟨HP.out, HN.out⟩, HB.out⟩
def Vt.val (v : Vt) (a : Option Addr) (c : Nat) : Value := .agg #[.int .i64 v.id, .string v.label, .slice a v.ps.length c]
def Eg.val (e : Eg) (a : Option Addr) (c : Nat) : Value := .agg #[.int .i64 e.id, .string e.label, .int .i64 e.fr, .int .i64 e.to, .slice a e.ps.length c]
def OvPost (w : World) (v : Vt) (e : Ending) (w' : World) : Prop := ∃ a c, e = .returned (v.val a c) ∧ (PsA w' a c v.ps ∧ ∀ b off, a = some ⟨b, off, none⟩ → w.heap.size ≤ b) ∧ Below w.heap.size w w'
def OePost (w : World) (v : Eg) (e : Ending) (w' : World) : Prop := ∃ a c, e = .returned (v.val a c) ∧ (PsA w' a c v.ps ∧ ∀ b off, a = some ⟨b, off, none⟩ → w.heap.size ≤ b) ∧ Below w.heap.size w w'
set_option maxRecDepth 100000 in
set_option maxHeartbeats 1000000 in
theorem ownV_any (v : Vt) (a : Option Addr) (c : Nat) (w : World) (h : PsA w a c v.ps) (hl : v.ps.length ≤ 100000) :
    Calls Tryz.prog 27 #[v.val a c] w (OvPost w v) := by
  have HB0 := Lib.hid (((Below.refl w.heap.size w).alloc (Nat.le_refl _) (.cells #[.int .i64 v.id, .string v.label, .slice a v.ps.length c] 30)).alloc (by simp) (.cells #[.int .i64 0, .string ⟨#[]⟩, .slice none 0 0] 30))
  have H := Lib.hid (h.below HB0.out)
  have HX := Lib.hid ((Below.heap_alloc _ (.cells #[.int .i64 0, .string ⟨#[]⟩, .slice none 0 0] 30) w.heap.size (by simp)).trans (heap_new w (.cells #[.int .i64 v.id, .string v.label, .slice a v.ps.length c] 30)))
  have HY := Lib.hid (heap_new2 w (.cells #[.int .i64 v.id, .string v.label, .slice a v.ps.length c] 30) (.cells #[.int .i64 0, .string ⟨#[]⟩, .slice none 0 0] 30))
  have HL := Lib.hid hl
  clear h hl
  unfold Vt.val
  go_enter Tryz.func27, Tryz.ntmps27
  go_wp2_with fail
  refine (clone_any a c v.ps _ H.out HL.out).mono ?_
  rintro e w1 ⟨a1, c1, rfl, ⟨h1, n1⟩, b1⟩
  have x1 := (b1.block w.heap.size (by simp; omega)).trans HX.out
  have y1 := (b1.block (w.heap.size + 1) (by simp)).trans HY.out
  have p0 := cell_of_blk x1 0
  have r0 := cell_of_blk y1 0
  have g0 := frozen_of_blk y1 0
  have p1 := cell_of_blk x1 1
  have r1 := cell_of_blk y1 1
  have g1 := frozen_of_blk y1 1
  have p2 := cell_of_blk x1 2
  have r2 := cell_of_blk y1 2
  have g2 := frozen_of_blk y1 2
  have f9 := frozen_of_blk x1 2
  simp at p0 r0 p1 r1 p2 r2
  have hz : w.heap.size + 1 < w1.heap.size := (Array.getElem?_eq_some_iff.1 y1).1
  have H1 := Lib.hid h1
  have N1 := Lib.hid n1
  have B1 := Lib.hid b1
  have Y1 := Lib.hid y1
  clear h1 n1 b1 x1 y1
  go_wp2_with fail
  refine bodyPost_ret (v := v.val a1 c1) (by simp [results, Tryz.results27, go_sem, Vt.val, r0, r1, r2]) rfl ⟨a1, c1, rfl, ⟨?_, fun b off e => by have := N1.out b off e; simp only [size_alloc] at this; omega⟩, ?_⟩
  · refine ⟨fun hp => ?_, H1.out.nil⟩
    obtain ⟨b, off, e, hat⟩ := H1.out.v hp
    have hlb := N1.out b off e
    simp only [size_alloc] at hlb
    exact ⟨b, off, e, hat.of_block (by rw [set_ne _ _ _ _ (by omega), set_ne _ _ _ _ (by omega), set_ne _ _ _ _ (by omega), set_ne _ _ _ _ (by omega)])⟩
  · exact (((((HB0.out.trans (B1.out.mono (by simp; omega))).setCell (Nat.le_refl _) _).setCell (Nat.le_succ _) _).setCell (Nat.le_succ _) _).setCell (Nat.le_succ _) _)
set_option maxRecDepth 100000 in
set_option maxHeartbeats 1000000 in
theorem ownE_any (v : Eg) (a : Option Addr) (c : Nat) (w : World) (h : PsA w a c v.ps) (hl : v.ps.length ≤ 100000) :
    Calls Tryz.prog 29 #[v.val a c] w (OePost w v) := by
  have HB0 := Lib.hid (((Below.refl w.heap.size w).alloc (Nat.le_refl _) (.cells #[.int .i64 v.id, .string v.label, .int .i64 v.fr, .int .i64 v.to, .slice a v.ps.length c] 32)).alloc (by simp) (.cells #[.int .i64 0, .string ⟨#[]⟩, .int .i64 0, .int .i64 0, .slice none 0 0] 32))
  have H := Lib.hid (h.below HB0.out)
  have HX := Lib.hid ((Below.heap_alloc _ (.cells #[.int .i64 0, .string ⟨#[]⟩, .int .i64 0, .int .i64 0, .slice none 0 0] 32) w.heap.size (by simp)).trans (heap_new w (.cells #[.int .i64 v.id, .string v.label, .int .i64 v.fr, .int .i64 v.to, .slice a v.ps.length c] 32)))
  have HY := Lib.hid (heap_new2 w (.cells #[.int .i64 v.id, .string v.label, .int .i64 v.fr, .int .i64 v.to, .slice a v.ps.length c] 32) (.cells #[.int .i64 0, .string ⟨#[]⟩, .int .i64 0, .int .i64 0, .slice none 0 0] 32))
  have HL := Lib.hid hl
  clear h hl
  unfold Eg.val
  go_enter Tryz.func29, Tryz.ntmps29
  go_wp2_with fail
  refine (clone_any a c v.ps _ H.out HL.out).mono ?_
  rintro e w1 ⟨a1, c1, rfl, ⟨h1, n1⟩, b1⟩
  have x1 := (b1.block w.heap.size (by simp; omega)).trans HX.out
  have y1 := (b1.block (w.heap.size + 1) (by simp)).trans HY.out
  have p0 := cell_of_blk x1 0
  have r0 := cell_of_blk y1 0
  have g0 := frozen_of_blk y1 0
  have p1 := cell_of_blk x1 1
  have r1 := cell_of_blk y1 1
  have g1 := frozen_of_blk y1 1
  have p2 := cell_of_blk x1 2
  have r2 := cell_of_blk y1 2
  have g2 := frozen_of_blk y1 2
  have p3 := cell_of_blk x1 3
  have r3 := cell_of_blk y1 3
  have g3 := frozen_of_blk y1 3
  have p4 := cell_of_blk x1 4
  have r4 := cell_of_blk y1 4
  have g4 := frozen_of_blk y1 4
  have f9 := frozen_of_blk x1 4
  simp at p0 r0 p1 r1 p2 r2 p3 r3 p4 r4
  have hz : w.heap.size + 1 < w1.heap.size := (Array.getElem?_eq_some_iff.1 y1).1
  have H1 := Lib.hid h1
  have N1 := Lib.hid n1
  have B1 := Lib.hid b1
  have Y1 := Lib.hid y1
  clear h1 n1 b1 x1 y1
  go_wp2_with fail
  refine bodyPost_ret (v := v.val a1 c1) (by simp [results, Tryz.results29, go_sem, Eg.val, r0, r1, r2, r3, r4]) rfl ⟨a1, c1, rfl, ⟨?_, fun b off e => by have := N1.out b off e; simp only [size_alloc] at this; omega⟩, ?_⟩
  · refine ⟨fun hp => ?_, H1.out.nil⟩
    obtain ⟨b, off, e, hat⟩ := H1.out.v hp
    have hlb := N1.out b off e
    simp only [size_alloc] at hlb
    exact ⟨b, off, e, hat.of_block (by rw [set_ne _ _ _ _ (by omega), set_ne _ _ _ _ (by omega), set_ne _ _ _ _ (by omega), set_ne _ _ _ _ (by omega), set_ne _ _ _ _ (by omega), set_ne _ _ _ _ (by omega)])⟩
  · exact (((((((HB0.out.trans (B1.out.mono (by simp; omega))).setCell (Nat.le_refl _) _).setCell (Nat.le_succ _) _).setCell (Nat.le_succ _) _).setCell (Nat.le_succ _) _).setCell (Nat.le_succ _) _).setCell (Nat.le_succ _) _)
end Go.Proofs.YtkbmipmegljidaaGreat
