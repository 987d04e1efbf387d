/- Sets: what they are in memory; maps.Clone; New; unseen. Conditions: each contract's own premises. -/
import Derived.Test.YtcghgnncmnoalaaKq5
import Derived.Shelf.SlMaps.Clone
import Derived.Deep.RegionHeld3
namespace Go.Proofs.Ytcghgnncmnoalaa
open Go.RowKit Go.Maps

set_option maxRecDepth 100000 in
set_option maxHeartbeats 2000000 in
/-- maps.Clone -/
theorem mclone_any {w : World} {b n : Nat} {f : Lit → Option Value} (h : mapR w Try.prog 62 b n f) :
    Calls Try.prog 102 #[.map (some b)] w fun e w' => e = .returned (.map (some w.heap.size)) ∧ mapR w' Try.prog 62 w.heap.size n f ∧ Below w.heap.size w w' := by
  obtain ⟨D, ⟨es, clock, hb, F, hs, hD⟩, h2, h3⟩ := h
  have hq := fun w => run_eql_map_nil_sl (P := Try.prog) w 154 _ _ (some b) Try.underlying154
  have HF : Hid (mapR (w.alloc (.map es clock)) Try.prog 62 w.heap.size n f) := Lib.hid ⟨D, ⟨es, clock, heap_new _ _, F, hs, hD⟩, h2, h3⟩
  clear h2 h3 F hs hD
  go_enter Try.func102, Try.ntmps102
  go_wp2
  rw [run_callFunc_extern Try.func134 (by kernel_rfl) (by kernel_rfl) (by kernel_rfl) (e := Extern.MapsClone.clone) (by kernel_rfl), run_maps_clone_sl w 154 hb]
  simp only [Result.andThen]
  rw [Oper.upon_value]
  go_wp2
  rw [run_typeAssert_map_sl _ 154 20 _ _ _ Try.underlying154]
  simp only [Result.andThen]
  rw [Oper.upon_value]
  go_wp2
  go_ret
  exact ⟨rfl, HF.out, below_box w _⟩
/-- what was seen -/
structure Sn where
  word : Nat
  val : ByteArray
  has : Bool
def Sn.v (x : Sn) : Value := .agg #[.int .u64 x.word, .string x.val, .bool x.has]
/-- a text, or none -/
structure Tx where
  val : ByteArray
  has : Bool
def Tx.v (x : Tx) : Value := .agg #[.string x.val, .bool x.has]
/-- a map of keys, as a plain function -/
def MpX {β : Type} (w : World) (b n : Nat) (enc : β → Value) (g : Ky → Option β) : Prop := ∃ F, mapR w Try.prog 62 b n F ∧ ∀ k : Ky, k.Ok → F k.lit = (g k).map enc
theorem MpX.of_block {β : Type} {w w' : World} {b n : Nat} {enc : β → Value} {g : Ky → Option β} (h : MpX w b n enc g) (hb : w'.heap[b]? = w.heap[b]?) : MpX w' b n enc g := by
  obtain ⟨F, h1, h2⟩ := h
  exact ⟨F, h1.of_block hb, h2⟩
theorem MpX.lt {β : Type} {w : World} {b n : Nat} {enc : β → Value} {g : Ky → Option β} (h : MpX w b n enc g) : b < w.heap.size := by
  obtain ⟨F, h1, h2⟩ := h
  exact h1.lt
theorem MpX.map {β : Type} {w : World} {b n : Nat} {enc : β → Value} {g : Ky → Option β} (h : MpX w b n enc g) : ∃ es clock, w.heap[b]? = some (.map es clock) := by
  obtain ⟨F, ⟨D, ⟨es, clock, hb, _⟩, _⟩, _⟩ := h
  exact ⟨es, clock, hb⟩
/-- sets in memory -/
structure StX (w : World) (sb bs bw bm ns nw nm : Nat) (gs : Ky → Option Sn) (gw gm : Ky → Option Tx) : Prop where
  blk : w.heap[sb]? = some (.cells #[.map (some bs), .map (some bw), .map (some bm)] 156)
  sm : MpX w bs ns Sn.v gs
  wm : MpX w bw nw Tx.v gw
  mm : MpX w bm nm Tx.v gm
  n1 : bs ≠ bw
  n2 : bs ≠ bm
  n3 : bw ≠ bm
theorem StX.chg {w w' : World} {sb bs bw bm ns nw nm : Nat} {gs : Ky → Option Sn} {gw gm : Ky → Option Tx} (h : StX w sb bs bw bm ns nw nm gs gw gm) {S : Nat → Prop} (hc : Chg w w' S) (h1 : ¬ S sb) (h2 : ¬ S bs) (h3 : ¬ S bw) (h4 : ¬ S bm) : StX w' sb bs bw bm ns nw nm gs gw gm :=
  ⟨(hc.block _ (Array.getElem?_eq_some_iff.1 h.blk).1 h1).trans h.blk, h.sm.of_block (hc.block _ h.sm.lt h2), h.wm.of_block (hc.block _ h.wm.lt h3), h.mm.of_block (hc.block _ h.mm.lt h4), h.n1, h.n2, h.n3⟩
theorem StX.below {w w' : World} {sb bs bw bm ns nw nm : Nat} {gs : Ky → Option Sn} {gw gm : Ky → Option Tx} (h : StX w sb bs bw bm ns nw nm gs gw gm) (hb : Below w.heap.size w w') : StX w' sb bs bw bm ns nw nm gs gw gm :=
  h.chg (Chg.of_below hb (fun _ => False)) (fun e => e) (fun e => e) (fun e => e) (fun e => e)
theorem MpX.made {β : Type} (w : World) (enc : β → Value) : MpX (w.alloc (.map #[] 0)) w.heap.size 0 enc (fun _ => none) := ⟨fun _ => none, mapR_made w _ _, fun _ _ => rfl⟩
theorem sxNew_close {w w1 w2 w3 w4 : World} {b2 b3 b4 : Nat} (h1 : w1 = w.alloc (.map #[] 0)) (h2 : w2 = w1.alloc (.map #[] 0)) (h3 : w3 = w2.alloc (.map #[] 0)) (e2 : b2 = w1.heap.size) (e3 : b3 = w2.heap.size) (e4 : b4 = w3.heap.size)
    (h4 : w4 = w3.alloc (.cells #[.map (some w.heap.size), .map (some b2), .map (some b3)] 156)) : StX w4 b4 w.heap.size b2 b3 0 0 0 (fun _ => none) (fun _ => none) (fun _ => none) ∧ Below w.heap.size w w4 ∧ w.heap.size ≤ b2 ∧ w.heap.size ≤ b3 ∧ w.heap.size ≤ b4 := by
  have s1 : w1.heap.size = w.heap.size + 1 := by rw [h1]; exact size_alloc _ _
  have s2 : w2.heap.size = w1.heap.size + 1 := by rw [h2]; exact size_alloc _ _
  have s3 : w3.heap.size = w2.heap.size + 1 := by rw [h3]; exact size_alloc _ _
  have g1 : Below w.heap.size w w1 := by rw [h1]; exact below_box w _
  have g2 : Below w1.heap.size w1 w2 := by rw [h2]; exact below_box w1 _
  have g3 : Below w2.heap.size w2 w3 := by rw [h3]; exact below_box w2 _
  have g4 : Below w3.heap.size w3 w4 := by rw [h4]; exact below_box w3 _
  refine ⟨⟨by rw [h4, e4]; exact heap_new _ _, ?_, ?_, ?_, by omega, by omega, by omega⟩, below_then (below_then (below_then g1 g2) g3) g4, by omega, by omega, by omega⟩
  · have : MpX w1 w.heap.size 0 Sn.v (fun _ => none) := by rw [h1]; exact MpX.made w _
    exact ((this.of_block (g2.block _ (by omega))).of_block (g3.block _ (by omega))).of_block (g4.block _ (by omega))
  · have : MpX w2 b2 0 Tx.v (fun _ => none) := by rw [h2, e2]; exact MpX.made w1 _
    exact (this.of_block (g3.block _ (by omega))).of_block (g4.block _ (by omega))
  · have : MpX w3 b3 0 Tx.v (fun _ => none) := by rw [h3, e3]; exact MpX.made w2 _
    exact this.of_block (g4.block _ (by omega))
set_option maxRecDepth 100000 in
theorem sxNew_any (w : World) : Calls Try.prog 31 #[] w fun e w' => ∃ sb bs bw bm, e = .returned (.pointer (some ⟨sb, 0, none⟩)) ∧ w.heap.size ≤ sb ∧ w.heap.size ≤ bs ∧ w.heap.size ≤ bw ∧ w.heap.size ≤ bm ∧ StX w' sb bs bw bm 0 0 0 (fun _ => none) (fun _ => none) (fun _ => none) ∧ Below w.heap.size w w' := by
  have hmm := @run_makeMap Try.prog
  go_enter Try.func31, Try.ntmps31
  go_wp2_with fail
  go_ret
  obtain ⟨h1, h2, h3, h4, h5⟩ := sxNew_close (w := w) rfl rfl rfl (b2 := w.heap.size + 1) (b3 := w.heap.size + 1 + 1) (b4 := w.heap.size + 1 + 1 + 1) (by rw [size_alloc]) (by rw [size_alloc, size_alloc]) (by rw [size_alloc, size_alloc, size_alloc]) rfl
  exact ⟨_, w.heap.size, _, _, rfl, h5, Nat.le_refl _, h3, h4, h1, h2⟩
def Sn.zero : Value := .agg #[.int .u64 0, .string ⟨#[]⟩, .bool false]
def Tx.zero : Value := .agg #[.string ⟨#[]⟩, .bool false]
theorem zeroSn (w : World) : (zeroValue 64).run Try.prog w = .ok Sn.zero w := Try.zeroValue64 w
theorem zeroTx (w : World) : (zeroValue 159).run Try.prog w = .ok Tx.zero w := Try.zeroValue159 w
theorem MpX.look {β : Type} {w : World} {b n : Nat} {enc : β → Value} {g : Ky → Option β} (h : MpX w b n enc g) {t e : TypeId} (ht : Try.prog.underlying t = some (.map 62 e)) {z : Value} (hz : (zeroValue e).run Try.prog w = .ok z w) {k : Ky} (hk : k.Ok) :
    (Instr.lookup t (.map (some b)) (.agg #[.int .i64 k.kind, .int .i64 k.a, .int .i64 k.b, .string k.s]) true).run Try.prog w = .ok (.tuple #[((g k).map enc).getD z, .bool (g k).isSome]) w := by
  obtain ⟨F, h1, h2⟩ := h
  have := h1.look_ok lawKey ht hz (keyK hk)
  rw [h2 k hk] at this
  rw [show (g k).isSome = ((g k).map enc).isSome by cases g k <;> rfl]
  exact this
theorem MpX.look1 {β : Type} {w : World} {b n : Nat} {enc : β → Value} {g : Ky → Option β} (h : MpX w b n enc g) {t e : TypeId} (ht : Try.prog.underlying t = some (.map 62 e)) {z : Value} (hz : (zeroValue e).run Try.prog w = .ok z w) {k : Ky} (hk : k.Ok) :
    (Instr.lookup t (.map (some b)) (.agg #[.int .i64 k.kind, .int .i64 k.a, .int .i64 k.b, .string k.s]) false).run Try.prog w = .ok (((g k).map enc).getD z) w := by
  obtain ⟨F, h1, h2⟩ := h
  have := h1.look lawKey ht hz (keyK hk)
  rw [h2 k hk] at this
  exact this
end Go.Proofs.Ytcghgnncmnoalaa
