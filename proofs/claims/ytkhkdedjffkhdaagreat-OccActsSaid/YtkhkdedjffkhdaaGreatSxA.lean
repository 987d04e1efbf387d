/- Sets: what they are in memory; maps.Clone; New; unseen. Conditions: each contract's own premises. Sets: unseen. Conditions: each contract's own premises. Sets: Seen. Conditions: each contract's own premises. Sets: Get. Conditions: each contract's own premises. Sets: See, Put. Conditions: each contract's own premises. Sets: Put, Mark, Back, Reads. Conditions: each contract's own premises. -/
import Derived.Test.YtkhkdedjffkhdaaGreatKq5
import Derived.Shelf.SlMaps.Clone
import Derived.Deep.RegionHeld3
import Derived.BigQuiet
namespace Go.Proofs.YtkhkdedjffkhdaaGreat
open Go.RowKit Go.Maps

set_option maxRecDepth 100000 in
set_option maxHeartbeats 2000000 in
/-- maps.Clone -/
theorem mclone_any {w : World} {b n : Nat} {f : Lit → Option Value} (h : mapR w Tryz.prog 47 b n f) :
    Calls Tryz.prog 93 #[.map (some b)] w fun e w' => e = .returned (.map (some w.heap.size)) ∧ mapR w' Tryz.prog 47 w.heap.size n f ∧ Below w.heap.size w w' := by
  obtain ⟨D, ⟨es, clock, hb, F, hs, hD⟩, h2, h3⟩ := h
  have hq := fun w => run_eql_map_nil_sl (P := Tryz.prog) w 107 _ _ (some b) Tryz.underlying107
  have HF : Hid (mapR (w.alloc (.map es clock)) Tryz.prog 47 w.heap.size n f) := Lib.hid ⟨D, ⟨es, clock, heap_new _ _, F, hs, hD⟩, h2, h3⟩
  clear h2 h3 F hs hD
  go_enter Tryz.func93, Tryz.ntmps93
  go_wp2
  rw [run_callFunc_extern Tryz.func112 (by kernel_rfl) (by kernel_rfl) (by kernel_rfl) (e := Extern.MapsClone.clone) (by kernel_rfl), run_maps_clone_sl w 107 hb]
  simp only [Result.andThen]
  rw [Oper.upon_value]
  go_wp2
  rw [run_typeAssert_map_sl _ 107 20 _ _ _ Tryz.underlying107]
  simp only [Result.andThen]
  rw [Oper.upon_value]
  go_wp2
  go_ret
  exact ⟨rfl, HF.out, below_box w _⟩
/-- what was seen -/
structure Sn where
  word : Nat
  val : ByteArray
  has : Bool
def Sn.v (x : Sn) : Value := .agg #[.int .u64 x.word, .string x.val, .bool x.has]
/-- a text, or none -/
structure Tx where
  val : ByteArray
  has : Bool
def Tx.v (x : Tx) : Value := .agg #[.string x.val, .bool x.has]
/-- a map of keys, as a plain function -/
def MpX {β : Type} (w : World) (b n : Nat) (enc : β → Value) (g : Ky → Option β) : Prop := ∃ F, mapR w Tryz.prog 47 b n F ∧ ∀ k : Ky, k.Ok → F k.lit = (g k).map enc
theorem MpX.of_block {β : Type} {w w' : World} {b n : Nat} {enc : β → Value} {g : Ky → Option β} (h : MpX w b n enc g) (hb : w'.heap[b]? = w.heap[b]?) : MpX w' b n enc g := by
  obtain ⟨F, h1, h2⟩ := h
  exact ⟨F, h1.of_block hb, h2⟩
theorem MpX.lt {β : Type} {w : World} {b n : Nat} {enc : β → Value} {g : Ky → Option β} (h : MpX w b n enc g) : b < w.heap.size := by
  obtain ⟨F, h1, h2⟩ := h
  exact h1.lt
theorem MpX.map {β : Type} {w : World} {b n : Nat} {enc : β → Value} {g : Ky → Option β} (h : MpX w b n enc g) : ∃ es clock, w.heap[b]? = some (.map es clock) := by
  obtain ⟨F, ⟨D, ⟨es, clock, hb, _⟩, _⟩, _⟩ := h
  exact ⟨es, clock, hb⟩
/-- sets in memory -/
structure StX (w : World) (sb bs bw bm ns nw nm : Nat) (gs : Ky → Option Sn) (gw gm : Ky → Option Tx) : Prop where
  blk : w.heap[sb]? = some (.cells #[.map (some bs), .map (some bw), .map (some bm)] 109)
  sm : MpX w bs ns Sn.v gs
  wm : MpX w bw nw Tx.v gw
  mm : MpX w bm nm Tx.v gm
  n1 : bs ≠ bw
  n2 : bs ≠ bm
  n3 : bw ≠ bm
theorem StX.chg {w w' : World} {sb bs bw bm ns nw nm : Nat} {gs : Ky → Option Sn} {gw gm : Ky → Option Tx} (h : StX w sb bs bw bm ns nw nm gs gw gm) {S : Nat → Prop} (hc : Chg w w' S) (h1 : ¬ S sb) (h2 : ¬ S bs) (h3 : ¬ S bw) (h4 : ¬ S bm) : StX w' sb bs bw bm ns nw nm gs gw gm :=
  ⟨(hc.block _ (Array.getElem?_eq_some_iff.1 h.blk).1 h1).trans h.blk, h.sm.of_block (hc.block _ h.sm.lt h2), h.wm.of_block (hc.block _ h.wm.lt h3), h.mm.of_block (hc.block _ h.mm.lt h4), h.n1, h.n2, h.n3⟩
theorem StX.below {w w' : World} {sb bs bw bm ns nw nm : Nat} {gs : Ky → Option Sn} {gw gm : Ky → Option Tx} (h : StX w sb bs bw bm ns nw nm gs gw gm) (hb : Below w.heap.size w w') : StX w' sb bs bw bm ns nw nm gs gw gm :=
  h.chg (Chg.of_below hb (fun _ => False)) (fun e => e) (fun e => e) (fun e => e) (fun e => e)
theorem MpX.made {β : Type} (w : World) (enc : β → Value) : MpX (w.alloc (.map #[] 0)) w.heap.size 0 enc (fun _ => none) := ⟨fun _ => none, mapR_made w _ _, fun _ _ => rfl⟩
theorem sxNew_close {w w1 w2 w3 w4 : World} {b2 b3 b4 : Nat} (h1 : w1 = w.alloc (.map #[] 0)) (h2 : w2 = w1.alloc (.map #[] 0)) (h3 : w3 = w2.alloc (.map #[] 0)) (e2 : b2 = w1.heap.size) (e3 : b3 = w2.heap.size) (e4 : b4 = w3.heap.size)
    (h4 : w4 = w3.alloc (.cells #[.map (some w.heap.size), .map (some b2), .map (some b3)] 109)) : StX w4 b4 w.heap.size b2 b3 0 0 0 (fun _ => none) (fun _ => none) (fun _ => none) ∧ Below w.heap.size w w4 ∧ w.heap.size ≤ b2 ∧ w.heap.size ≤ b3 ∧ w.heap.size ≤ b4 := by
  have s1 : w1.heap.size = w.heap.size + 1 := by rw [h1]; exact size_alloc _ _
  have s2 : w2.heap.size = w1.heap.size + 1 := by rw [h2]; exact size_alloc _ _
  have s3 : w3.heap.size = w2.heap.size + 1 := by rw [h3]; exact size_alloc _ _
  have g1 : Below w.heap.size w w1 := by rw [h1]; exact below_box w _
  have g2 : Below w1.heap.size w1 w2 := by rw [h2]; exact below_box w1 _
  have g3 : Below w2.heap.size w2 w3 := by rw [h3]; exact below_box w2 _
  have g4 : Below w3.heap.size w3 w4 := by rw [h4]; exact below_box w3 _
  refine ⟨⟨by rw [h4, e4]; exact heap_new _ _, ?_, ?_, ?_, by omega, by omega, by omega⟩, below_then (below_then (below_then g1 g2) g3) g4, by omega, by omega, by omega⟩
  · have : MpX w1 w.heap.size 0 Sn.v (fun _ => none) := by rw [h1]; exact MpX.made w _
    exact ((this.of_block (g2.block _ (by omega))).of_block (g3.block _ (by omega))).of_block (g4.block _ (by omega))
  · have : MpX w2 b2 0 Tx.v (fun _ => none) := by rw [h2, e2]; exact MpX.made w1 _
    exact (this.of_block (g3.block _ (by omega))).of_block (g4.block _ (by omega))
  · have : MpX w3 b3 0 Tx.v (fun _ => none) := by rw [h3, e3]; exact MpX.made w2 _
    exact this.of_block (g4.block _ (by omega))
set_option maxRecDepth 100000 in
theorem sxNew_any (w : World) : Calls Tryz.prog 25 #[] w fun e w' => ∃ sb bs bw bm, e = .returned (.pointer (some ⟨sb, 0, none⟩)) ∧ w.heap.size ≤ sb ∧ w.heap.size ≤ bs ∧ w.heap.size ≤ bw ∧ w.heap.size ≤ bm ∧ StX w' sb bs bw bm 0 0 0 (fun _ => none) (fun _ => none) (fun _ => none) ∧ Below w.heap.size w w' := by
  have hmm := @run_makeMap Tryz.prog
  go_enter Tryz.func25, Tryz.ntmps25
  go_wp2_with fail
  go_ret
  obtain ⟨h1, h2, h3, h4, h5⟩ := sxNew_close (w := w) rfl rfl rfl (b2 := w.heap.size + 1) (b3 := w.heap.size + 1 + 1) (b4 := w.heap.size + 1 + 1 + 1) (by rw [size_alloc]) (by rw [size_alloc, size_alloc]) (by rw [size_alloc, size_alloc, size_alloc]) rfl
  exact ⟨_, w.heap.size, _, _, rfl, h5, Nat.le_refl _, h3, h4, h1, h2⟩
def Sn.zero : Value := .agg #[.int .u64 0, .string ⟨#[]⟩, .bool false]
def Tx.zero : Value := .agg #[.string ⟨#[]⟩, .bool false]
theorem zeroSn (w : World) : (zeroValue 96).run Tryz.prog w = .ok Sn.zero w := Tryz.zeroValue96 w
theorem zeroTx (w : World) : (zeroValue 105).run Tryz.prog w = .ok Tx.zero w := Tryz.zeroValue105 w
theorem MpX.look {β : Type} {w : World} {b n : Nat} {enc : β → Value} {g : Ky → Option β} (h : MpX w b n enc g) {t e : TypeId} (ht : Tryz.prog.underlying t = some (.map 47 e)) {z : Value} (hz : (zeroValue e).run Tryz.prog w = .ok z w) {k : Ky} (hk : k.Ok) :
    (Instr.lookup t (.map (some b)) (.agg #[.int .i64 k.kind, .int .i64 k.a, .int .i64 k.b, .string k.s]) true).run Tryz.prog w = .ok (.tuple #[((g k).map enc).getD z, .bool (g k).isSome]) w := by
  obtain ⟨F, h1, h2⟩ := h
  have := h1.look_ok lawKey ht hz (keyK hk)
  rw [h2 k hk] at this
  rw [show (g k).isSome = ((g k).map enc).isSome by cases g k <;> rfl]
  exact this
theorem MpX.look1 {β : Type} {w : World} {b n : Nat} {enc : β → Value} {g : Ky → Option β} (h : MpX w b n enc g) {t e : TypeId} (ht : Tryz.prog.underlying t = some (.map 47 e)) {z : Value} (hz : (zeroValue e).run Tryz.prog w = .ok z w) {k : Ky} (hk : k.Ok) :
    (Instr.lookup t (.map (some b)) (.agg #[.int .i64 k.kind, .int .i64 k.a, .int .i64 k.b, .string k.s]) false).run Tryz.prog w = .ok (((g k).map enc).getD z) w := by
  obtain ⟨F, h1, h2⟩ := h
  have := h1.look lawKey ht hz (keyK hk)
  rw [h2 k hk] at this
  exact this
end Go.Proofs.YtkhkdedjffkhdaaGreat
namespace Go.Proofs.YtkhkdedjffkhdaaGreat
open Go.RowKit Go.Maps

theorem sn_cases (o : Option Sn) : ∃ (x : Sn) (q : Bool), ((o.map Sn.v).getD Sn.zero = .agg #[.int .u64 x.word, .string x.val, .bool x.has]) ∧ o.isSome = q ∧ (o = none → x = ⟨0, ⟨#[]⟩, false⟩) ∧ (∀ y, o = some y → x = y) := by
  cases o with
  | none => exact ⟨⟨0, ⟨#[]⟩, false⟩, false, rfl, rfl, fun _ => rfl, fun _ h => (by cases h)⟩
  | some x => exact ⟨x, true, rfl, rfl, fun h => (by cases h), fun y h => by injection h⟩
set_option maxRecDepth 100000 in
set_option maxHeartbeats 1000000 in
theorem unseen_any {w : World} {sb bs bw bm ns nw nm : Nat} {gs : Ky → Option Sn} {gw gm : Ky → Option Tx} (h : StX w sb bs bw bm ns nw nm gs gw gm) {k : Ky} (hk : k.Ok) :
    Calls Tryz.prog 40 #[.pointer (some ⟨sb, 0, none⟩), .agg #[.int .i64 k.kind, .int .i64 k.a, .int .i64 k.b, .string k.s]] w fun e w' => e = .returned (.bool (!(gs k).isSome)) ∧ Below w.heap.size w w' := by
  obtain ⟨W, hW⟩ : ∃ W, w.alloc (.cells #[.int .i64 k.kind, .int .i64 k.a, .int .i64 k.b, .string k.s] 47) = W := ⟨_, rfl⟩
  obtain ⟨kb, hkb⟩ : ∃ x, x = w.heap.size := ⟨_, rfl⟩
  have bW : Below w.heap.size w W := by rw [← hW]; exact below_box _ _
  have eW : W.heap[kb]? = some (.cells #[.int .i64 k.kind, .int .i64 k.a, .int .i64 k.b, .string k.s] 47) := by rw [← hW, hkb]; exact heap_new _ _
  obtain ⟨x, q, hv, hq, _, _⟩ := sn_cases (gs k)
  rw [hq]
  have HS : Hid (∀ u : World, Below W.heap.size W u → u.cell? ⟨sb, 0, none⟩ = some (.map (some bs)) ∧ u.cell? ⟨kb, 0, none⟩ = some (.int .i64 k.kind) ∧ u.cell? ⟨kb, 1, none⟩ = some (.int .i64 k.a) ∧ u.cell? ⟨kb, 2, none⟩ = some (.int .i64 k.b) ∧ u.cell? ⟨kb, 3, none⟩ = some (.string k.s) ∧
      (Instr.lookup 106 (.map (some bs)) (.agg #[.int .i64 k.kind, .int .i64 k.a, .int .i64 k.b, .string k.s]) true).run Tryz.prog u = .ok (.tuple #[.agg #[.int .u64 x.word, .string x.val, .bool x.has], .bool q]) u) := Lib.hid (fun u hu => by
    have h2 := (h.below bW).below hu
    have e2 := (hu.block _ (Array.getElem?_eq_some_iff.1 eW).1).trans eW
    have hl := h2.sm.look Tryz.underlying106 (zeroSn u) hk
    rw [hv, hq] at hl
    exact ⟨by simpa using cell_of_blk h2.blk 0, by simpa using cell_of_blk e2 0, by simpa using cell_of_blk e2 1, by simpa using cell_of_blk e2 2, by simpa using cell_of_blk e2 3, hl⟩)
  have HB := Lib.hid bW
  have HW := Lib.hid hW
  have HKB := Lib.hid hkb
  clear h hk bW eW hW hkb hv hq
  go_enter Tryz.func40, Tryz.ntmps40
  go_upto_region 1 with fail
  rw [HW.out, ← HKB.out]
  refine wp_region_held_drew (S := (fun w' : World => w'.cell? ⟨sb, 0, none⟩ = some (.map (some bs)) ∧ w'.cell? ⟨kb, 0, none⟩ = some (.int .i64 k.kind) ∧ w'.cell? ⟨kb, 1, none⟩ = some (.int .i64 k.a) ∧ w'.cell? ⟨kb, 2, none⟩ = some (.int .i64 k.b) ∧ w'.cell? ⟨kb, 3, none⟩ = some (.string k.s) ∧ (Instr.lookup 106 (.map (some bs)) (.agg #[.int .i64 k.kind, .int .i64 k.a, .int .i64 k.b, .string k.s]) true).run Tryz.prog w' = .ok (.tuple #[.agg #[.int .u64 x.word, .string x.val, .bool x.has], .bool q]) w')) (by kernel_rfl) (HS.out _ (below_drewN (Below.refl _ _) 1)) (fun hHeld => ?_)
  obtain ⟨X, hGen⟩ : ∃ u, u = World.drew W := ⟨_, rfl⟩
  rw [← hGen] at hHeld ⊢
  have HBX : Hid (Below W.heap.size W X) := Lib.hid (by rw [hGen]; exact below_drewN (Below.refl _ _) 1)
  clear hGen
  refine wpAnyH_take (i := 0) (oi := ⟨some 8, _, _, _, _, _⟩) (v := ?vvpa1) rfl (by kernel_rfl) (by kernel_rfl) (by kernel_rfl) (fun _ _ _ h => h) (Or.inl ⟨by rfl, ?yypa1⟩) hHeld ?rrpa1
  case yypa1 => (intro wq hSw; (try dsimp only at hSw); go_simp; first | done | with_reducible rfl)
  simp only [Act.put, List.setIfInBounds_toArray, List.set_cons_zero, List.set_cons_succ]
  refine wpAnyH_take (i := 1) (oi := ⟨some 9, _, _, _, _, _⟩) (v := ?vvpa2) rfl (by kernel_rfl) (by kernel_rfl) (by kernel_rfl) (fun _ _ _ h => h) (Or.inl ⟨by rfl, ?yypa2⟩) hHeld ?rrpa2
  case yypa2 => (intro wq hSw; (try dsimp only at hSw); go_simp; first | done | with_reducible rfl)
  simp only [Act.put, List.setIfInBounds_toArray, List.set_cons_zero, List.set_cons_succ]
  refine wpAnyH_take (i := 2) (oi := ⟨some 10, _, _, _, _, _⟩) (v := ?vvpa3) rfl (by kernel_rfl) (by kernel_rfl) (by kernel_rfl) (fun _ _ _ h => h) (Or.inl ⟨by rfl, ?yypa3⟩) hHeld ?rrpa3
  case yypa3 => (intro wq hSw; (try dsimp only at hSw); go_simp; first | done | with_reducible rfl)
  simp only [Act.put, List.setIfInBounds_toArray, List.set_cons_zero, List.set_cons_succ]
  refine wpAnyH_take (i := 3) (oi := ⟨some 11, _, _, _, _, _⟩) (v := ?vvpa4) rfl (by kernel_rfl) (by kernel_rfl) (by kernel_rfl) (fun _ _ _ h => h) (Or.inl ⟨by rfl, ?yypa4⟩) hHeld ?rrpa4
  case yypa4 => (intro wq hSw; (try dsimp only at hSw); go_simp; first | done | with_reducible rfl)
  simp only [Act.put, List.setIfInBounds_toArray, List.set_cons_zero, List.set_cons_succ]
  refine wpAnyH_take (i := 4) (oi := ⟨some 12, _, _, _, _, _⟩) (v := ?vvpa5) rfl (by kernel_rfl) (by kernel_rfl) (by kernel_rfl) (fun _ _ _ h => h) (Or.inl ⟨by rfl, ?yypa5⟩) hHeld ?rrpa5
  case yypa5 => (intro wq hSw; (try dsimp only at hSw); go_simp; first | done | with_reducible rfl)
  simp only [Act.put, List.setIfInBounds_toArray, List.set_cons_zero, List.set_cons_succ]
  refine wpAnyH_take (i := 5) (oi := ⟨some 13, _, _, _, _, _⟩) (v := ?vvpa6) rfl (by kernel_rfl) (by kernel_rfl) (by kernel_rfl) (fun _ _ _ h => h) (Or.inl ⟨by rfl, ?yypa6⟩) hHeld ?rrpa6
  case yypa6 => (intro wq hSw; (try dsimp only at hSw); go_simp; first | done | with_reducible rfl)
  simp only [Act.put, List.setIfInBounds_toArray, List.set_cons_zero, List.set_cons_succ]
  refine wpAnyH_take (i := 6) (oi := ⟨some 7, _, _, _, _, _⟩) (v := ?vvpa7) rfl (by kernel_rfl) (by kernel_rfl) (by kernel_rfl) (fun _ _ _ h => h) (Or.inl ⟨by rfl, ?yypa7⟩) hHeld ?rrpa7
  case yypa7 => (intro wq hSw; (try dsimp only at hSw); go_simp; first | done | with_reducible rfl)
  simp only [Act.put, List.setIfInBounds_toArray, List.set_cons_zero, List.set_cons_succ]
  refine wpAnyH_take (i := 7) (oi := ⟨some 14, _, _, _, _, _⟩) (v := ?vvpa8) rfl (by kernel_rfl) (by kernel_rfl) (by kernel_rfl) (fun _ _ _ h => h) (Or.inl ⟨by rfl, ?yypa8⟩) hHeld ?rrpa8
  case yypa8 => (intro wq hSw; (try dsimp only at hSw); go_simp; first | done | with_reducible rfl)
  simp only [Act.put, List.setIfInBounds_toArray, List.set_cons_zero, List.set_cons_succ]
  refine wpAnyH_take (i := 8) (oi := ⟨some 15, _, _, _, _, _⟩) (v := ?vvpa9) rfl (by kernel_rfl) (by kernel_rfl) (by kernel_rfl) (fun _ _ _ h => h) (Or.inl ⟨by rfl, ?yypa9⟩) hHeld ?rrpa9
  case yypa9 => (intro wq hSw; (try dsimp only at hSw); go_simp; first | done | with_reducible rfl)
  simp only [Act.put, List.setIfInBounds_toArray, List.set_cons_zero, List.set_cons_succ]
  refine wpAnyH_ready (rs := [9]) (by kernel_rfl) (by simp) ?_
  refine AllReadyH.cons (o := ⟨some 5, _, _, _, _, _⟩) rfl (fun K hK => ?_) AllReadyH.nil
  go_simp
  obtain ⟨n5, hn5⟩ : ∃ u, u = X.alloc (.cells #[.int .u64 0, .string ⟨#[]⟩, .bool false] 96) := ⟨_, rfl⟩
  obtain ⟨g5, hg5⟩ : ∃ g, g = X.heap.size := ⟨_, rfl⟩
  rw [← hn5, ← hg5]
  have HB5 : Hid (Below W.heap.size W n5) := Lib.hid (by rw [hn5]; exact below_then HBX.out (below_box _ _))
  have E5 : Hid (n5.heap[g5]? = some (.cells #[.int .u64 0, .string ⟨#[]⟩, .bool false] 96)) := Lib.hid (by rw [hn5, hg5]; exact heap_new _ _)
  have L5 : Hid (W.heap.size ≤ g5) := Lib.hid (by rw [hg5]; exact HBX.out.size)
  have z0 := cell_of_blk E5.out 0
  have z1 := cell_of_blk E5.out 1
  have z2 := cell_of_blk E5.out 2
  have y0 := frozen_of_blk E5.out 0
  have y1 := frozen_of_blk E5.out 1
  have y2 := frozen_of_blk E5.out 2
  simp at z0 z1 z2
  clear hn5 hg5
  refine hK.out _ _ ?sspa10 (fun hHeld => ?_)
  case sspa10 => (exact HS.out _ HB5.out)
  clear hK K
  try simp only [Act.put, List.setIfInBounds_toArray, List.set_cons_zero, List.set_cons_succ]
  refine wpAnyH_ready (rs := [10]) (by kernel_rfl) (by simp) ?_
  refine AllReadyH.cons (o := ⟨none, _, _, _, _, _⟩) rfl (fun K hK => ?_) AllReadyH.nil
  go_simp
  obtain ⟨U, hU⟩ : ∃ u, u = ((n5.setCell ⟨g5, 0, none⟩ (.int .u64 x.word)).setCell ⟨g5, 1, none⟩ (.string x.val)).setCell ⟨g5, 2, none⟩ (.bool x.has) := ⟨_, rfl⟩
  rw [← hU]
  have HBU : Hid (Below W.heap.size W U) := Lib.hid (by rw [hU]; exact ((HB5.out.setCell (p := ⟨g5, 0, none⟩) L5.out _).setCell (p := ⟨g5, 1, none⟩) L5.out _).setCell (p := ⟨g5, 2, none⟩) L5.out _)
  clear hU z0 z1 z2 y0 y1 y2
  refine hK.out _ _ ?sspa11 (fun hHeld => ?_)
  case sspa11 => (exact HS.out _ HBU.out)
  clear hK K
  try simp only [Act.put, List.setIfInBounds_toArray, List.set_cons_zero, List.set_cons_succ]
  refine wpAnyH_take (i := 11) (oi := ⟨some 6, _, _, _, _, _⟩) (v := ?vvpa12) rfl (by kernel_rfl) (by kernel_rfl) (by kernel_rfl) (fun _ _ _ h => h) (Or.inl ⟨by rfl, ?yypa12⟩) hHeld ?rrpa12
  case yypa12 => (intro wq hSw; (try dsimp only at hSw); go_simp; first | done | with_reducible rfl)
  simp only [Act.put, List.setIfInBounds_toArray, List.set_cons_zero, List.set_cons_succ]
  refine wpAnyH_done (by kernel_rfl) ?_ _
  clear hHeld
  go_wp2_with fail
  go_ret
  exact ⟨rfl, below_then HB.out HBU.out⟩
end Go.Proofs.YtkhkdedjffkhdaaGreat
namespace Go.Proofs.YtkhkdedjffkhdaaGreat
open Go.RowKit Go.Maps

set_option maxRecDepth 100000 in
set_option maxHeartbeats 1000000 in
theorem sxSeen_any {w : World} {sb bs bw bm ns nw nm : Nat} {gs : Ky → Option Sn} {gw gm : Ky → Option Tx} (h : StX w sb bs bw bm ns nw nm gs gw gm) {k : Ky} (hk : k.Ok) :
    Calls Tryz.prog 36 #[.pointer (some ⟨sb, 0, none⟩), .agg #[.int .i64 k.kind, .int .i64 k.a, .int .i64 k.b, .string k.s]] w fun e w' => e = .returned (.tuple #[((gs k).map Sn.v).getD Sn.zero, .bool (gs k).isSome]) ∧ Below w.heap.size w w' := by
  obtain ⟨W, hW⟩ : ∃ W, (w.alloc (.cells #[.int .i64 k.kind, .int .i64 k.a, .int .i64 k.b, .string k.s] 47)).alloc (.cells #[.int .u64 0, .string ⟨#[]⟩, .bool false] 96) = W := ⟨_, rfl⟩
  obtain ⟨kb, hkb⟩ : ∃ x, x = w.heap.size := ⟨_, rfl⟩
  obtain ⟨rb, hrb⟩ : ∃ x, x = w.heap.size + 1 := ⟨_, rfl⟩
  have bW : Below w.heap.size w W := by rw [← hW]; exact below_then (below_box _ _) (below_box _ _)
  have eW : W.heap[kb]? = some (.cells #[.int .i64 k.kind, .int .i64 k.a, .int .i64 k.b, .string k.s] 47) := by rw [← hW, hkb, Below.heap_alloc _ _ _ (by rw [size_alloc]; omega)]; exact heap_new _ _
  have eR : W.heap[rb]? = some (.cells #[.int .u64 0, .string ⟨#[]⟩, .bool false] 96) := by rw [← hW, hrb]; have := heap_new (w.alloc (.cells #[.int .i64 k.kind, .int .i64 k.a, .int .i64 k.b, .string k.s] 47)) (.cells #[.int .u64 0, .string ⟨#[]⟩, .bool false] 96); rwa [size_alloc] at this
  obtain ⟨x, q, hv, hq, _, _⟩ := sn_cases (gs k)
  rw [hq, hv]
  have HS : Hid (∀ u : World, Below W.heap.size W u → u.cell? ⟨sb, 0, none⟩ = some (.map (some bs)) ∧ u.cell? ⟨kb, 0, none⟩ = some (.int .i64 k.kind) ∧ u.cell? ⟨kb, 1, none⟩ = some (.int .i64 k.a) ∧ u.cell? ⟨kb, 2, none⟩ = some (.int .i64 k.b) ∧ u.cell? ⟨kb, 3, none⟩ = some (.string k.s) ∧
      (Instr.lookup 106 (.map (some bs)) (.agg #[.int .i64 k.kind, .int .i64 k.a, .int .i64 k.b, .string k.s]) true).run Tryz.prog u = .ok (.tuple #[.agg #[.int .u64 x.word, .string x.val, .bool x.has], .bool q]) u) := Lib.hid (fun u hu => by
    have h2 := (h.below bW).below hu
    have e2 := (hu.block _ (Array.getElem?_eq_some_iff.1 eW).1).trans eW
    have hl := h2.sm.look Tryz.underlying106 (zeroSn u) hk
    rw [hv, hq] at hl
    exact ⟨by simpa using cell_of_blk h2.blk 0, by simpa using cell_of_blk e2 0, by simpa using cell_of_blk e2 1, by simpa using cell_of_blk e2 2, by simpa using cell_of_blk e2 3, hl⟩)
  have HR : Hid (∀ u : World, Below W.heap.size W u → u.heap[rb]? = some (.cells #[.int .u64 0, .string ⟨#[]⟩, .bool false] 96)) := Lib.hid (fun u hu => (hu.block _ (Array.getElem?_eq_some_iff.1 eR).1).trans eR)
  have HB := Lib.hid bW
  have HW := Lib.hid hW
  have HKB := Lib.hid (And.intro hkb hrb)
  have HLR : Hid (w.heap.size ≤ rb) := Lib.hid (by omega)
  clear h hk bW eW hW hkb hrb hv hq eR
  go_enter Tryz.func36, Tryz.ntmps36
  go_upto_region 1 with fail
  rw [HW.out, ← HKB.out.2, ← HKB.out.1]
  refine wp_region_held_drew (S := (fun w' : World => w'.cell? ⟨sb, 0, none⟩ = some (.map (some bs)) ∧ w'.cell? ⟨kb, 0, none⟩ = some (.int .i64 k.kind) ∧ w'.cell? ⟨kb, 1, none⟩ = some (.int .i64 k.a) ∧ w'.cell? ⟨kb, 2, none⟩ = some (.int .i64 k.b) ∧ w'.cell? ⟨kb, 3, none⟩ = some (.string k.s) ∧ (Instr.lookup 106 (.map (some bs)) (.agg #[.int .i64 k.kind, .int .i64 k.a, .int .i64 k.b, .string k.s]) true).run Tryz.prog w' = .ok (.tuple #[.agg #[.int .u64 x.word, .string x.val, .bool x.has], .bool q]) w')) (by kernel_rfl) (HS.out _ (below_drewN (Below.refl _ _) 1)) (fun hHeld => ?_)
  obtain ⟨X, hGen⟩ : ∃ u, u = World.drew W := ⟨_, rfl⟩
  rw [← hGen] at hHeld ⊢
  have HBX : Hid (Below W.heap.size W X) := Lib.hid (by rw [hGen]; exact below_drewN (Below.refl _ _) 1)
  clear hGen
  refine wpAnyH_take (i := 0) (oi := ⟨some 9, _, _, _, _, _⟩) (v := ?vvpb1) rfl (by kernel_rfl) (by kernel_rfl) (by kernel_rfl) (fun _ _ _ h => h) (Or.inl ⟨by rfl, ?yypb1⟩) hHeld ?rrpb1
  case yypb1 => (intro wq hSw; (try dsimp only at hSw); go_simp; first | done | with_reducible rfl)
  simp only [Act.put, List.setIfInBounds_toArray, List.set_cons_zero, List.set_cons_succ]
  refine wpAnyH_take (i := 1) (oi := ⟨some 10, _, _, _, _, _⟩) (v := ?vvpb2) rfl (by kernel_rfl) (by kernel_rfl) (by kernel_rfl) (fun _ _ _ h => h) (Or.inl ⟨by rfl, ?yypb2⟩) hHeld ?rrpb2
  case yypb2 => (intro wq hSw; (try dsimp only at hSw); go_simp; first | done | with_reducible rfl)
  simp only [Act.put, List.setIfInBounds_toArray, List.set_cons_zero, List.set_cons_succ]
  refine wpAnyH_take (i := 2) (oi := ⟨some 11, _, _, _, _, _⟩) (v := ?vvpb3) rfl (by kernel_rfl) (by kernel_rfl) (by kernel_rfl) (fun _ _ _ h => h) (Or.inl ⟨by rfl, ?yypb3⟩) hHeld ?rrpb3
  case yypb3 => (intro wq hSw; (try dsimp only at hSw); go_simp; first | done | with_reducible rfl)
  simp only [Act.put, List.setIfInBounds_toArray, List.set_cons_zero, List.set_cons_succ]
  refine wpAnyH_take (i := 3) (oi := ⟨some 12, _, _, _, _, _⟩) (v := ?vvpb4) rfl (by kernel_rfl) (by kernel_rfl) (by kernel_rfl) (fun _ _ _ h => h) (Or.inl ⟨by rfl, ?yypb4⟩) hHeld ?rrpb4
  case yypb4 => (intro wq hSw; (try dsimp only at hSw); go_simp; first | done | with_reducible rfl)
  simp only [Act.put, List.setIfInBounds_toArray, List.set_cons_zero, List.set_cons_succ]
  refine wpAnyH_take (i := 4) (oi := ⟨some 13, _, _, _, _, _⟩) (v := ?vvpb5) rfl (by kernel_rfl) (by kernel_rfl) (by kernel_rfl) (fun _ _ _ h => h) (Or.inl ⟨by rfl, ?yypb5⟩) hHeld ?rrpb5
  case yypb5 => (intro wq hSw; (try dsimp only at hSw); go_simp; first | done | with_reducible rfl)
  simp only [Act.put, List.setIfInBounds_toArray, List.set_cons_zero, List.set_cons_succ]
  refine wpAnyH_take (i := 5) (oi := ⟨some 14, _, _, _, _, _⟩) (v := ?vvpb6) rfl (by kernel_rfl) (by kernel_rfl) (by kernel_rfl) (fun _ _ _ h => h) (Or.inl ⟨by rfl, ?yypb6⟩) hHeld ?rrpb6
  case yypb6 => (intro wq hSw; (try dsimp only at hSw); go_simp; first | done | with_reducible rfl)
  simp only [Act.put, List.setIfInBounds_toArray, List.set_cons_zero, List.set_cons_succ]
  refine wpAnyH_take (i := 6) (oi := ⟨some 8, _, _, _, _, _⟩) (v := ?vvpb7) rfl (by kernel_rfl) (by kernel_rfl) (by kernel_rfl) (fun _ _ _ h => h) (Or.inl ⟨by rfl, ?yypb7⟩) hHeld ?rrpb7
  case yypb7 => (intro wq hSw; (try dsimp only at hSw); go_simp; first | done | with_reducible rfl)
  simp only [Act.put, List.setIfInBounds_toArray, List.set_cons_zero, List.set_cons_succ]
  refine wpAnyH_take (i := 7) (oi := ⟨some 15, _, _, _, _, _⟩) (v := ?vvpb8) rfl (by kernel_rfl) (by kernel_rfl) (by kernel_rfl) (fun _ _ _ h => h) (Or.inl ⟨by rfl, ?yypb8⟩) hHeld ?rrpb8
  case yypb8 => (intro wq hSw; (try dsimp only at hSw); go_simp; first | done | with_reducible rfl)
  simp only [Act.put, List.setIfInBounds_toArray, List.set_cons_zero, List.set_cons_succ]
  refine wpAnyH_take (i := 8) (oi := ⟨some 16, _, _, _, _, _⟩) (v := ?vvpb9) rfl (by kernel_rfl) (by kernel_rfl) (by kernel_rfl) (fun _ _ _ h => h) (Or.inl ⟨by rfl, ?yypb9⟩) hHeld ?rrpb9
  case yypb9 => (intro wq hSw; (try dsimp only at hSw); go_simp; first | done | with_reducible rfl)
  simp only [Act.put, List.setIfInBounds_toArray, List.set_cons_zero, List.set_cons_succ]
  refine wpAnyH_ready (rs := [9]) (by kernel_rfl) (by simp) ?_
  refine AllReadyH.cons (o := ⟨some 6, _, _, _, _, _⟩) rfl (fun K hK => ?_) AllReadyH.nil
  go_simp
  obtain ⟨n5, hn5⟩ : ∃ u, u = X.alloc (.cells #[.int .u64 0, .string ⟨#[]⟩, .bool false] 96) := ⟨_, rfl⟩
  obtain ⟨g5, hg5⟩ : ∃ g, g = X.heap.size := ⟨_, rfl⟩
  rw [← hn5, ← hg5]
  have HB5 : Hid (Below W.heap.size W n5) := Lib.hid (by rw [hn5]; exact below_then HBX.out (below_box _ _))
  have E5 : Hid (n5.heap[g5]? = some (.cells #[.int .u64 0, .string ⟨#[]⟩, .bool false] 96)) := Lib.hid (by rw [hn5, hg5]; exact heap_new _ _)
  have L5 : Hid (W.heap.size ≤ g5) := Lib.hid (by rw [hg5]; exact HBX.out.size)
  have z0 := cell_of_blk E5.out 0
  have z1 := cell_of_blk E5.out 1
  have z2 := cell_of_blk E5.out 2
  have y0 := frozen_of_blk E5.out 0
  have y1 := frozen_of_blk E5.out 1
  have y2 := frozen_of_blk E5.out 2
  simp at z0 z1 z2
  clear hn5 hg5
  refine hK.out _ _ ?sspb10 (fun hHeld => ?_)
  case sspb10 => (exact HS.out _ HB5.out)
  clear hK K
  try simp only [Act.put, List.setIfInBounds_toArray, List.set_cons_zero, List.set_cons_succ]
  refine wpAnyH_ready (rs := [10]) (by kernel_rfl) (by simp) ?_
  refine AllReadyH.cons (o := ⟨none, _, _, _, _, _⟩) rfl (fun K hK => ?_) AllReadyH.nil
  go_simp
  obtain ⟨U, hU⟩ : ∃ u, u = ((n5.setCell ⟨g5, 0, none⟩ (.int .u64 x.word)).setCell ⟨g5, 1, none⟩ (.string x.val)).setCell ⟨g5, 2, none⟩ (.bool x.has) := ⟨_, rfl⟩
  rw [← hU]
  have HBU : Hid (Below W.heap.size W U) := Lib.hid (by rw [hU]; exact ((HB5.out.setCell (p := ⟨g5, 0, none⟩) L5.out _).setCell (p := ⟨g5, 1, none⟩) L5.out _).setCell (p := ⟨g5, 2, none⟩) L5.out _)
  have EU : Hid (U.heap[g5]? = some (.cells #[.int .u64 x.word, .string x.val, .bool x.has] 96)) := Lib.hid (by rw [hU, blk_setCell (blk_setCell (blk_setCell E5.out _) _) _]; rfl)
  clear hU z0 z1 z2 y0 y1 y2
  refine hK.out _ _ ?sspb11 (fun hHeld => ?_)
  case sspb11 => (exact HS.out _ HBU.out)
  clear hK K
  try simp only [Act.put, List.setIfInBounds_toArray, List.set_cons_zero, List.set_cons_succ]
  refine wpAnyH_take (i := 11) (oi := ⟨some 7, _, _, _, _, _⟩) (v := ?vvpb12) rfl (by kernel_rfl) (by kernel_rfl) (by kernel_rfl) (fun _ _ _ h => h) (Or.inl ⟨by rfl, ?yypb12⟩) hHeld ?rrpb12
  case yypb12 => (intro wq hSw; (try dsimp only at hSw); go_simp; first | done | with_reducible rfl)
  simp only [Act.put, List.setIfInBounds_toArray, List.set_cons_zero, List.set_cons_succ]
  refine wpAnyH_done (by kernel_rfl) ?_ _
  clear hHeld
  have r0 := cell_of_blk (HR.out _ HBU.out) 0
  have r1 := cell_of_blk (HR.out _ HBU.out) 1
  have r2 := cell_of_blk (HR.out _ HBU.out) 2
  have s0 := frozen_of_blk (HR.out _ HBU.out) 0
  have s1 := frozen_of_blk (HR.out _ HBU.out) 1
  have s2 := frozen_of_blk (HR.out _ HBU.out) 2
  have u0 := cell_of_blk EU.out 0
  have u1 := cell_of_blk EU.out 1
  have u2 := cell_of_blk EU.out 2
  simp at r0 r1 r2 u0 u1 u2
  go_wp2_with fail
  have er := HR.out _ HBU.out
  refine bodyPost_ret (v := .tuple #[.agg #[.int .u64 x.word, .string x.val, .bool x.has], .bool q]) ?_ rfl ⟨rfl, ?_⟩
  · have e1 := blk_setCell (blk_setCell (blk_setCell er (.int .u64 x.word) (i := 0)) (.string x.val) (i := 1)) (.bool x.has) (i := 2)
    have d0 := cell_of_blk e1 0
    have d1 := cell_of_blk e1 1
    have d2 := cell_of_blk e1 2
    simp at d0 d1 d2
    simp [results, Tryz.results36, go_sem, d0, d1, d2]
  · exact (((below_then HB.out HBU.out).setCell (p := ⟨rb, 0, none⟩) HLR.out _).setCell (p := ⟨rb, 1, none⟩) HLR.out _).setCell (p := ⟨rb, 2, none⟩) HLR.out _
end Go.Proofs.YtkhkdedjffkhdaaGreat
namespace Go.Proofs.YtkhkdedjffkhdaaGreat
open Go.RowKit Go.Maps

theorem tx_cases (o : Option Tx) : ∃ (x : Tx) (q : Bool), ((o.map Tx.v).getD Tx.zero = .agg #[.string x.val, .bool x.has]) ∧ o.isSome = q ∧ (o = none → x = ⟨⟨#[]⟩, false⟩) ∧ (∀ y, o = some y → x = y) := by
  cases o with
  | none => exact ⟨⟨⟨#[]⟩, false⟩, false, rfl, rfl, fun _ => rfl, fun _ h => (by cases h)⟩
  | some x => exact ⟨x, true, rfl, rfl, fun h => (by cases h), fun y h => by injection h⟩
/-- what a transaction has -/
def getX (gs : Ky → Option Sn) (gw : Ky → Option Tx) (k : Ky) : ByteArray × Bool × Bool := match gw k with
  | some t => (t.val, t.has, true)
  | none => match gs k with
    | some x => (x.val, x.has, true)
    | none => (⟨#[]⟩, false, false)
set_option maxRecDepth 100000 in
set_option maxHeartbeats 2000000 in
theorem sxGet_any {w : World} {sb bs bw bm ns nw nm : Nat} {gs : Ky → Option Sn} {gw gm : Ky → Option Tx} (h : StX w sb bs bw bm ns nw nm gs gw gm) {k : Ky} (hk : k.Ok) :
    Calls Tryz.prog 63 #[.pointer (some ⟨sb, 0, none⟩), .agg #[.int .i64 k.kind, .int .i64 k.a, .int .i64 k.b, .string k.s]] w fun e w' => e = .returned (.tuple #[.string (getX gs gw k).1, .bool (getX gs gw k).2.1, .bool (getX gs gw k).2.2]) ∧ Below w.heap.size w w' := by
  obtain ⟨W, hW⟩ : ∃ W, w.alloc (.cells #[.int .i64 k.kind, .int .i64 k.a, .int .i64 k.b, .string k.s] 47) = W := ⟨_, rfl⟩
  obtain ⟨kb, hkb⟩ : ∃ x, x = w.heap.size := ⟨_, rfl⟩
  have bW : Below w.heap.size w W := by rw [← hW]; exact below_box _ _
  have eW : W.heap[kb]? = some (.cells #[.int .i64 k.kind, .int .i64 k.a, .int .i64 k.b, .string k.s] 47) := by rw [← hW, hkb]; exact heap_new _ _
  obtain ⟨x, q, hv, hq, hx0, hx1⟩ := sn_cases (gs k)
  obtain ⟨t, p, tv, tq, ht0, ht1⟩ := tx_cases (gw k)
  obtain ⟨r1, r2, r3, hr, hrt, hrf⟩ : ∃ r1 r2 r3, getX gs gw k = (r1, r2, r3) ∧ (p = true → r1 = t.val ∧ r2 = t.has ∧ r3 = true) ∧ (p = false → r1 = x.val ∧ r2 = x.has ∧ r3 = q) := by
    refine ⟨_, _, _, rfl, fun hp => ?_, fun hp => ?_⟩
    · cases hg : gw k with
      | none => rw [hg] at tq; rw [← tq] at hp; cases hp
      | some y => rw [ht1 y hg]; exact ⟨rfl, rfl, rfl⟩
    · cases hg : gw k with
      | some y => rw [hg] at tq; rw [← tq] at hp; cases hp
      | none =>
        cases hg2 : gs k with
        | none => rw [hg2] at hq; rw [hx0 hg2, ← hq]; exact ⟨rfl, rfl, rfl⟩
        | some y => rw [hg2] at hq; rw [hx1 y hg2, ← hq]; exact ⟨rfl, rfl, rfl⟩
  rw [hr]
  have HST : Hid (∀ u : World, Below W.heap.size W u → u.cell? ⟨sb, 1, none⟩ = some (.map (some bw)) ∧ u.cell? ⟨kb, 0, none⟩ = some (.int .i64 k.kind) ∧ u.cell? ⟨kb, 1, none⟩ = some (.int .i64 k.a) ∧ u.cell? ⟨kb, 2, none⟩ = some (.int .i64 k.b) ∧ u.cell? ⟨kb, 3, none⟩ = some (.string k.s) ∧
      (Instr.lookup 107 (.map (some bw)) (.agg #[.int .i64 k.kind, .int .i64 k.a, .int .i64 k.b, .string k.s]) true).run Tryz.prog u = .ok (.tuple #[.agg #[.string t.val, .bool t.has], .bool p]) u) := Lib.hid (fun u hu => by
    have h2 := (h.below bW).below hu
    have e2 := (hu.block _ (Array.getElem?_eq_some_iff.1 eW).1).trans eW
    have hl := h2.wm.look Tryz.underlying107 (zeroTx u) hk
    rw [tv, tq] at hl
    exact ⟨by simpa using cell_of_blk h2.blk 1, by simpa using cell_of_blk e2 0, by simpa using cell_of_blk e2 1, by simpa using cell_of_blk e2 2, by simpa using cell_of_blk e2 3, hl⟩)
  have HS : Hid (∀ u : World, Below W.heap.size W u → u.cell? ⟨sb, 0, none⟩ = some (.map (some bs)) ∧ u.cell? ⟨kb, 0, none⟩ = some (.int .i64 k.kind) ∧ u.cell? ⟨kb, 1, none⟩ = some (.int .i64 k.a) ∧ u.cell? ⟨kb, 2, none⟩ = some (.int .i64 k.b) ∧ u.cell? ⟨kb, 3, none⟩ = some (.string k.s) ∧
      (Instr.lookup 106 (.map (some bs)) (.agg #[.int .i64 k.kind, .int .i64 k.a, .int .i64 k.b, .string k.s]) true).run Tryz.prog u = .ok (.tuple #[.agg #[.int .u64 x.word, .string x.val, .bool x.has], .bool q]) u) := Lib.hid (fun u hu => by
    have h2 := (h.below bW).below hu
    have e2 := (hu.block _ (Array.getElem?_eq_some_iff.1 eW).1).trans eW
    have hl := h2.sm.look Tryz.underlying106 (zeroSn u) hk
    rw [hv, hq] at hl
    exact ⟨by simpa using cell_of_blk h2.blk 0, by simpa using cell_of_blk e2 0, by simpa using cell_of_blk e2 1, by simpa using cell_of_blk e2 2, by simpa using cell_of_blk e2 3, hl⟩)
  have HB := Lib.hid bW
  have HW := Lib.hid hW
  have HKB := Lib.hid hkb
  have HRT := Lib.hid (And.intro hrt hrf)
  clear h hk bW eW hW hkb hv hq tv tq hx0 hx1 ht0 ht1 hr hrt hrf
  go_enter Tryz.func63, Tryz.ntmps63
  go_upto_region 1 with fail
  rw [HW.out, ← HKB.out]
  refine wp_region_held_drew (S := (fun w' : World => w'.cell? ⟨sb, 1, none⟩ = some (.map (some bw)) ∧ w'.cell? ⟨kb, 0, none⟩ = some (.int .i64 k.kind) ∧ w'.cell? ⟨kb, 1, none⟩ = some (.int .i64 k.a) ∧ w'.cell? ⟨kb, 2, none⟩ = some (.int .i64 k.b) ∧ w'.cell? ⟨kb, 3, none⟩ = some (.string k.s) ∧ (Instr.lookup 107 (.map (some bw)) (.agg #[.int .i64 k.kind, .int .i64 k.a, .int .i64 k.b, .string k.s]) true).run Tryz.prog w' = .ok (.tuple #[.agg #[.string t.val, .bool t.has], .bool p]) w')) (by kernel_rfl) (HST.out _ (below_drewN (Below.refl _ _) 1)) (fun hHeld => ?_)
  obtain ⟨X, hGen⟩ : ∃ u, u = World.drew W := ⟨_, rfl⟩
  rw [← hGen] at hHeld ⊢
  have HBX : Hid (Below W.heap.size W X) := Lib.hid (by rw [hGen]; exact below_drewN (Below.refl _ _) 1)
  clear hGen
  refine wpAnyH_take (i := 0) (oi := ⟨some 12, _, _, _, _, _⟩) (v := ?vvpc1) rfl (by kernel_rfl) (by kernel_rfl) (by kernel_rfl) (fun _ _ _ h => h) (Or.inl ⟨by rfl, ?yypc1⟩) hHeld ?rrpc1
  case yypc1 => (intro wq hSw; (try dsimp only at hSw); go_simp; first | done | with_reducible rfl)
  simp only [Act.put, List.setIfInBounds_toArray, List.set_cons_zero, List.set_cons_succ]
  refine wpAnyH_take (i := 1) (oi := ⟨some 13, _, _, _, _, _⟩) (v := ?vvpc2) rfl (by kernel_rfl) (by kernel_rfl) (by kernel_rfl) (fun _ _ _ h => h) (Or.inl ⟨by rfl, ?yypc2⟩) hHeld ?rrpc2
  case yypc2 => (intro wq hSw; (try dsimp only at hSw); go_simp; first | done | with_reducible rfl)
  simp only [Act.put, List.setIfInBounds_toArray, List.set_cons_zero, List.set_cons_succ]
  refine wpAnyH_take (i := 2) (oi := ⟨some 14, _, _, _, _, _⟩) (v := ?vvpc3) rfl (by kernel_rfl) (by kernel_rfl) (by kernel_rfl) (fun _ _ _ h => h) (Or.inl ⟨by rfl, ?yypc3⟩) hHeld ?rrpc3
  case yypc3 => (intro wq hSw; (try dsimp only at hSw); go_simp; first | done | with_reducible rfl)
  simp only [Act.put, List.setIfInBounds_toArray, List.set_cons_zero, List.set_cons_succ]
  refine wpAnyH_take (i := 3) (oi := ⟨some 15, _, _, _, _, _⟩) (v := ?vvpc4) rfl (by kernel_rfl) (by kernel_rfl) (by kernel_rfl) (fun _ _ _ h => h) (Or.inl ⟨by rfl, ?yypc4⟩) hHeld ?rrpc4
  case yypc4 => (intro wq hSw; (try dsimp only at hSw); go_simp; first | done | with_reducible rfl)
  simp only [Act.put, List.setIfInBounds_toArray, List.set_cons_zero, List.set_cons_succ]
  refine wpAnyH_take (i := 4) (oi := ⟨some 16, _, _, _, _, _⟩) (v := ?vvpc5) rfl (by kernel_rfl) (by kernel_rfl) (by kernel_rfl) (fun _ _ _ h => h) (Or.inl ⟨by rfl, ?yypc5⟩) hHeld ?rrpc5
  case yypc5 => (intro wq hSw; (try dsimp only at hSw); go_simp; first | done | with_reducible rfl)
  simp only [Act.put, List.setIfInBounds_toArray, List.set_cons_zero, List.set_cons_succ]
  refine wpAnyH_take (i := 5) (oi := ⟨some 17, _, _, _, _, _⟩) (v := ?vvpc6) rfl (by kernel_rfl) (by kernel_rfl) (by kernel_rfl) (fun _ _ _ h => h) (Or.inl ⟨by rfl, ?yypc6⟩) hHeld ?rrpc6
  case yypc6 => (intro wq hSw; (try dsimp only at hSw); go_simp; first | done | with_reducible rfl)
  simp only [Act.put, List.setIfInBounds_toArray, List.set_cons_zero, List.set_cons_succ]
  refine wpAnyH_take (i := 6) (oi := ⟨some 11, _, _, _, _, _⟩) (v := ?vvpc7) rfl (by kernel_rfl) (by kernel_rfl) (by kernel_rfl) (fun _ _ _ h => h) (Or.inl ⟨by rfl, ?yypc7⟩) hHeld ?rrpc7
  case yypc7 => (intro wq hSw; (try dsimp only at hSw); go_simp; first | done | with_reducible rfl)
  simp only [Act.put, List.setIfInBounds_toArray, List.set_cons_zero, List.set_cons_succ]
  refine wpAnyH_take (i := 7) (oi := ⟨some 18, _, _, _, _, _⟩) (v := ?vvpc8) rfl (by kernel_rfl) (by kernel_rfl) (by kernel_rfl) (fun _ _ _ h => h) (Or.inl ⟨by rfl, ?yypc8⟩) hHeld ?rrpc8
  case yypc8 => (intro wq hSw; (try dsimp only at hSw); go_simp; first | done | with_reducible rfl)
  simp only [Act.put, List.setIfInBounds_toArray, List.set_cons_zero, List.set_cons_succ]
  refine wpAnyH_take (i := 8) (oi := ⟨some 19, _, _, _, _, _⟩) (v := ?vvpc9) rfl (by kernel_rfl) (by kernel_rfl) (by kernel_rfl) (fun _ _ _ h => h) (Or.inl ⟨by rfl, ?yypc9⟩) hHeld ?rrpc9
  case yypc9 => (intro wq hSw; (try dsimp only at hSw); go_simp; first | done | with_reducible rfl)
  simp only [Act.put, List.setIfInBounds_toArray, List.set_cons_zero, List.set_cons_succ]
  refine wpAnyH_ready (rs := [9]) (by kernel_rfl) (by simp) ?_
  refine AllReadyH.cons (o := ⟨some 7, _, _, _, _, _⟩) rfl (fun K hK => ?_) AllReadyH.nil
  go_simp
  obtain ⟨n7, hn7⟩ : ∃ u, u = X.alloc (.cells #[.string ⟨#[]⟩, .bool false] 105) := ⟨_, rfl⟩
  obtain ⟨g7, hg7⟩ : ∃ g, g = X.heap.size := ⟨_, rfl⟩
  rw [← hn7, ← hg7]
  have HB7 : Hid (Below W.heap.size W n7) := Lib.hid (by rw [hn7]; exact below_then HBX.out (below_box _ _))
  have E7 : Hid (n7.heap[g7]? = some (.cells #[.string ⟨#[]⟩, .bool false] 105)) := Lib.hid (by rw [hn7, hg7]; exact heap_new _ _)
  have L7 : Hid (W.heap.size ≤ g7) := Lib.hid (by rw [hg7]; exact HBX.out.size)
  have z0 := cell_of_blk E7.out 0
  have z1 := cell_of_blk E7.out 1
  have y0 := frozen_of_blk E7.out 0
  have y1 := frozen_of_blk E7.out 1
  simp at z0 z1
  clear hn7 hg7
  refine hK.out _ _ ?sspc10 (fun hHeld => ?_)
  case sspc10 => (exact HST.out _ HB7.out)
  clear hK K
  try simp only [Act.put, List.setIfInBounds_toArray, List.set_cons_zero, List.set_cons_succ]
  refine wpAnyH_ready (rs := [10]) (by kernel_rfl) (by simp) ?_
  refine AllReadyH.cons (o := ⟨none, _, _, _, _, _⟩) rfl (fun K hK => ?_) AllReadyH.nil
  go_simp
  obtain ⟨V, hV⟩ : ∃ u, u = (n7.setCell ⟨g7, 0, none⟩ (.string t.val)).setCell ⟨g7, 1, none⟩ (.bool t.has) := ⟨_, rfl⟩
  rw [← hV]
  have HBV : Hid (Below W.heap.size W V) := Lib.hid (by rw [hV]; exact (HB7.out.setCell (p := ⟨g7, 0, none⟩) L7.out _).setCell (p := ⟨g7, 1, none⟩) L7.out _)
  have EV : Hid (V.heap[g7]? = some (.cells #[.string t.val, .bool t.has] 105)) := Lib.hid (by rw [hV, blk_setCell (blk_setCell E7.out _) _]; rfl)
  clear hV z0 z1 y0 y1
  refine hK.out _ _ ?sspc11 (fun hHeld => ?_)
  case sspc11 => (exact HST.out _ HBV.out)
  clear hK K
  try simp only [Act.put, List.setIfInBounds_toArray, List.set_cons_zero, List.set_cons_succ]
  refine wpAnyH_take (i := 11) (oi := ⟨some 8, _, _, _, _, _⟩) (v := ?vvpc12) rfl (by kernel_rfl) (by kernel_rfl) (by kernel_rfl) (fun _ _ _ h => h) (Or.inl ⟨by rfl, ?yypc12⟩) hHeld ?rrpc12
  case yypc12 => (intro wq hSw; (try dsimp only at hSw); go_simp; first | done | with_reducible rfl)
  simp only [Act.put, List.setIfInBounds_toArray, List.set_cons_zero, List.set_cons_succ]
  refine wpAnyH_done (by kernel_rfl) ?_ _
  clear hHeld
  cases p
  · go_upto_region 4 with fail
    refine wp_region_held_drew (S := (fun w' : World => w'.cell? ⟨sb, 0, none⟩ = some (.map (some bs)) ∧ w'.cell? ⟨kb, 0, none⟩ = some (.int .i64 k.kind) ∧ w'.cell? ⟨kb, 1, none⟩ = some (.int .i64 k.a) ∧ w'.cell? ⟨kb, 2, none⟩ = some (.int .i64 k.b) ∧ w'.cell? ⟨kb, 3, none⟩ = some (.string k.s) ∧ (Instr.lookup 106 (.map (some bs)) (.agg #[.int .i64 k.kind, .int .i64 k.a, .int .i64 k.b, .string k.s]) true).run Tryz.prog w' = .ok (.tuple #[.agg #[.int .u64 x.word, .string x.val, .bool x.has], .bool q]) w')) (by kernel_rfl) (HS.out _ (below_drewN HBV.out 1)) (fun hHeld => ?_)
    obtain ⟨X, hGen⟩ : ∃ u, u = World.drew V := ⟨_, rfl⟩
    rw [← hGen] at hHeld ⊢
    have HBX : Hid (Below W.heap.size W X) := Lib.hid (by rw [hGen]; exact below_drewN HBV.out 1)
    clear hGen
    refine wpAnyH_take (i := 0) (oi := ⟨some 26, _, _, _, _, _⟩) (v := ?vvpd1) rfl (by kernel_rfl) (by kernel_rfl) (by kernel_rfl) (fun _ _ _ h => h) (Or.inl ⟨by rfl, ?yypd1⟩) hHeld ?rrpd1
    case yypd1 => (intro wq hSw; (try dsimp only at hSw); go_simp; first | done | with_reducible rfl)
    simp only [Act.put, List.setIfInBounds_toArray, List.set_cons_zero, List.set_cons_succ]
    refine wpAnyH_take (i := 1) (oi := ⟨some 27, _, _, _, _, _⟩) (v := ?vvpd2) rfl (by kernel_rfl) (by kernel_rfl) (by kernel_rfl) (fun _ _ _ h => h) (Or.inl ⟨by rfl, ?yypd2⟩) hHeld ?rrpd2
    case yypd2 => (intro wq hSw; (try dsimp only at hSw); go_simp; first | done | with_reducible rfl)
    simp only [Act.put, List.setIfInBounds_toArray, List.set_cons_zero, List.set_cons_succ]
    refine wpAnyH_take (i := 2) (oi := ⟨some 28, _, _, _, _, _⟩) (v := ?vvpd3) rfl (by kernel_rfl) (by kernel_rfl) (by kernel_rfl) (fun _ _ _ h => h) (Or.inl ⟨by rfl, ?yypd3⟩) hHeld ?rrpd3
    case yypd3 => (intro wq hSw; (try dsimp only at hSw); go_simp; first | done | with_reducible rfl)
    simp only [Act.put, List.setIfInBounds_toArray, List.set_cons_zero, List.set_cons_succ]
    refine wpAnyH_take (i := 3) (oi := ⟨some 29, _, _, _, _, _⟩) (v := ?vvpd4) rfl (by kernel_rfl) (by kernel_rfl) (by kernel_rfl) (fun _ _ _ h => h) (Or.inl ⟨by rfl, ?yypd4⟩) hHeld ?rrpd4
    case yypd4 => (intro wq hSw; (try dsimp only at hSw); go_simp; first | done | with_reducible rfl)
    simp only [Act.put, List.setIfInBounds_toArray, List.set_cons_zero, List.set_cons_succ]
    refine wpAnyH_take (i := 4) (oi := ⟨some 30, _, _, _, _, _⟩) (v := ?vvpd5) rfl (by kernel_rfl) (by kernel_rfl) (by kernel_rfl) (fun _ _ _ h => h) (Or.inl ⟨by rfl, ?yypd5⟩) hHeld ?rrpd5
    case yypd5 => (intro wq hSw; (try dsimp only at hSw); go_simp; first | done | with_reducible rfl)
    simp only [Act.put, List.setIfInBounds_toArray, List.set_cons_zero, List.set_cons_succ]
    refine wpAnyH_take (i := 5) (oi := ⟨some 31, _, _, _, _, _⟩) (v := ?vvpd6) rfl (by kernel_rfl) (by kernel_rfl) (by kernel_rfl) (fun _ _ _ h => h) (Or.inl ⟨by rfl, ?yypd6⟩) hHeld ?rrpd6
    case yypd6 => (intro wq hSw; (try dsimp only at hSw); go_simp; first | done | with_reducible rfl)
    simp only [Act.put, List.setIfInBounds_toArray, List.set_cons_zero, List.set_cons_succ]
    refine wpAnyH_take (i := 6) (oi := ⟨some 25, _, _, _, _, _⟩) (v := ?vvpd7) rfl (by kernel_rfl) (by kernel_rfl) (by kernel_rfl) (fun _ _ _ h => h) (Or.inl ⟨by rfl, ?yypd7⟩) hHeld ?rrpd7
    case yypd7 => (intro wq hSw; (try dsimp only at hSw); go_simp; first | done | with_reducible rfl)
    simp only [Act.put, List.setIfInBounds_toArray, List.set_cons_zero, List.set_cons_succ]
    refine wpAnyH_take (i := 7) (oi := ⟨some 32, _, _, _, _, _⟩) (v := ?vvpd8) rfl (by kernel_rfl) (by kernel_rfl) (by kernel_rfl) (fun _ _ _ h => h) (Or.inl ⟨by rfl, ?yypd8⟩) hHeld ?rrpd8
    case yypd8 => (intro wq hSw; (try dsimp only at hSw); go_simp; first | done | with_reducible rfl)
    simp only [Act.put, List.setIfInBounds_toArray, List.set_cons_zero, List.set_cons_succ]
    refine wpAnyH_take (i := 8) (oi := ⟨some 33, _, _, _, _, _⟩) (v := ?vvpd9) rfl (by kernel_rfl) (by kernel_rfl) (by kernel_rfl) (fun _ _ _ h => h) (Or.inl ⟨by rfl, ?yypd9⟩) hHeld ?rrpd9
    case yypd9 => (intro wq hSw; (try dsimp only at hSw); go_simp; first | done | with_reducible rfl)
    simp only [Act.put, List.setIfInBounds_toArray, List.set_cons_zero, List.set_cons_succ]
    refine wpAnyH_ready (rs := [9]) (by kernel_rfl) (by simp) ?_
    refine AllReadyH.cons (o := ⟨some 9, _, _, _, _, _⟩) rfl (fun K hK => ?_) AllReadyH.nil
    go_simp
    obtain ⟨n5, hn5⟩ : ∃ u, u = X.alloc (.cells #[.int .u64 0, .string ⟨#[]⟩, .bool false] 96) := ⟨_, rfl⟩
    obtain ⟨g5, hg5⟩ : ∃ g, g = X.heap.size := ⟨_, rfl⟩
    rw [← hn5, ← hg5]
    have HB5 : Hid (Below W.heap.size W n5) := Lib.hid (by rw [hn5]; exact below_then HBX.out (below_box _ _))
    have E5 : Hid (n5.heap[g5]? = some (.cells #[.int .u64 0, .string ⟨#[]⟩, .bool false] 96)) := Lib.hid (by rw [hn5, hg5]; exact heap_new _ _)
    have L5 : Hid (W.heap.size ≤ g5) := Lib.hid (by rw [hg5]; exact HBX.out.size)
    have z0 := cell_of_blk E5.out 0
    have z1 := cell_of_blk E5.out 1
    have z2 := cell_of_blk E5.out 2
    have y0 := frozen_of_blk E5.out 0
    have y1 := frozen_of_blk E5.out 1
    have y2 := frozen_of_blk E5.out 2
    simp at z0 z1 z2
    clear hn5 hg5
    refine hK.out _ _ ?sspd10 (fun hHeld => ?_)
    case sspd10 => (exact HS.out _ HB5.out)
    clear hK K
    try simp only [Act.put, List.setIfInBounds_toArray, List.set_cons_zero, List.set_cons_succ]
    refine wpAnyH_ready (rs := [10]) (by kernel_rfl) (by simp) ?_
    refine AllReadyH.cons (o := ⟨none, _, _, _, _, _⟩) rfl (fun K hK => ?_) AllReadyH.nil
    go_simp
    obtain ⟨U, hU⟩ : ∃ u, u = ((n5.setCell ⟨g5, 0, none⟩ (.int .u64 x.word)).setCell ⟨g5, 1, none⟩ (.string x.val)).setCell ⟨g5, 2, none⟩ (.bool x.has) := ⟨_, rfl⟩
    rw [← hU]
    have HBU : Hid (Below W.heap.size W U) := Lib.hid (by rw [hU]; exact ((HB5.out.setCell (p := ⟨g5, 0, none⟩) L5.out _).setCell (p := ⟨g5, 1, none⟩) L5.out _).setCell (p := ⟨g5, 2, none⟩) L5.out _)
    have EU : Hid (U.heap[g5]? = some (.cells #[.int .u64 x.word, .string x.val, .bool x.has] 96)) := Lib.hid (by rw [hU, blk_setCell (blk_setCell (blk_setCell E5.out _) _) _]; rfl)
    clear hU z0 z1 z2 y0 y1 y2
    refine hK.out _ _ ?sspd11 (fun hHeld => ?_)
    case sspd11 => (exact HS.out _ HBU.out)
    clear hK K
    try simp only [Act.put, List.setIfInBounds_toArray, List.set_cons_zero, List.set_cons_succ]
    refine wpAnyH_take (i := 11) (oi := ⟨some 10, _, _, _, _, _⟩) (v := ?vvpd12) rfl (by kernel_rfl) (by kernel_rfl) (by kernel_rfl) (fun _ _ _ h => h) (Or.inl ⟨by rfl, ?yypd12⟩) hHeld ?rrpd12
    case yypd12 => (intro wq hSw; (try dsimp only at hSw); go_simp; first | done | with_reducible rfl)
    simp only [Act.put, List.setIfInBounds_toArray, List.set_cons_zero, List.set_cons_succ]
    refine wpAnyH_done (by kernel_rfl) ?_ _
    clear hHeld
    obtain ⟨e1, e2, e3⟩ := HRT.out.2 rfl
    subst e1 e2 e3
    have u0 := cell_of_blk EU.out 0
    have u1 := cell_of_blk EU.out 1
    have u2 := cell_of_blk EU.out 2
    simp at u0 u1 u2
    cases r3
    all_goals
      go_wp2_with fail
      go_quiet (fail)
      go_wp2_with fail
      go_ret3
      exact ⟨rfl, below_drewN (below_then HB.out HBU.out) _⟩
  · obtain ⟨e1, e2, e3⟩ := HRT.out.1 rfl
    subst e1 e2 e3
    have u0 := cell_of_blk EV.out 0
    have u1 := cell_of_blk EV.out 1
    simp at u0 u1
    go_wp2_with fail
    go_quiet (fail)
    go_wp2_with fail
    go_ret3
    exact ⟨rfl, below_drewN (below_then HB.out HBV.out) _⟩
end Go.Proofs.YtkhkdedjffkhdaaGreat
namespace Go.Proofs.YtkhkdedjffkhdaaGreat
open Go.RowKit Go.Maps

theorem sizeZ {s : ByteArray} : (s.toList == ([] : List UInt8)) = decide (s.size = 0) := by
  rw [ByteArray.toList_eq]
  cases hd : s.data.toList with
  | nil =>
    have h2 : s.size = 0 := by rw [show s.size = s.data.toList.length from rfl, hd]; rfl
    rw [h2]; rfl
  | cons a t =>
    have h2 : s.size ≠ 0 := by rw [show s.size = s.data.toList.length from rfl, hd]; simp
    simp [h2]
open Classical in
/-- a function of keys, turned at one -/
noncomputable def updK {β : Type} (g : Ky → Option β) (k : Ky) (o : Option β) : Ky → Option β := fun x => if x = k then o else g x
theorem MpX.stored {β : Type} {w' : World} {b n' : Nat} {enc : β → Value} {g : Ky → Option β} {k : Ky} {x : β} {F : Lit → Option Value} (hF : ∀ k : Ky, k.Ok → F k.lit = (g k).map enc) (hk : k.Ok) (h : mapR w' Tryz.prog 47 b n' (upd F k.lit (some (enc x)))) : MpX w' b n' enc (updK g k (some x)) := by
  refine ⟨_, h, fun y hy => ?_⟩
  unfold upd updK
  by_cases e : y = k
  · subst e; simp
  · rw [if_neg e, if_neg (fun h => e (lit_inj hy hk h))]
    exact hF y hy
theorem len_if (n : Nat) (q : Bool) : (if q = true then n else n + 1) ≤ n + 1 := by split <;> omega
def SeePost (w : World) (sb bs bw bm ns nw nm : Nat) (gs : Ky → Option Sn) (gw gm : Ky → Option Tx) (k : Ky) (x : Sn) (e : Ending) (w' : World) : Prop :=
  if x.val.size ≠ 0 ∧ x.has = false then e = .returned (.int .i64 2) ∧ Below w.heap.size w w'
  else if (gs k).isSome = true then e = .returned (.int .i64 31) ∧ Below w.heap.size w w'
  else e = .returned (.int .i64 0) ∧ ∃ ns', ns' ≤ ns + 1 ∧ StX w' sb bs bw bm ns' nw nm (updK gs k (some x)) gw gm ∧ Chg w w' (fun j => j = bs)
set_option maxRecDepth 100000 in
set_option maxHeartbeats 2000000 in
theorem sxSee_any {w : World} {sb bs bw bm ns nw nm : Nat} {gs : Ky → Option Sn} {gw gm : Ky → Option Tx} (h : StX w sb bs bw bm ns nw nm gs gw gm) (hns : ns ≤ 1000000) {k : Ky} (hk : k.Ok) (v : Sn) :
    Calls Tryz.prog 38 #[.pointer (some ⟨sb, 0, none⟩), .agg #[.int .i64 k.kind, .int .i64 k.a, .int .i64 k.b, .string k.s], .agg #[.int .u64 v.word, .string v.val, .bool v.has]] w (SeePost w sb bs bw bm ns nw nm gs gw gm k v) := by
  obtain ⟨W, hW⟩ : ∃ W, (w.alloc (.cells #[.int .i64 k.kind, .int .i64 k.a, .int .i64 k.b, .string k.s] 47)).alloc (.cells #[.int .u64 v.word, .string v.val, .bool v.has] 96) = W := ⟨_, rfl⟩
  obtain ⟨kb, hkb⟩ : ∃ x, x = w.heap.size := ⟨_, rfl⟩
  obtain ⟨vb, hvb⟩ : ∃ x, x = w.heap.size + 1 := ⟨_, rfl⟩
  have bW : Below w.heap.size w W := by rw [← hW]; exact below_then (below_box _ _) (below_box _ _)
  have eW : W.heap[kb]? = some (.cells #[.int .i64 k.kind, .int .i64 k.a, .int .i64 k.b, .string k.s] 47) := by rw [← hW, hkb, Below.heap_alloc _ _ _ (by rw [size_alloc]; omega)]; exact heap_new _ _
  have eR : W.heap[vb]? = some (.cells #[.int .u64 v.word, .string v.val, .bool v.has] 96) := by rw [← hW, hvb]; have := heap_new (w.alloc (.cells #[.int .i64 k.kind, .int .i64 k.a, .int .i64 k.b, .string k.s] 47)) (.cells #[.int .u64 v.word, .string v.val, .bool v.has] 96); rwa [size_alloc] at this
  have HR : Hid (∀ u : World, Below W.heap.size W u → u.heap[vb]? = some (.cells #[.int .u64 v.word, .string v.val, .bool v.has] 96)) := Lib.hid (fun u hu => (hu.block _ (Array.getElem?_eq_some_iff.1 eR).1).trans eR)
  have z0 := cell_of_blk eR 1
  have z1 := cell_of_blk eR 2
  simp at z0 z1
  obtain ⟨x, q, hv, hq, _, _⟩ := sn_cases (gs k)
  have HS : Hid (∀ u : World, Below W.heap.size W u → u.cell? ⟨sb, 0, none⟩ = some (.map (some bs)) ∧ u.cell? ⟨kb, 0, none⟩ = some (.int .i64 k.kind) ∧ u.cell? ⟨kb, 1, none⟩ = some (.int .i64 k.a) ∧ u.cell? ⟨kb, 2, none⟩ = some (.int .i64 k.b) ∧ u.cell? ⟨kb, 3, none⟩ = some (.string k.s) ∧
      (Instr.lookup 106 (.map (some bs)) (.agg #[.int .i64 k.kind, .int .i64 k.a, .int .i64 k.b, .string k.s]) true).run Tryz.prog u = .ok (.tuple #[.agg #[.int .u64 x.word, .string x.val, .bool x.has], .bool q]) u) := Lib.hid (fun u hu => by
    have h2 := (h.below bW).below hu
    have e2 := (hu.block _ (Array.getElem?_eq_some_iff.1 eW).1).trans eW
    have hl := h2.sm.look Tryz.underlying106 (zeroSn u) hk
    rw [hv, hq] at hl
    exact ⟨by simpa using cell_of_blk h2.blk 0, by simpa using cell_of_blk e2 0, by simpa using cell_of_blk e2 1, by simpa using cell_of_blk e2 2, by simpa using cell_of_blk e2 3, hl⟩)
  have HH := Lib.hid (h.below bW)
  have HK := Lib.hid hk
  have HQ := Lib.hid hq
  have HNS := Lib.hid hns
  have HB := Lib.hid bW
  have HW := Lib.hid hW
  have HKB := Lib.hid (And.intro hkb hvb)
  have hz : ∃ e, (v.val.toList == ([] : List UInt8)) = e ∧ decide (v.val.size = 0) = e := ⟨_, sizeZ, rfl⟩
  obtain ⟨ee, he1, he2⟩ := hz
  have HE := Lib.hid he2
  clear h hk bW eW hW hkb hvb hv hq eR hns he2
  by_cases hbad : v.val.size ≠ 0 ∧ v.has = false
  · have t1 : ee = false := by rw [← HE.out]; exact decide_eq_false hbad.1
    rw [t1] at he1
    have HBD := Lib.hid hbad
    clear hbad
    go_enter Tryz.func38, Tryz.ntmps38
    go_upto_region 1 with fail
    rw [HW.out, ← HKB.out.2]
    have t2 := HBD.out.2
    go_wp2_with fail
    go_ret
    unfold SeePost
    rw [if_pos HBD.out]
    exact ⟨rfl, HB.out⟩
  have tt : ee = true ∨ (ee = false ∧ v.has = true) := by
    cases hh : v.has
    · left
      rw [← HE.out]
      exact decide_eq_true (Classical.byContradiction fun hn => hbad ⟨hn, hh⟩)
    · cases ee
      · exact .inr ⟨rfl, rfl⟩
      · exact .inl rfl
  have HBD := Lib.hid hbad
  clear hbad
  rcases tt with tt | ⟨tt, th⟩
  · subst tt
    go_enter Tryz.func38, Tryz.ntmps38
    go_upto_region 1 with fail
    rw [HW.out, ← HKB.out.2, ← HKB.out.1]
    go_upto_region 3 with fail
    clear z0 z1
    refine wp_region_held_drew (S := (fun w' : World => w'.cell? ⟨sb, 0, none⟩ = some (.map (some bs)) ∧ w'.cell? ⟨kb, 0, none⟩ = some (.int .i64 k.kind) ∧ w'.cell? ⟨kb, 1, none⟩ = some (.int .i64 k.a) ∧ w'.cell? ⟨kb, 2, none⟩ = some (.int .i64 k.b) ∧ w'.cell? ⟨kb, 3, none⟩ = some (.string k.s) ∧ (Instr.lookup 106 (.map (some bs)) (.agg #[.int .i64 k.kind, .int .i64 k.a, .int .i64 k.b, .string k.s]) true).run Tryz.prog w' = .ok (.tuple #[.agg #[.int .u64 x.word, .string x.val, .bool x.has], .bool q]) w')) (by kernel_rfl) (HS.out _ (below_drewN (Below.refl _ _) 1)) (fun hHeld => ?_)
    obtain ⟨X, hGen⟩ : ∃ u, u = World.drew W := ⟨_, rfl⟩
    rw [← hGen] at hHeld ⊢
    have HBX : Hid (Below W.heap.size W X) := Lib.hid (by rw [hGen]; exact below_drewN (Below.refl _ _) 1)
    clear hGen
    refine wpAnyH_take (i := 0) (oi := ⟨some 18, _, _, _, _, _⟩) (v := ?vvpe1) rfl (by kernel_rfl) (by kernel_rfl) (by kernel_rfl) (fun _ _ _ h => h) (Or.inl ⟨by rfl, ?yype1⟩) hHeld ?rrpe1
    case yype1 => (intro wq hSw; (try dsimp only at hSw); go_simp; first | done | with_reducible rfl)
    simp only [Act.put, List.setIfInBounds_toArray, List.set_cons_zero, List.set_cons_succ]
    refine wpAnyH_take (i := 1) (oi := ⟨some 19, _, _, _, _, _⟩) (v := ?vvpe2) rfl (by kernel_rfl) (by kernel_rfl) (by kernel_rfl) (fun _ _ _ h => h) (Or.inl ⟨by rfl, ?yype2⟩) hHeld ?rrpe2
    case yype2 => (intro wq hSw; (try dsimp only at hSw); go_simp; first | done | with_reducible rfl)
    simp only [Act.put, List.setIfInBounds_toArray, List.set_cons_zero, List.set_cons_succ]
    refine wpAnyH_take (i := 2) (oi := ⟨some 20, _, _, _, _, _⟩) (v := ?vvpe3) rfl (by kernel_rfl) (by kernel_rfl) (by kernel_rfl) (fun _ _ _ h => h) (Or.inl ⟨by rfl, ?yype3⟩) hHeld ?rrpe3
    case yype3 => (intro wq hSw; (try dsimp only at hSw); go_simp; first | done | with_reducible rfl)
    simp only [Act.put, List.setIfInBounds_toArray, List.set_cons_zero, List.set_cons_succ]
    refine wpAnyH_take (i := 3) (oi := ⟨some 21, _, _, _, _, _⟩) (v := ?vvpe4) rfl (by kernel_rfl) (by kernel_rfl) (by kernel_rfl) (fun _ _ _ h => h) (Or.inl ⟨by rfl, ?yype4⟩) hHeld ?rrpe4
    case yype4 => (intro wq hSw; (try dsimp only at hSw); go_simp; first | done | with_reducible rfl)
    simp only [Act.put, List.setIfInBounds_toArray, List.set_cons_zero, List.set_cons_succ]
    refine wpAnyH_take (i := 4) (oi := ⟨some 22, _, _, _, _, _⟩) (v := ?vvpe5) rfl (by kernel_rfl) (by kernel_rfl) (by kernel_rfl) (fun _ _ _ h => h) (Or.inl ⟨by rfl, ?yype5⟩) hHeld ?rrpe5
    case yype5 => (intro wq hSw; (try dsimp only at hSw); go_simp; first | done | with_reducible rfl)
    simp only [Act.put, List.setIfInBounds_toArray, List.set_cons_zero, List.set_cons_succ]
    refine wpAnyH_take (i := 5) (oi := ⟨some 23, _, _, _, _, _⟩) (v := ?vvpe6) rfl (by kernel_rfl) (by kernel_rfl) (by kernel_rfl) (fun _ _ _ h => h) (Or.inl ⟨by rfl, ?yype6⟩) hHeld ?rrpe6
    case yype6 => (intro wq hSw; (try dsimp only at hSw); go_simp; first | done | with_reducible rfl)
    simp only [Act.put, List.setIfInBounds_toArray, List.set_cons_zero, List.set_cons_succ]
    refine wpAnyH_take (i := 6) (oi := ⟨some 17, _, _, _, _, _⟩) (v := ?vvpe7) rfl (by kernel_rfl) (by kernel_rfl) (by kernel_rfl) (fun _ _ _ h => h) (Or.inl ⟨by rfl, ?yype7⟩) hHeld ?rrpe7
    case yype7 => (intro wq hSw; (try dsimp only at hSw); go_simp; first | done | with_reducible rfl)
    simp only [Act.put, List.setIfInBounds_toArray, List.set_cons_zero, List.set_cons_succ]
    refine wpAnyH_take (i := 7) (oi := ⟨some 24, _, _, _, _, _⟩) (v := ?vvpe8) rfl (by kernel_rfl) (by kernel_rfl) (by kernel_rfl) (fun _ _ _ h => h) (Or.inl ⟨by rfl, ?yype8⟩) hHeld ?rrpe8
    case yype8 => (intro wq hSw; (try dsimp only at hSw); go_simp; first | done | with_reducible rfl)
    simp only [Act.put, List.setIfInBounds_toArray, List.set_cons_zero, List.set_cons_succ]
    refine wpAnyH_take (i := 8) (oi := ⟨some 25, _, _, _, _, _⟩) (v := ?vvpe9) rfl (by kernel_rfl) (by kernel_rfl) (by kernel_rfl) (fun _ _ _ h => h) (Or.inl ⟨by rfl, ?yype9⟩) hHeld ?rrpe9
    case yype9 => (intro wq hSw; (try dsimp only at hSw); go_simp; first | done | with_reducible rfl)
    simp only [Act.put, List.setIfInBounds_toArray, List.set_cons_zero, List.set_cons_succ]
    refine wpAnyH_ready (rs := [9]) (by kernel_rfl) (by simp) ?_
    refine AllReadyH.cons (o := ⟨some 7, _, _, _, _, _⟩) rfl (fun K hK => ?_) AllReadyH.nil
    go_simp
    obtain ⟨n5, hn5⟩ : ∃ u, u = X.alloc (.cells #[.int .u64 0, .string ⟨#[]⟩, .bool false] 96) := ⟨_, rfl⟩
    obtain ⟨g5, hg5⟩ : ∃ g, g = X.heap.size := ⟨_, rfl⟩
    rw [← hn5, ← hg5]
    have HB5 : Hid (Below W.heap.size W n5) := Lib.hid (by rw [hn5]; exact below_then HBX.out (below_box _ _))
    have E5 : Hid (n5.heap[g5]? = some (.cells #[.int .u64 0, .string ⟨#[]⟩, .bool false] 96)) := Lib.hid (by rw [hn5, hg5]; exact heap_new _ _)
    have L5 : Hid (W.heap.size ≤ g5) := Lib.hid (by rw [hg5]; exact HBX.out.size)
    have z0 := cell_of_blk E5.out 0
    have z1 := cell_of_blk E5.out 1
    have z2 := cell_of_blk E5.out 2
    have y0 := frozen_of_blk E5.out 0
    have y1 := frozen_of_blk E5.out 1
    have y2 := frozen_of_blk E5.out 2
    simp at z0 z1 z2
    clear hn5 hg5
    refine hK.out _ _ ?sspe10 (fun hHeld => ?_)
    case sspe10 => (exact HS.out _ HB5.out)
    clear hK K
    try simp only [Act.put, List.setIfInBounds_toArray, List.set_cons_zero, List.set_cons_succ]
    refine wpAnyH_ready (rs := [10]) (by kernel_rfl) (by simp) ?_
    refine AllReadyH.cons (o := ⟨none, _, _, _, _, _⟩) rfl (fun K hK => ?_) AllReadyH.nil
    go_simp
    obtain ⟨U, hU⟩ : ∃ u, u = ((n5.setCell ⟨g5, 0, none⟩ (.int .u64 x.word)).setCell ⟨g5, 1, none⟩ (.string x.val)).setCell ⟨g5, 2, none⟩ (.bool x.has) := ⟨_, rfl⟩
    rw [← hU]
    have HBU : Hid (Below W.heap.size W U) := Lib.hid (by rw [hU]; exact ((HB5.out.setCell (p := ⟨g5, 0, none⟩) L5.out _).setCell (p := ⟨g5, 1, none⟩) L5.out _).setCell (p := ⟨g5, 2, none⟩) L5.out _)
    clear hU z0 z1 z2 y0 y1 y2
    refine hK.out _ _ ?sspe11 (fun hHeld => ?_)
    case sspe11 => (exact HS.out _ HBU.out)
    clear hK K
    try simp only [Act.put, List.setIfInBounds_toArray, List.set_cons_zero, List.set_cons_succ]
    refine wpAnyH_take (i := 11) (oi := ⟨some 8, _, _, _, _, _⟩) (v := ?vvpe12) rfl (by kernel_rfl) (by kernel_rfl) (by kernel_rfl) (fun _ _ _ h => h) (Or.inl ⟨by rfl, ?yype12⟩) hHeld ?rrpe12
    case yype12 => (intro wq hSw; (try dsimp only at hSw); go_simp; first | done | with_reducible rfl)
    simp only [Act.put, List.setIfInBounds_toArray, List.set_cons_zero, List.set_cons_succ]
    refine wpAnyH_done (by kernel_rfl) ?_ _
    clear hHeld
    cases q
    · go_upto_region 6 with fail
      have c0 := (HS.out _ HBU.out).1
      obtain ⟨_, k0, k1, k2, k3, _⟩ := HS.out _ HBU.out
      have er := HR.out _ HBU.out
      have v0 := cell_of_blk er 0
      have v1 := cell_of_blk er 1
      have v2 := cell_of_blk er 2
      simp at v0 v1 v2
      have hHU := HH.out.below HBU.out
      obtain ⟨F, hm, hF⟩ := hHU.sm
      have HHU := Lib.hid hHU
      have HF := Lib.hid hF
      have hm2 : mapR U.drew Tryz.prog 47 bs ns F := hm.of_block rfl
      have hnl : ns < maxLen := by have := HNS.out; unfold maxLen; omega
      clear hHU hm hF er
      refine wp_region_still_tail 6 (by kernel_rfl) (by kernel_rfl) ?_
      change wpStill _ _ (World.drew _) (fun a' => wpList _ _ _ _ a' (World.drew _)) _ _
      simp only [List.take_succ_cons, List.take_zero, List.drop_succ_cons, List.drop_zero]
      repeat still_step
      refine wpStill_nil ?_
      go_wp2_with (at_mapUpdate; refine wpList_store _ rfl _ _ _ 106 rfl 47 96 lawKey Tryz.underlying106 bs ns F rfl hm2 hnl _ (.agg #[.int .u64 v.word, .string v.val, .bool v.has]) _ rfl rfl (keyK HK.out) ?_; intro w3 m3 t3 c3 f3 z3)
      have M3 := Lib.hid m3
      have T3 := Lib.hid t3
      clear m3 t3 c3 f3 z3 hm2
      go_wp2_with fail
      go_ret
      unfold SeePost
      rw [if_neg HBD.out, if_neg (by rw [HQ.out]; decide)]
      refine ⟨rfl, (if (F k.lit).isSome = true then ns else ns + 1), len_if ns _, ?_, ?_⟩
      · have hx : MpX w3 bs (if (F k.lit).isSome = true then ns else ns + 1) Sn.v (updK gs k (some v)) := MpX.stored (enc := Sn.v) HF.out HK.out M3.out
        have hT := HHU.out
        have hb : ∀ j, j ≠ bs → w3.heap[j]? = U.heap[j]? := fun j hj => turned_block T3.out hj
        obtain ⟨es, ck, hmap⟩ := hT.sm.map
        have hne : sb ≠ bs := fun e => by
          have h9 := hT.blk
          rw [e, hmap] at h9
          cases h9
        exact ⟨(hb sb hne).trans hT.blk, hx, hT.wm.of_block (hb bw (fun e => hT.n1 e.symm)), hT.mm.of_block (hb bm (fun e => hT.n2 e.symm)), hT.n1, hT.n2, hT.n3⟩
      · have h1 : Chg w U (fun j => j = bs) := Chg.of_below (below_then HB.out HBU.out) _
        exact h1.drew.turned T3.out (fun _ => rfl)
    · go_wp2_with fail
      go_ret
      unfold SeePost
      rw [if_neg HBD.out, if_pos HQ.out]
      exact ⟨rfl, below_then HB.out HBU.out⟩
  · subst tt
    have TH := Lib.hid th
    clear th
    go_enter Tryz.func38, Tryz.ntmps38
    go_upto_region 1 with fail
    rw [HW.out, ← HKB.out.2, ← HKB.out.1]
    have th := TH.out
    go_upto_region 3 with fail
    clear z0 z1 th
    refine wp_region_held_drew (S := (fun w' : World => w'.cell? ⟨sb, 0, none⟩ = some (.map (some bs)) ∧ w'.cell? ⟨kb, 0, none⟩ = some (.int .i64 k.kind) ∧ w'.cell? ⟨kb, 1, none⟩ = some (.int .i64 k.a) ∧ w'.cell? ⟨kb, 2, none⟩ = some (.int .i64 k.b) ∧ w'.cell? ⟨kb, 3, none⟩ = some (.string k.s) ∧ (Instr.lookup 106 (.map (some bs)) (.agg #[.int .i64 k.kind, .int .i64 k.a, .int .i64 k.b, .string k.s]) true).run Tryz.prog w' = .ok (.tuple #[.agg #[.int .u64 x.word, .string x.val, .bool x.has], .bool q]) w')) (by kernel_rfl) (HS.out _ (below_drewN (Below.refl _ _) 1)) (fun hHeld => ?_)
    obtain ⟨X, hGen⟩ : ∃ u, u = World.drew W := ⟨_, rfl⟩
    rw [← hGen] at hHeld ⊢
    have HBX : Hid (Below W.heap.size W X) := Lib.hid (by rw [hGen]; exact below_drewN (Below.refl _ _) 1)
    clear hGen
    refine wpAnyH_take (i := 0) (oi := ⟨some 18, _, _, _, _, _⟩) (v := ?vvpf1) rfl (by kernel_rfl) (by kernel_rfl) (by kernel_rfl) (fun _ _ _ h => h) (Or.inl ⟨by rfl, ?yypf1⟩) hHeld ?rrpf1
    case yypf1 => (intro wq hSw; (try dsimp only at hSw); go_simp; first | done | with_reducible rfl)
    simp only [Act.put, List.setIfInBounds_toArray, List.set_cons_zero, List.set_cons_succ]
    refine wpAnyH_take (i := 1) (oi := ⟨some 19, _, _, _, _, _⟩) (v := ?vvpf2) rfl (by kernel_rfl) (by kernel_rfl) (by kernel_rfl) (fun _ _ _ h => h) (Or.inl ⟨by rfl, ?yypf2⟩) hHeld ?rrpf2
    case yypf2 => (intro wq hSw; (try dsimp only at hSw); go_simp; first | done | with_reducible rfl)
    simp only [Act.put, List.setIfInBounds_toArray, List.set_cons_zero, List.set_cons_succ]
    refine wpAnyH_take (i := 2) (oi := ⟨some 20, _, _, _, _, _⟩) (v := ?vvpf3) rfl (by kernel_rfl) (by kernel_rfl) (by kernel_rfl) (fun _ _ _ h => h) (Or.inl ⟨by rfl, ?yypf3⟩) hHeld ?rrpf3
    case yypf3 => (intro wq hSw; (try dsimp only at hSw); go_simp; first | done | with_reducible rfl)
    simp only [Act.put, List.setIfInBounds_toArray, List.set_cons_zero, List.set_cons_succ]
    refine wpAnyH_take (i := 3) (oi := ⟨some 21, _, _, _, _, _⟩) (v := ?vvpf4) rfl (by kernel_rfl) (by kernel_rfl) (by kernel_rfl) (fun _ _ _ h => h) (Or.inl ⟨by rfl, ?yypf4⟩) hHeld ?rrpf4
    case yypf4 => (intro wq hSw; (try dsimp only at hSw); go_simp; first | done | with_reducible rfl)
    simp only [Act.put, List.setIfInBounds_toArray, List.set_cons_zero, List.set_cons_succ]
    refine wpAnyH_take (i := 4) (oi := ⟨some 22, _, _, _, _, _⟩) (v := ?vvpf5) rfl (by kernel_rfl) (by kernel_rfl) (by kernel_rfl) (fun _ _ _ h => h) (Or.inl ⟨by rfl, ?yypf5⟩) hHeld ?rrpf5
    case yypf5 => (intro wq hSw; (try dsimp only at hSw); go_simp; first | done | with_reducible rfl)
    simp only [Act.put, List.setIfInBounds_toArray, List.set_cons_zero, List.set_cons_succ]
    refine wpAnyH_take (i := 5) (oi := ⟨some 23, _, _, _, _, _⟩) (v := ?vvpf6) rfl (by kernel_rfl) (by kernel_rfl) (by kernel_rfl) (fun _ _ _ h => h) (Or.inl ⟨by rfl, ?yypf6⟩) hHeld ?rrpf6
    case yypf6 => (intro wq hSw; (try dsimp only at hSw); go_simp; first | done | with_reducible rfl)
    simp only [Act.put, List.setIfInBounds_toArray, List.set_cons_zero, List.set_cons_succ]
    refine wpAnyH_take (i := 6) (oi := ⟨some 17, _, _, _, _, _⟩) (v := ?vvpf7) rfl (by kernel_rfl) (by kernel_rfl) (by kernel_rfl) (fun _ _ _ h => h) (Or.inl ⟨by rfl, ?yypf7⟩) hHeld ?rrpf7
    case yypf7 => (intro wq hSw; (try dsimp only at hSw); go_simp; first | done | with_reducible rfl)
    simp only [Act.put, List.setIfInBounds_toArray, List.set_cons_zero, List.set_cons_succ]
    refine wpAnyH_take (i := 7) (oi := ⟨some 24, _, _, _, _, _⟩) (v := ?vvpf8) rfl (by kernel_rfl) (by kernel_rfl) (by kernel_rfl) (fun _ _ _ h => h) (Or.inl ⟨by rfl, ?yypf8⟩) hHeld ?rrpf8
    case yypf8 => (intro wq hSw; (try dsimp only at hSw); go_simp; first | done | with_reducible rfl)
    simp only [Act.put, List.setIfInBounds_toArray, List.set_cons_zero, List.set_cons_succ]
    refine wpAnyH_take (i := 8) (oi := ⟨some 25, _, _, _, _, _⟩) (v := ?vvpf9) rfl (by kernel_rfl) (by kernel_rfl) (by kernel_rfl) (fun _ _ _ h => h) (Or.inl ⟨by rfl, ?yypf9⟩) hHeld ?rrpf9
    case yypf9 => (intro wq hSw; (try dsimp only at hSw); go_simp; first | done | with_reducible rfl)
    simp only [Act.put, List.setIfInBounds_toArray, List.set_cons_zero, List.set_cons_succ]
    refine wpAnyH_ready (rs := [9]) (by kernel_rfl) (by simp) ?_
    refine AllReadyH.cons (o := ⟨some 7, _, _, _, _, _⟩) rfl (fun K hK => ?_) AllReadyH.nil
    go_simp
    obtain ⟨n5, hn5⟩ : ∃ u, u = X.alloc (.cells #[.int .u64 0, .string ⟨#[]⟩, .bool false] 96) := ⟨_, rfl⟩
    obtain ⟨g5, hg5⟩ : ∃ g, g = X.heap.size := ⟨_, rfl⟩
    rw [← hn5, ← hg5]
    have HB5 : Hid (Below W.heap.size W n5) := Lib.hid (by rw [hn5]; exact below_then HBX.out (below_box _ _))
    have E5 : Hid (n5.heap[g5]? = some (.cells #[.int .u64 0, .string ⟨#[]⟩, .bool false] 96)) := Lib.hid (by rw [hn5, hg5]; exact heap_new _ _)
    have L5 : Hid (W.heap.size ≤ g5) := Lib.hid (by rw [hg5]; exact HBX.out.size)
    have z0 := cell_of_blk E5.out 0
    have z1 := cell_of_blk E5.out 1
    have z2 := cell_of_blk E5.out 2
    have y0 := frozen_of_blk E5.out 0
    have y1 := frozen_of_blk E5.out 1
    have y2 := frozen_of_blk E5.out 2
    simp at z0 z1 z2
    clear hn5 hg5
    refine hK.out _ _ ?sspf10 (fun hHeld => ?_)
    case sspf10 => (exact HS.out _ HB5.out)
    clear hK K
    try simp only [Act.put, List.setIfInBounds_toArray, List.set_cons_zero, List.set_cons_succ]
    refine wpAnyH_ready (rs := [10]) (by kernel_rfl) (by simp) ?_
    refine AllReadyH.cons (o := ⟨none, _, _, _, _, _⟩) rfl (fun K hK => ?_) AllReadyH.nil
    go_simp
    obtain ⟨U, hU⟩ : ∃ u, u = ((n5.setCell ⟨g5, 0, none⟩ (.int .u64 x.word)).setCell ⟨g5, 1, none⟩ (.string x.val)).setCell ⟨g5, 2, none⟩ (.bool x.has) := ⟨_, rfl⟩
    rw [← hU]
    have HBU : Hid (Below W.heap.size W U) := Lib.hid (by rw [hU]; exact ((HB5.out.setCell (p := ⟨g5, 0, none⟩) L5.out _).setCell (p := ⟨g5, 1, none⟩) L5.out _).setCell (p := ⟨g5, 2, none⟩) L5.out _)
    clear hU z0 z1 z2 y0 y1 y2
    refine hK.out _ _ ?sspf11 (fun hHeld => ?_)
    case sspf11 => (exact HS.out _ HBU.out)
    clear hK K
    try simp only [Act.put, List.setIfInBounds_toArray, List.set_cons_zero, List.set_cons_succ]
    refine wpAnyH_take (i := 11) (oi := ⟨some 8, _, _, _, _, _⟩) (v := ?vvpf12) rfl (by kernel_rfl) (by kernel_rfl) (by kernel_rfl) (fun _ _ _ h => h) (Or.inl ⟨by rfl, ?yypf12⟩) hHeld ?rrpf12
    case yypf12 => (intro wq hSw; (try dsimp only at hSw); go_simp; first | done | with_reducible rfl)
    simp only [Act.put, List.setIfInBounds_toArray, List.set_cons_zero, List.set_cons_succ]
    refine wpAnyH_done (by kernel_rfl) ?_ _
    clear hHeld
    cases q
    · go_upto_region 6 with fail
      have c0 := (HS.out _ HBU.out).1
      obtain ⟨_, k0, k1, k2, k3, _⟩ := HS.out _ HBU.out
      have er := HR.out _ HBU.out
      have v0 := cell_of_blk er 0
      have v1 := cell_of_blk er 1
      have v2 := cell_of_blk er 2
      simp at v0 v1 v2
      have hHU := HH.out.below HBU.out
      obtain ⟨F, hm, hF⟩ := hHU.sm
      have HHU := Lib.hid hHU
      have HF := Lib.hid hF
      have hm2 : mapR U.drew Tryz.prog 47 bs ns F := hm.of_block rfl
      have hnl : ns < maxLen := by have := HNS.out; unfold maxLen; omega
      clear hHU hm hF er
      refine wp_region_still_tail 6 (by kernel_rfl) (by kernel_rfl) ?_
      change wpStill _ _ (World.drew _) (fun a' => wpList _ _ _ _ a' (World.drew _)) _ _
      simp only [List.take_succ_cons, List.take_zero, List.drop_succ_cons, List.drop_zero]
      repeat still_step
      refine wpStill_nil ?_
      go_wp2_with (at_mapUpdate; refine wpList_store _ rfl _ _ _ 106 rfl 47 96 lawKey Tryz.underlying106 bs ns F rfl hm2 hnl _ (.agg #[.int .u64 v.word, .string v.val, .bool v.has]) _ rfl rfl (keyK HK.out) ?_; intro w3 m3 t3 c3 f3 z3)
      have M3 := Lib.hid m3
      have T3 := Lib.hid t3
      clear m3 t3 c3 f3 z3 hm2
      go_wp2_with fail
      go_ret
      unfold SeePost
      rw [if_neg HBD.out, if_neg (by rw [HQ.out]; decide)]
      refine ⟨rfl, (if (F k.lit).isSome = true then ns else ns + 1), len_if ns _, ?_, ?_⟩
      · have hx : MpX w3 bs (if (F k.lit).isSome = true then ns else ns + 1) Sn.v (updK gs k (some v)) := MpX.stored (enc := Sn.v) HF.out HK.out M3.out
        have hT := HHU.out
        have hb : ∀ j, j ≠ bs → w3.heap[j]? = U.heap[j]? := fun j hj => turned_block T3.out hj
        obtain ⟨es, ck, hmap⟩ := hT.sm.map
        have hne : sb ≠ bs := fun e => by
          have h9 := hT.blk
          rw [e, hmap] at h9
          cases h9
        exact ⟨(hb sb hne).trans hT.blk, hx, hT.wm.of_block (hb bw (fun e => hT.n1 e.symm)), hT.mm.of_block (hb bm (fun e => hT.n2 e.symm)), hT.n1, hT.n2, hT.n3⟩
      · have h1 : Chg w U (fun j => j = bs) := Chg.of_below (below_then HB.out HBU.out) _
        exact h1.drew.turned T3.out (fun _ => rfl)
    · go_wp2_with fail
      go_ret
      unfold SeePost
      rw [if_neg HBD.out, if_pos HQ.out]
      exact ⟨rfl, below_then HB.out HBU.out⟩
end Go.Proofs.YtkhkdedjffkhdaaGreat
namespace Go.Proofs.YtkhkdedjffkhdaaGreat
open Go.RowKit Go.Maps

/-- a map of the sets turned -/
theorem StX.wturn {w w' : World} {sb bs bw bm ns nw nm nw' : Nat} {gs : Ky → Option Sn} {gw gm gw' : Ky → Option Tx} (h : StX w sb bs bw bm ns nw nm gs gw gm) (ht : w.mapTurned w' bw) (hx : MpX w' bw nw' Tx.v gw') : StX w' sb bs bw bm ns nw' nm gs gw' gm := by
  have hb : ∀ j, j ≠ bw → w'.heap[j]? = w.heap[j]? := fun j hj => turned_block ht hj
  obtain ⟨es, ck, hmap⟩ := h.wm.map
  have hne : sb ≠ bw := fun e => by
    have h9 := h.blk
    rw [e, hmap] at h9
    cases h9
  exact ⟨(hb sb hne).trans h.blk, h.sm.of_block (hb bs h.n1), hx, h.mm.of_block (hb bm (fun e => h.n3 e.symm)), h.n1, h.n2, h.n3⟩
def PutPost (w : World) (sb bs bw bm ns nw nm : Nat) (gs : Ky → Option Sn) (gw gm : Ky → Option Tx) (k : Ky) (t : Tx) (e : Ending) (w' : World) : Prop :=
  if (gs k).isSome = true then e = .returned (.int .i64 0) ∧ ∃ nw', nw' ≤ nw + 1 ∧ StX w' sb bs bw bm ns nw' nm gs (updK gw k (some t)) gm ∧ Chg w w' (fun j => j = bw)
  else e = .returned (.int .i64 101) ∧ Below w.heap.size w w'
set_option maxRecDepth 100000 in
set_option maxHeartbeats 2000000 in
theorem sxPut_any {w : World} {sb bs bw bm ns nw nm : Nat} {gs : Ky → Option Sn} {gw gm : Ky → Option Tx} (h : StX w sb bs bw bm ns nw nm gs gw gm) (hnw : nw ≤ 1000000) {k : Ky} (hk : k.Ok) (val : ByteArray) :
    Calls Tryz.prog 20 #[.pointer (some ⟨sb, 0, none⟩), .agg #[.int .i64 k.kind, .int .i64 k.a, .int .i64 k.b, .string k.s], .string val] w (PutPost w sb bs bw bm ns nw nm gs gw gm k ⟨val, true⟩) := by
  obtain ⟨W, hW⟩ : ∃ W, w.alloc (.cells #[.int .i64 k.kind, .int .i64 k.a, .int .i64 k.b, .string k.s] 47) = W := ⟨_, rfl⟩
  obtain ⟨kb, hkb⟩ : ∃ x, x = w.heap.size := ⟨_, rfl⟩
  have bW : Below w.heap.size w W := by rw [← hW]; exact below_box _ _
  have eW : W.heap[kb]? = some (.cells #[.int .i64 k.kind, .int .i64 k.a, .int .i64 k.b, .string k.s] 47) := by rw [← hW, hkb]; exact heap_new _ _
  have v0 := cell_of_blk eW 0
  have v1 := cell_of_blk eW 1
  have v2 := cell_of_blk eW 2
  have v3 := cell_of_blk eW 3
  simp at v0 v1 v2 v3
  have HH := Lib.hid (h.below bW)
  have HE := Lib.hid eW
  have HK := Lib.hid hk
  have HNW := Lib.hid hnw
  have HB := Lib.hid bW
  have HW := Lib.hid hW
  have HKB := Lib.hid hkb
  obtain ⟨q, hq⟩ : ∃ q, (gs k).isSome = q := ⟨_, rfl⟩
  have HQ := Lib.hid hq
  clear h hk bW eW hW hkb hnw hq
  go_enter Tryz.func20, Tryz.ntmps20
  go_upto_region 1 with fail
  rw [HW.out, ← HKB.out]
  go_wp2_with fail
  refine (unseen_any HH.out HK.out).mono ?_
  rintro e w1 ⟨rfl, b1⟩
  rw [HQ.out]
  have HB1 := Lib.hid b1
  clear b1 v0 v1 v2 v3
  cases q
  · go_wp2_with fail
    go_ret
    unfold PutPost
    rw [if_neg (by rw [HQ.out]; decide)]
    exact ⟨rfl, below_then HB.out HB1.out⟩
  · have e1 := (HB1.out.block _ (Array.getElem?_eq_some_iff.1 HE.out).1).trans HE.out
    have v0 := cell_of_blk e1 0
    have v1 := cell_of_blk e1 1
    have v2 := cell_of_blk e1 2
    have v3 := cell_of_blk e1 3
    have hH := HH.out.below HB1.out
    have c1 := cell_of_blk hH.blk 1
    simp at v0 v1 v2 v3 c1
    obtain ⟨F, hm, hF⟩ := hH.wm
    have HHU := Lib.hid hH
    have HF := Lib.hid hF
    have hm2 : mapR w1.drew Tryz.prog 47 bw nw F := hm.of_block rfl
    have hnl : nw < maxLen := by have := HNW.out; unfold maxLen; omega
    clear hH hm hF e1
    go_upto_region 3 with fail
    refine wp_region_still_tail 7 (by kernel_rfl) (by kernel_rfl) ?_
    change wpStill _ _ (World.drew _) (fun a' => wpList _ _ _ _ a' (World.drew _)) _ _
    simp only [List.take_succ_cons, List.take_zero, List.drop_succ_cons, List.drop_zero]
    repeat still_step
    refine wpStill_nil ?_
    go_wp2_with (at_mapUpdate; refine wpList_store _ rfl _ _ _ 107 rfl 47 105 lawKey Tryz.underlying107 bw nw F rfl hm2 hnl _ (.agg #[.string val, .bool true]) _ rfl rfl (keyK HK.out) ?_; intro w3 m3 t3 c3 f3 z3)
    have M3 := Lib.hid m3
    have T3 := Lib.hid t3
    clear m3 t3 c3 f3 z3 hm2
    go_wp2_with fail
    go_ret
    unfold PutPost
    rw [if_pos HQ.out]
    have hx : MpX w3 bw (if (F k.lit).isSome = true then nw else nw + 1) Tx.v (updK gw k (some ⟨val, true⟩)) := MpX.stored (enc := Tx.v) HF.out HK.out M3.out
    refine ⟨rfl, (if (F k.lit).isSome = true then nw else nw + 1), len_if nw _, (HHU.out.below (below_drewN (Below.refl _ _) 1)).wturn T3.out hx, ?_⟩
    have h1 : Chg w w1 (fun j => j = bw) := Chg.of_below (below_then HB.out HB1.out) _
    exact h1.drew.turned T3.out (fun _ => rfl)
set_option maxRecDepth 100000 in
set_option maxHeartbeats 1000000 in
theorem sxMark_any {w : World} {sb bs bw bm ns nw nm : Nat} {gs : Ky → Option Sn} {gw gm : Ky → Option Tx} (h : StX w sb bs bw bm ns nw nm gs gw gm) :
    Calls Tryz.prog 60 #[.pointer (some ⟨sb, 0, none⟩)] w fun e w' => e = .returned (.tuple #[]) ∧ StX w' sb bs bw w.heap.size ns nw nw gs gw gw ∧ Chg w w' (fun j => j = sb) := by
  have c1 := cell_of_blk h.blk 1
  have c2 := cell_of_blk h.blk 2
  simp at c1 c2
  obtain ⟨F, hm, hF⟩ := h.wm
  have HC := Lib.hid (mclone_any hm)
  have HH := Lib.hid h
  have HF := Lib.hid hF
  clear h hm hF
  go_enter Tryz.func60, Tryz.ntmps60
  go_wp2_with fail
  refine HC.out.mono ?_
  rintro e w1 ⟨rfl, m1, b1⟩
  have hH := HH.out.below b1
  have k2 := cell_of_blk hH.blk 2
  have f2 := frozen_of_blk hH.blk 2
  simp at k2
  have HM := Lib.hid m1
  have HB := Lib.hid b1
  have HH1 := Lib.hid hH
  clear m1 b1 hH c1 c2
  go_wp2_with fail
  go_end0
  have hc : Chg w1 (w1.setCell ⟨sb, 2, none⟩ (.map (some w.heap.size))) (fun j => j = sb) := (Chg.refl w1 (fun j => j = sb)).setCell (p := ⟨sb, 2, none⟩) (fun _ => rfl) _
  have hne : ∀ b, (∃ es ck, w1.heap[b]? = some (.map es ck)) → b ≠ sb := fun b ⟨es, ck, he⟩ e => by
    have h9 := HH1.out.blk
    rw [← e, he] at h9
    cases h9
  have hx : MpX w1 w.heap.size nw Tx.v gw := ⟨F, HM.out, HF.out⟩
  have hb : ∀ b, b < w1.heap.size → b ≠ sb → (w1.setCell ⟨sb, 2, none⟩ (.map (some w.heap.size))).heap[b]? = w1.heap[b]? := fun b hl hn => hc.block b hl hn
  have l1 := HH.out.sm.lt
  have l2 := HH.out.wm.lt
  refine ⟨rfl, ⟨by rw [blk_setCell HH1.out.blk]; rfl, HH1.out.sm.of_block (hb _ HH1.out.sm.lt (hne _ HH1.out.sm.map)), HH1.out.wm.of_block (hb _ HH1.out.wm.lt (hne _ HH1.out.wm.map)), hx.of_block (hb _ hx.lt (hne _ hx.map)), HH.out.n1, by omega, by omega⟩, (Chg.of_below HB.out _).trans hc (fun _ _ h => h)⟩
set_option maxRecDepth 100000 in
set_option maxHeartbeats 1000000 in
theorem sxBack_any {w : World} {sb bs bw bm ns nw nm : Nat} {gs : Ky → Option Sn} {gw gm : Ky → Option Tx} (h : StX w sb bs bw bm ns nw nm gs gw gm) :
    Calls Tryz.prog 62 #[.pointer (some ⟨sb, 0, none⟩)] w fun e w' => e = .returned (.tuple #[]) ∧ StX w' sb bs w.heap.size bm ns nm nm gs gm gm ∧ Chg w w' (fun j => j = sb) := by
  have c1 := cell_of_blk h.blk 1
  have c2 := cell_of_blk h.blk 2
  simp at c1 c2
  obtain ⟨F, hm, hF⟩ := h.mm
  have HC := Lib.hid (mclone_any hm)
  have HH := Lib.hid h
  have HF := Lib.hid hF
  clear h hm hF
  go_enter Tryz.func62, Tryz.ntmps62
  go_wp2_with fail
  refine HC.out.mono ?_
  rintro e w1 ⟨rfl, m1, b1⟩
  have hH := HH.out.below b1
  have k2 := cell_of_blk hH.blk 1
  have f2 := frozen_of_blk hH.blk 1
  simp at k2
  have HM := Lib.hid m1
  have HB := Lib.hid b1
  have HH1 := Lib.hid hH
  clear m1 b1 hH c1 c2
  go_wp2_with fail
  go_end0
  have hc : Chg w1 (w1.setCell ⟨sb, 1, none⟩ (.map (some w.heap.size))) (fun j => j = sb) := (Chg.refl w1 (fun j => j = sb)).setCell (p := ⟨sb, 1, none⟩) (fun _ => rfl) _
  have hne : ∀ b, (∃ es ck, w1.heap[b]? = some (.map es ck)) → b ≠ sb := fun b ⟨es, ck, he⟩ e => by
    have h9 := HH1.out.blk
    rw [← e, he] at h9
    cases h9
  have hx : MpX w1 w.heap.size nm Tx.v gm := ⟨F, HM.out, HF.out⟩
  have hb : ∀ b, b < w1.heap.size → b ≠ sb → (w1.setCell ⟨sb, 1, none⟩ (.map (some w.heap.size))).heap[b]? = w1.heap[b]? := fun b hl hn => hc.block b hl hn
  have l1 := HH.out.sm.lt
  have l2 := HH.out.mm.lt
  refine ⟨rfl, ⟨by rw [blk_setCell HH1.out.blk]; rfl, HH1.out.sm.of_block (hb _ HH1.out.sm.lt (hne _ HH1.out.sm.map)), hx.of_block (hb _ hx.lt (hne _ hx.map)), HH1.out.mm.of_block (hb _ HH1.out.mm.lt (hne _ HH1.out.mm.map)), by omega, HH.out.n2, by omega⟩, (Chg.of_below HB.out _).trans hc (fun _ _ h => h)⟩
/-- the keys of a plain function, in order -/
def KsG {β : Type} (g : Ky → Option β) (n : Nat) (ks : List Ky) : Prop := KySorted ks ∧ (∀ k ∈ ks, k.Ok) ∧ ks.length ≤ n ∧ ∀ k : Ky, k.Ok → (k ∈ ks ↔ (g k).isSome = true)
set_option maxRecDepth 100000 in
set_option maxHeartbeats 1000000 in
theorem sxReads_any {w : World} {sb bs bw bm ns nw nm : Nat} {gs : Ky → Option Sn} {gw gm : Ky → Option Tx} (h : StX w sb bs bw bm ns nw nm gs gw gm) (hns : ns ≤ 1000000) :
    Calls Tryz.prog 42 #[.pointer (some ⟨sb, 0, none⟩)] w fun e w' => ∃ v ks, e = .returned v ∧ KsG gs ns ks ∧ kK.Own w' w.heap.size v ks ∧ Below w.heap.size w w' := by
  have c0 := cell_of_blk h.blk 0
  simp at c0
  obtain ⟨F, hm, hF⟩ := h.sm
  have HM := Lib.hid hm
  have HF := Lib.hid hF
  have HNS := Lib.hid hns
  clear h hm hF hns
  go_enter Tryz.func42, Tryz.ntmps42
  go_wp2_with fail
  refine (keysS_any (some bs) w).mono ?_
  rintro e w1 ⟨rfl, hw1⟩
  have b1 : Below w.heap.size w w1 := by rw [hw1]; exact below_box _ _
  have HB1 := Lib.hid b1
  have HS : Hid (Calls Tryz.prog 81 #[.func (.func 108) #[] #[.pointer (some ⟨w.heap.size, 0, none⟩)], .func (.func 75) #[] #[]] w1 (SortedPost F ns w1)) := Lib.hid (sortedS_any w.heap.size bs ns F HNS.out w1 (by rw [hw1, size_alloc]; omega) (by rw [hw1]; exact cell_of_blk (heap_new w _) 0) (HM.out.of_block (b1.block _ HM.out.lt)))
  clear hw1 b1 c0
  go_wp2_with fail
  refine HS.out.mono ?_
  rintro e w2 ⟨v, ks, rfl, s1, s2, o2, b2⟩
  have HO := Lib.hid (And.intro s1 (And.intro s2 (And.intro o2 b2)))
  clear s1 s2 o2 b2
  go_wp2_with fail
  go_ret
  obtain ⟨s1, s2, o2, b2⟩ := HO.out
  refine ⟨v, ks, rfl, ⟨s1, s2.2.1, s2.2.2.1, fun k hk => ?_⟩, o2.mono HB1.out.size, below_then HB1.out b2⟩
  rw [s2.2.2.2 k hk, HF.out k hk]
  cases gs k <;> simp
end Go.Proofs.YtkhkdedjffkhdaaGreat
