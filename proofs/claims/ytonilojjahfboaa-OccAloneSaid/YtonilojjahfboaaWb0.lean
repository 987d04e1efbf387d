/- Layer 21, common words: whole numbers, reading calls, worlds that have grown. No condition beyond each lemma's premises. -/
import Derived.Test.YtonilojjahfboaaBase
import Derived.Test.YtonilojjahfboaaProg
import Derived.Test.YtonilojjahfboaaMem
import Derived.WalkKit
import Derived.WalkSpells
import Derived.WalkLawsBesides
import Derived.StillTailTactics
import Derived.Deep.RegionHeld3
import Derived.Deep.RegionLaw
import Derived.BigRegion
import Derived.BigQuiet
import Derived.BigCall
import Derived.Outline
import Derived.Lib.Hide
import Derived.Lib.Bytealg
import Derived.LoopTactic
import Derived.Laws.RangeAny
namespace Go.Proofs.Ytonilojjahfboaa
open Go.RowKit Go.Maps

/-- a 64 bit int -/
def I64 (x : Int) : Prop := -9223372036854775808 ≤ x ∧ x ≤ 9223372036854775807
theorem I64.wf {x : Int} (h : I64 x) : (Lit.int .i64 x).wf = true := WalkArith.wf_i64 h
theorem I64.of_wf {x : Int} (h : (Lit.int .i64 x).wf = true) : I64 x := by
  simp [Lit.wf] at h
  exact ⟨h.1, h.2⟩
theorem ret_int {k : IntKind} {a b : Int} (h : a = b) : Ending.returned (.int k a) = .returned (.int k b) := by rw [h]
theorem ret_bool {a b : Bool} (h : a = b) : Ending.returned (.bool a) = .returned (.bool b) := by rw [h]

/-- a call that only reads -/
def Quiet (P : Program) (f : FuncId) (args : Array Value) (w : World) (v : Value) : Prop := Calls P f args w fun e w' => e = .returned v ∧ ∃ m, w' = w.drewN m
theorem quiet_same {P : Program} {f : FuncId} {args : Array Value} {w : World} {v : Value} (h : Calls P f args w fun e w' => e = .returned v ∧ w = w') : Quiet P f args w v :=
  h.mono fun _ _ ⟨h1, h2⟩ => ⟨h1, 0, h2.symm⟩
theorem quiet_at {P : Program} {f : FuncId} {args : Array Value} {w : World} {n : Nat} {v : Value} (h : Quiet P f args (w.drewN n) v) : Calls P f args (w.drewN n) fun e w'' => e = .returned v ∧ ∃ m, w'' = w.drewN m :=
  h.mono fun _ _ ⟨he, m, hm⟩ => ⟨he, n + m, by rw [hm, World.drewN_drewN]⟩
theorem quiet_at2 {P : Program} {f : FuncId} {args : Array Value} {w : World} {a n : Nat} {v : Value} (h : Quiet P f args (w.drewN (a + n)) v) : Calls P f args (w.drewN (a + n)) fun e w'' => e = .returned v ∧ ∃ m, w'' = w.drewN (a + m) :=
  h.mono fun _ _ ⟨he, m, hm⟩ => ⟨he, n + m, by rw [hm, World.drewN_drewN, Nat.add_assoc]⟩
theorem quiet_same' {P : Program} {f : FuncId} {args : Array Value} {w : World} {v : Value} (h : Calls P f args w fun e w' => e = .returned v ∧ w' = w) : Quiet P f args w v :=
  h.mono fun _ _ ⟨h1, h2⟩ => ⟨h1, 0, h2⟩
theorem quiet_at3 {P : Program} {f : FuncId} {args : Array Value} {w : World} {a n : Nat} {v : Value} (h : Quiet P f args ((w.drewN a).drewN n) v) : Calls P f args ((w.drewN a).drewN n) fun e w'' => e = .returned v ∧ ∃ m, w'' = (w.drewN a).drewN m :=
  h.mono fun _ _ ⟨he, m, hm⟩ => ⟨he, n + m, by rw [hm]; simp [World.drewN_drewN, Nat.add_assoc]⟩
theorem drewN_ex2 (w : World) (a b : Nat) : ∃ m, (w.drewN a).drewN b = w.drewN m := ⟨a + b, by rw [World.drewN_drewN]⟩
theorem drewN_ex3 (w : World) (a b c : Nat) : ∃ m, ((w.drewN a).drewN b).drewN c = w.drewN m := ⟨a + b + c, by simp [World.drewN_drewN, Nat.add_assoc]⟩
theorem below_then {a b c : World} (h : Below a.heap.size a b) (k : Below b.heap.size b c) : Below a.heap.size a c := h.trans (k.mono h.size)
theorem below_cell {a b : World} (h : Below a.heap.size a b) {n : Nat} (i : Nat) (hn : n < a.heap.size) {v : Value} (hc : a.cell? ⟨n, i, none⟩ = some v) : b.cell? ⟨n, i, none⟩ = some v := (h.cell (p := ⟨n, i, none⟩) hn).trans hc
theorem below_drewN' {B : Nat} {a b : World} (h : Below B a b) (n : Nat) : Below B a (b.drewN n) := ⟨h.os, h.tape, h.output, h.size, h.block⟩
theorem below_iter {B : Nat} {a b : World} (h : Below B a b) (hB : B ≤ b.heap.size) (s : ByteArray) (p : Nat) : Below B a (b.iter s p) := h.alloc hB _
theorem below_box (w : World) (X : Obj) : Below w.heap.size w (w.alloc X) := (Below.refl _ _).alloc (Nat.le_refl _) _
/-- a world by what is known of it -/
theorem calls_gen {P : Program} {f : FuncId} {args : Array Value} {Q : Ending → World → Prop} (F : World → Prop) {w : World} (h : F w) (k : ∀ u, F u → Calls P f args u Q) : Calls P f args w Q := k w h
end Go.Proofs.Ytonilojjahfboaa
