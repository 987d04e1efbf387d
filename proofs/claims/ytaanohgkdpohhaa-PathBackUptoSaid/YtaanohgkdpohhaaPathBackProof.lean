/- The statement Rows.PathBackUptoSaid, proved: whatever the input of bulk at most 1048576, the law returns true and each argument reads behind the call as it did. No condition. (The frame is the kit's own way to a law's row, laid by a program of mine for arguments of any shape; the walk is in the imported text.) -/
import Derived.Test.YtaanohgkdpohhaaRows
import Derived.Test.YtaanohgkdpohhaaUpMem
import Derived.Test.YtaanohgkdpohhaaBkX
import Derived.WalkKit
import Derived.ProofKit
import Derived.OpenShut
import Derived.ShutString
import Derived.ChangeOld
import Derived.Below
import Derived.JoinedCond
namespace Go.Proofs.Ytaanohgkdpohhaa.pathBack
open Go.ChangeShapes Go.WideShapes Go.ChangeAt Go.RowKit
open Go.ChangeMaps (open_string shut_string)
set_option linter.unusedVariables false

theorem own : ownKnob Try.prog.godebug = none := by kernel_rfl
theorem laidOut : laidOutB Try.prog = true := by kernel_rfl

theorem walk (c0 : Array Value) (c1 : Array Value) (c2 : Array Value) (w : World) (z0 : c0.size = 2) (m0 : MemU 1048576 Try.prog w 105 c0.toList) (z1 : c1.size = 4) (m1 : MemU 1048576 Try.prog w 107 c1.toList) (z2 : c2.size = 2) (m2 : MemU 1048576 Try.prog w 117 c2.toList) :
    Calls Try.prog 11 #[.agg c0, .agg c1, .agg c2] w fun e w' => e = .returned (.bool true) ∧ Below w.heap.size w w' := by
  obtain ⟨va, VL, vc, ea, EL, ec, e0, h1, h2, h3, h4, h5⟩ := partsU2 m0
  obtain ⟨a, e1, g1, g2, _, g4⟩ := askU m1
  obtain ⟨x, y, e2, g5, g6⟩ := ints2U m2
  rw [agg_of_listU e0, agg_of_listU e1, agg_of_listU e2]
  exact pback_any va ea vc ec VL EL a x y w h1 h2 h3 h4 g1 g2 g4 g5 g6 h5

theorem bulk_le0 {H : Type} {d0 d1 d2 : DataW H} (hk : Rows.uptoSmall H ([d0, d1, d2] ++ []) = true) : Rows.uptoBulk d0 ≤ 1048576 := Nat.le_trans (bulk_part (l := [d0, d1, d2] ++ []) (by simp)) (of_decide_eq_true hk)
theorem bulk_le1 {H : Type} {d0 d1 d2 : DataW H} (hk : Rows.uptoSmall H ([d0, d1, d2] ++ []) = true) : Rows.uptoBulk d1 ≤ 1048576 := Nat.le_trans (bulk_part (l := [d0, d1, d2] ++ []) (by simp)) (of_decide_eq_true hk)
theorem bulk_le2 {H : Type} {d0 d1 d2 : DataW H} (hk : Rows.uptoSmall H ([d0, d1, d2] ++ []) = true) : Rows.uptoBulk d2 ≤ 1048576 := Nat.le_trans (bulk_part (l := [d0, d1, d2] ++ []) (by simp)) (of_decide_eq_true hk)
set_option maxRecDepth 100000 in
theorem lifted (os : Os) (started : os.Started) (H : Type) (enc : TypeId × Value → H) (F : Stop.Interp) :
    ReturnsInHanded {} Try.checked os 11 .any ((Rows.OpenSpec.upto Rows.pathBackSpec).pre6 enc Try.prog Try.f11 Rows.pathBackUptoRow.domain false) (((Rows.OpenSpec.upto Rows.pathBackSpec).at F).post enc Try.prog Try.f11 false true false false) := by
  refine returnsInHanded_of_cond (C := Try.checked) (s := Rows.OpenSpec.upto Rows.pathBackSpec) (k := Rows.uptoSmall) rfl own started (by kernel_rfl) Try.func11
    (OpenSpec.witness (enc := enc) (C := Try.checked) (s := Rows.OpenSpec.upto Rows.pathBackSpec) (k := Rows.uptoSmall) rfl false ⟨#[], #[.agg #[.slice none 0 0, .slice none 0 0], .agg #[.int .i64 0, .int .i64 0, .string ByteArray.empty, .int .i64 0], .agg #[.int .i64 0, .int .i64 0]], []⟩ 8 (by kernel_rfl) (by kernel_rfl) (by kernel_rfl)
      (x := ([.agg [.nil, .nil], .agg [.lit (.int .i64 0), .lit (.int .i64 0), .lit (.string []), .lit (.int .i64 0)], .agg [.lit (.int .i64 0), .lit (.int .i64 0)]], [], [])) (by kernel_rfl) rfl (by kernel_rfl)) ?_
  intro W base args ds gs before hval0 hW _ hk _
  have hval : ∀ (j : Nat) t v, Try.f11.params[j]? = some t → args[j]? = some v → Value.okWide Try.prog W .any base t v := hval0
  have hW' := hW
  obtain ⟨p, q, hA0, hV, rfl, hfz, hnd⟩ := hW
  have hA : DataW.TrodAll enc Try.prog W 0 (fun _ => true) true Try.f11.params.toList args.toList ds p := hA0
  rw [Try.params11] at hA hval
  obtain ⟨v0, vs0, d0, ds0, p0, q0, hargs, rfl, rfl, h0, r0⟩ := trodAll_cons hA
  obtain ⟨v1, vs1, d1, ds1, p1, q1, rfl, rfl, rfl, h1, r1⟩ := trodAll_cons r0
  obtain ⟨v2, vs2, d2, ds2, p2, q2, rfl, rfl, rfl, h2, r2⟩ := trodAll_cons r1
  obtain ⟨rfl, rfl, rfl⟩ := trodAll_nil r2
  obtain rfl : args = #[v0, v1, v2] := by cases args; simp_all
  obtain ⟨rfl, rfl⟩ := trodVars_none hV
  have k0 := h0
  have lt0 : ∀ x ∈ p0, x.block < W.heap.size := by obtain ⟨m, hm⟩ := k0; exact DataW.trod_lt m _ _ _ hm
  have k1 := h1
  have lt1 : ∀ x ∈ p1, x.block < W.heap.size := by obtain ⟨m, hm⟩ := k1; exact DataW.trod_lt m _ _ _ hm
  have k2 := h2
  have lt2 : ∀ x ∈ p2, x.block < W.heap.size := by obtain ⟨m, hm⟩ := k2; exact DataW.trod_lt m _ _ _ hm
  obtain ⟨c0, rfl, z0⟩ := okWide_struct Try.underlying105 (hval 0 105 v0 rfl rfl)
  replace z0 : c0.size = 2 := z0.trans (by kernel_rfl)
  have m0 : MemU 1048576 Try.prog W 105 c0.toList := MemU.of_trod h0 (bulk_le0 hk)
  obtain ⟨c1, rfl, z1⟩ := okWide_struct Try.underlying107 (hval 1 107 v1 rfl rfl)
  replace z1 : c1.size = 4 := z1.trans (by kernel_rfl)
  have m1 : MemU 1048576 Try.prog W 107 c1.toList := MemU.of_trod h1 (bulk_le1 hk)
  obtain ⟨c2, rfl, z2⟩ := okWide_arr Try.underlying117 (hval 2 117 v2 rfl rfl)
  replace z2 : c2.size = 2 := z2.trans (by kernel_rfl)
  have m2 : MemU 1048576 Try.prog W 117 c2.toList := MemU.of_trod h2 (bulk_le2 hk)
  clear hA0 hval0
  refine (walk c0 c1 c2 W z0 m0 z1 m1 z2 m2).mono fun e W' ⟨he, bel⟩ => ?_
  subst he
  exact ⟨_, rfl, _, _, _, [], _, [], hW', trodAll_mk1 (shut_bool Try.underlying4 _), (trodAll_cons_mk (Below.trod laidOut (by kernel_rfl) (of_decide_eq_true (by kernel_rfl)) k0 bel lt0) (trodAll_cons_mk (Below.trod laidOut (by kernel_rfl) (of_decide_eq_true (by kernel_rfl)) k1 bel lt1) (trodAll_cons_mk (Below.trod laidOut (by kernel_rfl) (of_decide_eq_true (by kernel_rfl)) k2 bel lt2) trodAll_mk0))), rfl, bel.frame _, fun h => by cases h⟩

theorem over : Rows.pathBackUptoRow.holds Try.pinned (Rows.OpenSpec.upto Rows.pathBackSpec) :=
  OpenClaim.holds_of_cond 11 Try.f11 rfl rfl rfl rfl rfl rfl rfl ⟨rfl, rfl, rfl, rfl, rfl⟩ rfl rfl rfl rfl rfl (by kernel_rfl) Try.func11 (by kernel_rfl)
    (of_decide_eq_true (by kernel_rfl)) (by unfold Func.isWrapper; first | (rw [if_pos (by decide +kernel)]; kernel_rfl) | (rw [if_neg (by decide +kernel)]; exact ⟨rfl, rfl⟩))
    (fun os started H enc _ F => lifted os started H enc F)

theorem proved : Rows.PathBackUptoSaid := over
#print axioms proved
end Go.Proofs.Ytaanohgkdpohhaa.pathBack
