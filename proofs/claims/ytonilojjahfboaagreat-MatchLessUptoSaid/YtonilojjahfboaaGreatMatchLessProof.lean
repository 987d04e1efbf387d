/- The statement Rows.MatchLessUptoSaid, proved: whatever the input of bulk at most 1048576, the law returns true and each argument reads behind the call as it did. No condition. (The frame is the kit's own way to a law's row, laid by a program of mine for arguments of any shape; the walk is in the imported text.) -/
import Derived.Test.YtonilojjahfboaaGreatRows
import Derived.Test.YtonilojjahfboaaGreatUpMem
import Derived.Test.YtonilojjahfboaaGreatMLRow
import Derived.WalkKit
import Derived.ProofKit
import Derived.OpenShut
import Derived.ShutString
import Derived.ChangeOld
import Derived.Below
import Derived.JoinedCond
namespace Go.Proofs.YtonilojjahfboaaGreat.matchLess
open Go.ChangeShapes Go.WideShapes Go.ChangeAt Go.RowKit
open Go.ChangeMaps (open_string shut_string)
set_option linter.unusedVariables false

theorem own : ownKnob Tryz.prog.godebug = none := by kernel_rfl
theorem laidOut : laidOutB Tryz.prog = true := by kernel_rfl

theorem walk (c0 : Array Value) (c1 : Array Value) (a2 : Int) (w : World) (z0 : c0.size = 2) (m0 : MemU 1048576 Tryz.prog w 112 c0.toList) (z1 : c1.size = 2) (m1 : MemU 1048576 Tryz.prog w 116 c1.toList) (w2 : (Lit.int .i64 a2).wf = true) :
    Calls Tryz.prog 9 #[.agg c0, .agg c1, .int .i64 a2] w fun e w' => e = .returned (.bool true) ∧ Below w.heap.size w w' := by
  obtain ⟨va, VL, vc, ea, EL, ec, e0, h1, h2, h3, h4⟩ := parts8U m0
  obtain ⟨na, la, NS, LS, nc, lc, e1, h5, h6, on, ol, g1, g2, _, _⟩ := patternU w _ m1
  have g3 : LS.length ≤ lc := links_cap (by rw [e1] at m1; exact m1)
  rw [agg_of_listU e0, agg_of_listU e1]
  exact mless_law va ea na la vc ec nc lc VL EL NS LS a2 w h1 h2 h3 h4 h5 h6 on ol g1 g2 g3

theorem bulk_le0 {H : Type} {d0 d1 d2 : DataW H} (hk : Rows.uptoSmall H ([d0, d1, d2] ++ []) = true) : Rows.uptoBulk d0 ≤ 1048576 := Nat.le_trans (bulk_part (l := [d0, d1, d2] ++ []) (by simp)) (of_decide_eq_true hk)
theorem bulk_le1 {H : Type} {d0 d1 d2 : DataW H} (hk : Rows.uptoSmall H ([d0, d1, d2] ++ []) = true) : Rows.uptoBulk d1 ≤ 1048576 := Nat.le_trans (bulk_part (l := [d0, d1, d2] ++ []) (by simp)) (of_decide_eq_true hk)
theorem bulk_le2 {H : Type} {d0 d1 d2 : DataW H} (hk : Rows.uptoSmall H ([d0, d1, d2] ++ []) = true) : Rows.uptoBulk d2 ≤ 1048576 := Nat.le_trans (bulk_part (l := [d0, d1, d2] ++ []) (by simp)) (of_decide_eq_true hk)
set_option maxRecDepth 100000 in
theorem lifted (os : Os) (started : os.Started) (H : Type) (enc : TypeId × Value → H) (F : Stop.Interp) :
    ReturnsInHanded {} Tryz.checked os 9 .any ((Rows.OpenSpec.upto Rows.matchLessSpec).pre6 enc Tryz.prog Tryz.f9 Rows.matchLessUptoRow.domain false) (((Rows.OpenSpec.upto Rows.matchLessSpec).at F).post enc Tryz.prog Tryz.f9 false true false false) := by
  refine returnsInHanded_of_cond (C := Tryz.checked) (s := Rows.OpenSpec.upto Rows.matchLessSpec) (k := Rows.uptoSmall) rfl own started (by kernel_rfl) Tryz.func9
    (OpenSpec.witness (enc := enc) (C := Tryz.checked) (s := Rows.OpenSpec.upto Rows.matchLessSpec) (k := Rows.uptoSmall) rfl false ⟨#[], #[.agg #[.slice none 0 0, .slice none 0 0], .agg #[.slice none 0 0, .slice none 0 0], .int .i64 0], []⟩ 8 (by kernel_rfl) (by kernel_rfl) (by kernel_rfl)
      (x := ([.agg [.nil, .nil], .agg [.nil, .nil], .lit (.int .i64 0)], [], [])) (by kernel_rfl) rfl (by kernel_rfl)) ?_
  intro W base args ds gs before hval0 hW _ hk _
  have hval : ∀ (j : Nat) t v, Tryz.f9.params[j]? = some t → args[j]? = some v → Value.okWide Tryz.prog W .any base t v := hval0
  have hW' := hW
  obtain ⟨p, q, hA0, hV, rfl, hfz, hnd⟩ := hW
  have hA : DataW.TrodAll enc Tryz.prog W 0 (fun _ => true) true Tryz.f9.params.toList args.toList ds p := hA0
  rw [Tryz.params9] at hA hval
  obtain ⟨v0, vs0, d0, ds0, p0, q0, hargs, rfl, rfl, h0, r0⟩ := trodAll_cons hA
  obtain ⟨v1, vs1, d1, ds1, p1, q1, rfl, rfl, rfl, h1, r1⟩ := trodAll_cons r0
  obtain ⟨v2, vs2, d2, ds2, p2, q2, rfl, rfl, rfl, h2, r2⟩ := trodAll_cons r1
  obtain ⟨rfl, rfl, rfl⟩ := trodAll_nil r2
  obtain rfl : args = #[v0, v1, v2] := by cases args; simp_all
  obtain ⟨rfl, rfl⟩ := trodVars_none hV
  have k0 := h0
  have lt0 : ∀ x ∈ p0, x.block < W.heap.size := by obtain ⟨m, hm⟩ := k0; exact DataW.trod_lt m _ _ _ hm
  have k1 := h1
  have lt1 : ∀ x ∈ p1, x.block < W.heap.size := by obtain ⟨m, hm⟩ := k1; exact DataW.trod_lt m _ _ _ hm
  have k2 := h2
  have lt2 : ∀ x ∈ p2, x.block < W.heap.size := by obtain ⟨m, hm⟩ := k2; exact DataW.trod_lt m _ _ _ hm
  obtain ⟨c0, rfl, z0⟩ := okWide_struct Tryz.underlying112 (hval 0 112 v0 rfl rfl)
  replace z0 : c0.size = 2 := z0.trans (by kernel_rfl)
  have m0 : MemU 1048576 Tryz.prog W 112 c0.toList := MemU.of_trod h0 (bulk_le0 hk)
  obtain ⟨c1, rfl, z1⟩ := okWide_struct Tryz.underlying116 (hval 1 116 v1 rfl rfl)
  replace z1 : c1.size = 2 := z1.trans (by kernel_rfl)
  have m1 : MemU 1048576 Tryz.prog W 116 c1.toList := MemU.of_trod h1 (bulk_le1 hk)
  obtain ⟨a2, rfl, rfl, rfl, w2⟩ := open_int Tryz.underlying3 (hval 2 3 v2 rfl rfl) h2
  clear hA0 hval0
  refine (walk c0 c1 a2 W z0 m0 z1 m1 w2).mono fun e W' ⟨he, bel⟩ => ?_
  subst he
  exact ⟨_, rfl, _, _, _, [], _, [], hW', trodAll_mk1 (shut_bool Tryz.underlying4 _), (trodAll_cons_mk (Below.trod laidOut (by kernel_rfl) (of_decide_eq_true (by kernel_rfl)) k0 bel lt0) (trodAll_cons_mk (Below.trod laidOut (by kernel_rfl) (of_decide_eq_true (by kernel_rfl)) k1 bel lt1) (trodAll_cons_mk (Below.trod laidOut (by kernel_rfl) (of_decide_eq_true (by kernel_rfl)) k2 bel lt2) trodAll_mk0))), rfl, bel.frame _, fun h => by cases h⟩

theorem and_t {a b : Bool} (h : a = true) (h2 : b = true) : (a && b) = true := by rw [h, h2]; rfl
set_option maxRecDepth 100000 in
set_option maxHeartbeats 4000000 in
theorem closed : joinedFacts Tryz.pinned.checked.prog 9 Tryz.f9 (Rows.OpenSpec.upto Rows.matchLessSpec).bare Rows.matchLessUptoRow = true := by
  unfold joinedFacts
  repeat' (with_reducible refine and_t ?_ ?_)
  all_goals (as_aux_lemma => kernel_rfl)

theorem over : Rows.matchLessUptoRow.holds Tryz.pinned (Rows.OpenSpec.upto Rows.matchLessSpec) :=
  OpenClaim.holds_of_cond 9 Tryz.f9 rfl rfl rfl rfl rfl rfl rfl ⟨rfl, rfl, rfl, rfl, rfl⟩ rfl rfl rfl rfl rfl (by kernel_rfl) Tryz.func9 closed
    (of_decide_eq_true (by kernel_rfl)) (by unfold Func.isWrapper; first | (rw [if_pos (by decide +kernel)]; kernel_rfl) | (rw [if_neg (by decide +kernel)]; exact ⟨rfl, rfl⟩))
    (fun os started H enc _ F => lifted os started H enc F)

theorem proved : Rows.MatchLessUptoSaid := over
#print axioms proved
end Go.Proofs.YtonilojjahfboaaGreat.matchLess
