/- A walk: Edges. Conditions: each contract's own premises. -/
import Derived.Test.YtaanohgkdpohhaaWk1
namespace Go.Proofs.Ytaanohgkdpohhaa
open Go.RowKit Go.Maps

def sideP (out : Bool) (n : Int) : Eg → Bool := if out then outP n else inP n
/-- what Edges leaves -/
def WgPost (w0 w : World) (wb gb : Nat) (st : Option Nat) (E : List Eg) (n : Int) (out : Bool) (e : Ending) (w' : World) : Prop :=
  ∃ v, e = .returned v ∧ kI.Own w' w.heap.size v (if (payS st 1).isSome then idsE E (sideP out n) else []) ∧ WkS w0 w' wb gb (payS st 1) ∧ Chg w w' (fun i => i = wb)
set_option maxRecDepth 100000 in
set_option maxHeartbeats 1000000 in
theorem wedges_any (w0 w : World) (wb gb vb eb : Nat) (V : List Vt) (E : List Eg) (st : Option Nat) (n : Int) (out : Bool) (hG : GrC w0 gb vb eb V E) (h : WkS w0 w wb gb st) (hE : E.length ≤ 1000000) :
    Calls Try.prog 116 #[.pointer (some ⟨wb, 0, none⟩), .int .i64 n, .bool out] w (WgPost w0 w wb gb st E n out) := by
  have HG := Lib.hid hG
  have H0 := Lib.hid h
  have HE := Lib.hid hE
  clear h hG hE
  go_enter Try.func116, Try.ntmps116
  go_wp2_with fail
  refine (pay_any w0 _ wb gb st H0.out).mono ?_
  rintro e w1 ⟨rfl, s1, k1⟩
  have S1 := Lib.hid s1
  have K1 := Lib.hid k1
  clear s1 k1
  obtain ⟨b, hb⟩ : ∃ b, (payS st 1).isSome = b := ⟨_, rfl⟩
  unfold WgPost
  rw [hb]
  have HBB := Lib.hid hb
  clear hb
  obtain ⟨c0, _, _, _, _⟩ := S1.out.cells
  have hm := mOut (.pointer (some ⟨gb, 0, none⟩)) w1
  have hm2 := mIn (.pointer (some ⟨gb, 0, none⟩)) w1
  have GW := Lib.hid (HG.out.below S1.out.bel)
  cases b
  · go_wp2_with fail
    go_ret
    exact ⟨_, rfl, by rw [HBB.out]; exact RowK.Own.nil kI _ _, S1.out, K1.out⟩
  · cases out
    · go_wp2_with fail
      refine (gin_any gb vb eb V E n w1 GW.out HE.out).mono ?_
      rintro e w2 ⟨v, rfl, o2, b2⟩
      obtain ⟨a, cap, rfl⟩ := o2.shape
      have HO := Lib.hid o2
      have HB := Lib.hid b2
      clear o2 b2
      go_wp2_with fail
      go_ret
      exact ⟨_, rfl, by rw [HBB.out, if_pos rfl]; exact HO.out.mono K1.out.size, S1.out.below HB.out, K1.out.trans (Chg.of_below HB.out (fun _ => False)) (fun _ _ e => e.elim)⟩
    · go_wp2_with fail
      refine (gout_any gb vb eb V E n w1 GW.out HE.out).mono ?_
      rintro e w2 ⟨v, rfl, o2, b2⟩
      obtain ⟨a, cap, rfl⟩ := o2.shape
      have HO := Lib.hid o2
      have HB := Lib.hid b2
      clear o2 b2
      go_wp2_with fail
      go_ret
      exact ⟨_, rfl, by rw [HBB.out, if_pos rfl]; exact HO.out.mono K1.out.size, S1.out.below HB.out, K1.out.trans (Chg.of_below HB.out (fun _ => False)) (fun _ _ e => e.elim)⟩
end Go.Proofs.Ytaanohgkdpohhaa
