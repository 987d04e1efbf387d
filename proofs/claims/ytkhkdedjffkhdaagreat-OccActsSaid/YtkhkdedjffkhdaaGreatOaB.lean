/- The law's sets: Put, Drop. Conditions: each contract's own premises. The law's sets: Mark, Back. Conditions: each contract's own premises. The law's does. Conditions: each contract's own premises. What three transactions, their store and the reference's tell; how they come to be. Conditions: each lemma's own premises. -/
import Derived.Test.YtkhkdedjffkhdaaGreatOaA
import Derived.Deep.RegionHeld3
import Derived.Deep.CutRange
import Derived.Test.YtkhkdedjffkhdaaGreatRcB
set_option linter.unusedVariables false
set_option linter.unusedSimpArgs false
namespace Go.Proofs.YtkhkdedjffkhdaaGreat
open Go.RowKit Go.Maps

/-- an act of the law -/
structure Ac20 where
  kind : Int
  tt : Int
  k : Ky
  val : ByteArray
  last : Nat
  ep : Int
structure Ac20.Ok (x : Ac20) : Prop where
  kind : I64 x.kind
  tt : I64 x.tt
  k : x.k.Ok
  val : x.val.size ≤ maxLen
  last : x.last < 18446744073709551616
  ep : I64 x.ep
/-- it lies in a box that is nobody's -/
def AcAt (ab : Nat) (x : Ac20) (u : World) (m : W3) : Prop := u.heap[ab]? = some (.cells #[.int .i64 x.kind, .int .i64 x.tt, .int .i64 x.k.kind, .int .i64 x.k.a, .int .i64 x.k.b, .string x.k.s, .string x.val, .int .u64 x.last, .int .i64 x.ep] 49 (0, 0)) ∧ ∀ c, ¬ m.own c ab
theorem AcAt.keep {ab : Nat} {x : Ac20} {u u' : World} {m m' : W3} (h : AcAt ab x u m) (hk : Kp u u' m m') : AcAt ab x u' m' := hk.stay h.1 h.2
/-- whose the pointers are -/
def EqA (m : W3) (j tb sb rtb rsb : Nat) : Prop := (m.a j).m.tb = tb ∧ (m.a j).m.sb = sb ∧ (m.b j).m.tb = rtb ∧ (m.b j).m.sb = rsb
theorem EqA.tx {m : W3} {j tb sb rtb rsb : Nat} {a : Ta} {s : Sto} (h : EqA m j tb sb rtb rsb) (e : a.m.tb = (m.a j).m.tb ∧ a.m.sb = (m.a j).m.sb) : EqA (m.tx j a s) j tb sb rtb rsb := by
  have e9 : (m.tx j a s).a j = a := updN_same _ _ _
  exact ⟨by rw [e9, e.1]; exact h.1, by rw [e9, e.2]; exact h.2.1, h.2.2⟩
theorem EqA.rx {m : W3} {j tb sb rtb rsb : Nat} {b : Ra} {v : Value} (h : EqA m j tb sb rtb rsb) (e : b.m.tb = (m.b j).m.tb ∧ b.m.sb = (m.b j).m.sb) : EqA (m.rx j b v) j tb sb rtb rsb := by
  have e9 : (m.rx j b v).b j = b := updN_same _ _ _
  exact ⟨h.1, h.2.1, by rw [e9, e.1]; exact h.2.2.1, by rw [e9, e.2]; exact h.2.2.2⟩
theorem sets_cells {w0 u : World} {m : W3} {p : S3} {j tb sb rtb rsb ab : Nat} {x : Ac20} (hj : j < 3) (h : M3 w0 u m p) (he : EqA m j tb sb rtb rsb) (ha : AcAt ab x u m) :
    u.cell? ⟨tb, 0, none⟩ = some (.pointer (some ⟨sb, 0, none⟩)) ∧ tb < u.heap.size ∧ u.cell? ⟨rtb, 4, none⟩ = some (.pointer (some ⟨rsb, 0, none⟩)) ∧ rtb < u.heap.size ∧ u.cell? ⟨ab, 2, none⟩ = some (.int .i64 x.k.kind) ∧ u.cell? ⟨ab, 3, none⟩ = some (.int .i64 x.k.a) ∧ u.cell? ⟨ab, 4, none⟩ = some (.int .i64 x.k.b) ∧ u.cell? ⟨ab, 5, none⟩ = some (.string x.k.s) ∧ u.cell? ⟨ab, 6, none⟩ = some (.string x.val) ∧ ab < u.heap.size := by
  obtain ⟨rfl, rfl, rfl, rfl⟩ := he
  obtain ⟨c0, _, _, _, _, _, _, _, _, _, _, cl⟩ := (h.tx j hj).t.cell
  obtain ⟨_, _, _, _, d4, _, _, _, _, _, dl⟩ := (h.rx j hj).c.cell
  exact ⟨c0, cl, d4, dl, by rw [cell_of_blk ha.1]; rfl, by rw [cell_of_blk ha.1]; rfl, by rw [cell_of_blk ha.1]; rfl, by rw [cell_of_blk ha.1]; rfl, by rw [cell_of_blk ha.1]; rfl, (Array.getElem?_eq_some_iff.1 ha.1).1⟩
/-- what an act leaves of all -/
def DoPost (w0 w : World) (m : W3) (N : Nat) (e : Ending) (u' : World) : Prop :=
  e = .returned (.bool true) ∧ ∃ m' p', M3 w0 u' m' p' ∧ V3 m' p' (N + 1) ∧ Kp w u' m m' ∧ (m'.tp = m.tp ∧ m'.rp = m.rp ∧ m'.s.sb = m.s.sb ∧ m'.rb = m.rb ∧ m'.room = m.room)
section
variable {w0 w : World} {m : W3} {p : S3} {j N : Nat} {x : Ac20}
set_option maxRecDepth 100000 in
set_option maxHeartbeats 8000000 in
theorem l20put_any (h : M3 w0 w m p) (hV : V3 m p N) (hj : j < 3) (hN : N ≤ 900) (h0 : (p.T j).ph = 0) (hx : x.Ok) (hkind : x.kind = 1) (hval : x.val.size ≤ 200) :
    Calls Tryz.prog 27 #[.pointer (some ⟨(m.a j).m.tb, 0, none⟩), .pointer (some ⟨(m.b j).m.tb, 0, none⟩), .agg #[.int .i64 x.kind, .int .i64 x.tt, .int .i64 x.k.kind, .int .i64 x.k.a, .int .i64 x.k.b, .string x.k.s, .string x.val, .int .u64 x.last, .int .i64 x.ep]] w (DoPost w0 w m N) := by
  obtain ⟨code, G, H, hD⟩ := duo_put (w0 := w0) hV hj (by omega) h0 hx.k hval
  obtain ⟨W, hW⟩ : ∃ W, W = w.alloc (.cells #[.int .i64 x.kind, .int .i64 x.tt, .int .i64 x.k.kind, .int .i64 x.k.a, .int .i64 x.k.b, .string x.k.s, .string x.val, .int .u64 x.last, .int .i64 x.ep] 49) := ⟨_, rfl⟩
  obtain ⟨ab, hab⟩ : ∃ b, b = w.heap.size := ⟨_, rfl⟩
  obtain ⟨tb, htb⟩ : ∃ b, b = (m.a j).m.tb := ⟨_, rfl⟩
  obtain ⟨sb, hsb⟩ : ∃ b, b = (m.a j).m.sb := ⟨_, rfl⟩
  obtain ⟨rtb, hrtb⟩ : ∃ b, b = (m.b j).m.tb := ⟨_, rfl⟩
  obtain ⟨rsb, hrsb⟩ : ∃ b, b = (m.b j).m.sb := ⟨_, rfl⟩
  have hbW : Below w.heap.size w W := by rw [hW]; exact below_box _ _
  have HMW : Hid (M3 w0 W m p) := Lib.hid (h.below hbW)
  have HAW : Hid (AcAt ab x W m) := Lib.hid ⟨by rw [hW, hab]; exact heap_new w _, fun c hc => by have := h.lt hc; omega⟩
  have HPW : Hid (Kp w W m m) := Lib.hid (Kp.below hbW m)
  have HEQ : Hid (EqA m j tb sb rtb rsb) := Lib.hid ⟨htb.symm, hsb.symm, hrtb.symm, hrsb.symm⟩
  have HSS := Lib.hid (fun u m' p' (hM : M3 w0 u m' p') (hE : EqA m' j tb sb rtb rsb) (hA : AcAt ab x u m') => sets_cells hj hM hE hA)
  have HVV := Lib.hid hV
  have HJ := Lib.hid hj
  have HKO := Lib.hid hx.k
  have HNN := Lib.hid hN
  have HWW := Lib.hid hW
  have HAA := Lib.hid hab
  rw [← hsb, ← hrsb] at hD
  have HD := Lib.hid hD
  rw [← htb, ← hrtb]
  have p0 := cell_of_blk HAW.out.1 0
  have pl := (Array.getElem?_eq_some_iff.1 HAW.out.1).1
  simp at p0
  rw [hkind] at p0 ⊢
  rw [hkind] at HWW
  clear h hV hj hN h0 hx hkind hW hab htb hsb hrtb hrsb hbW hD
  go_enter Tryz.func27, Tryz.ntmps27
  go_upto_region 1 with fail
  rw [← HWW.out, ← HAA.out]
  go_upto_region 3 with fail
  refine wp_region_held_drew (S := (fun u : World => u.cell? ⟨tb, 0, none⟩ = some (.pointer (some ⟨sb, 0, none⟩)) ∧ tb < u.heap.size ∧ u.cell? ⟨rtb, 4, none⟩ = some (.pointer (some ⟨rsb, 0, none⟩)) ∧ rtb < u.heap.size ∧ u.cell? ⟨ab, 2, none⟩ = some (.int .i64 x.k.kind) ∧ u.cell? ⟨ab, 3, none⟩ = some (.int .i64 x.k.a) ∧ u.cell? ⟨ab, 4, none⟩ = some (.int .i64 x.k.b) ∧ u.cell? ⟨ab, 5, none⟩ = some (.string x.k.s) ∧ u.cell? ⟨ab, 6, none⟩ = some (.string x.val) ∧ ab < u.heap.size)) (by kernel_rfl) (HSS.out _ _ _ (HMW.out.below (below_drewN (Below.refl _ _) 1)) HEQ.out (HAW.out.keep (Kp.below (below_drewN (Below.refl _ _) 1) _))) (fun hHeld => ?_)
  obtain ⟨X0, hGen⟩ : ∃ u, u = World.drew W := ⟨_, rfl⟩
  rw [← hGen] at hHeld ⊢
  have hb0 : Below W.heap.size W X0 := by rw [hGen]; exact below_drewN (Below.refl _ _) 1
  have HM0 := Lib.hid (HMW.out.below hb0)
  have HA0 := Lib.hid (HAW.out.keep (Kp.below hb0 _))
  have HP0 := Lib.hid (HPW.out.trans (Kp.below hb0 _))
  clear hb0
  clear hGen
  refine wpAnyH_take (i := 0) (oi := ⟨some 17, _, _, _, _, _⟩) (v := ?vvqa1) rfl (by kernel_rfl) (by kernel_rfl) (by kernel_rfl) (fun _ _ _ h => h) (Or.inl ⟨by rfl, ?yyqa1⟩) hHeld ?rrqa1
  case yyqa1 => (intro wq hSw; (try dsimp only at hSw); go_simp; first | done | with_reducible rfl)
  simp only [Act.put, List.setIfInBounds_toArray, List.set_cons_zero, List.set_cons_succ]
  refine wpAnyH_take (i := 1) (oi := ⟨some 18, _, _, _, _, _⟩) (v := ?vvqa2) rfl (by kernel_rfl) (by kernel_rfl) (by kernel_rfl) (fun _ _ _ h => h) (Or.inl ⟨by rfl, ?yyqa2⟩) hHeld ?rrqa2
  case yyqa2 => (intro wq hSw; (try dsimp only at hSw); go_simp; first | done | with_reducible rfl)
  simp only [Act.put, List.setIfInBounds_toArray, List.set_cons_zero, List.set_cons_succ]
  refine wpAnyH_take (i := 2) (oi := ⟨some 19, _, _, _, _, _⟩) (v := ?vvqa3) rfl (by kernel_rfl) (by kernel_rfl) (by kernel_rfl) (fun _ _ _ h => h) (Or.inl ⟨by rfl, ?yyqa3⟩) hHeld ?rrqa3
  case yyqa3 => (intro wq hSw; (try dsimp only at hSw); go_simp; first | done | with_reducible rfl)
  simp only [Act.put, List.setIfInBounds_toArray, List.set_cons_zero, List.set_cons_succ]
  refine wpAnyH_take (i := 3) (oi := ⟨some 20, _, _, _, _, _⟩) (v := ?vvqa4) rfl (by kernel_rfl) (by kernel_rfl) (by kernel_rfl) (fun _ _ _ h => h) (Or.inl ⟨by rfl, ?yyqa4⟩) hHeld ?rrqa4
  case yyqa4 => (intro wq hSw; (try dsimp only at hSw); go_simp; first | done | with_reducible rfl)
  simp only [Act.put, List.setIfInBounds_toArray, List.set_cons_zero, List.set_cons_succ]
  refine wpAnyH_take (i := 4) (oi := ⟨some 21, _, _, _, _, _⟩) (v := ?vvqa5) rfl (by kernel_rfl) (by kernel_rfl) (by kernel_rfl) (fun _ _ _ h => h) (Or.inl ⟨by rfl, ?yyqa5⟩) hHeld ?rrqa5
  case yyqa5 => (intro wq hSw; (try dsimp only at hSw); go_simp; first | done | with_reducible rfl)
  simp only [Act.put, List.setIfInBounds_toArray, List.set_cons_zero, List.set_cons_succ]
  refine wpAnyH_take (i := 5) (oi := ⟨some 22, _, _, _, _, _⟩) (v := ?vvqa6) rfl (by kernel_rfl) (by kernel_rfl) (by kernel_rfl) (fun _ _ _ h => h) (Or.inl ⟨by rfl, ?yyqa6⟩) hHeld ?rrqa6
  case yyqa6 => (intro wq hSw; (try dsimp only at hSw); go_simp; first | done | with_reducible rfl)
  simp only [Act.put, List.setIfInBounds_toArray, List.set_cons_zero, List.set_cons_succ]
  refine wpAnyH_take (i := 6) (oi := ⟨some 23, _, _, _, _, _⟩) (v := ?vvqa7) rfl (by kernel_rfl) (by kernel_rfl) (by kernel_rfl) (fun _ _ _ h => h) (Or.inl ⟨by rfl, ?yyqa7⟩) hHeld ?rrqa7
  case yyqa7 => (intro wq hSw; (try dsimp only at hSw); go_simp; first | done | with_reducible rfl)
  simp only [Act.put, List.setIfInBounds_toArray, List.set_cons_zero, List.set_cons_succ]
  refine wpAnyH_take (i := 7) (oi := ⟨some 24, _, _, _, _, _⟩) (v := ?vvqa8) rfl (by kernel_rfl) (by kernel_rfl) (by kernel_rfl) (fun _ _ _ h => h) (Or.inl ⟨by rfl, ?yyqa8⟩) hHeld ?rrqa8
  case yyqa8 => (intro wq hSw; (try dsimp only at hSw); go_simp; first | done | with_reducible rfl)
  simp only [Act.put, List.setIfInBounds_toArray, List.set_cons_zero, List.set_cons_succ]
  refine wpAnyH_take (i := 9) (oi := ⟨some 26, _, _, _, _, _⟩) (v := ?vvqa9) rfl (by kernel_rfl) (by kernel_rfl) (by kernel_rfl) (fun _ _ _ h => h) (Or.inl ⟨by rfl, ?yyqa9⟩) hHeld ?rrqa9
  case yyqa9 => (intro wq hSw; (try dsimp only at hSw); go_simp; first | done | with_reducible rfl)
  simp only [Act.put, List.setIfInBounds_toArray, List.set_cons_zero, List.set_cons_succ]
  refine wpAnyH_take (i := 10) (oi := ⟨some 27, _, _, _, _, _⟩) (v := ?vvqa10) rfl (by kernel_rfl) (by kernel_rfl) (by kernel_rfl) (fun _ _ _ h => h) (Or.inl ⟨by rfl, ?yyqa10⟩) hHeld ?rrqa10
  case yyqa10 => (intro wq hSw; (try dsimp only at hSw); go_simp; first | done | with_reducible rfl)
  simp only [Act.put, List.setIfInBounds_toArray, List.set_cons_zero, List.set_cons_succ]
  refine wpAnyH_take (i := 11) (oi := ⟨some 28, _, _, _, _, _⟩) (v := ?vvqa11) rfl (by kernel_rfl) (by kernel_rfl) (by kernel_rfl) (fun _ _ _ h => h) (Or.inl ⟨by rfl, ?yyqa11⟩) hHeld ?rrqa11
  case yyqa11 => (intro wq hSw; (try dsimp only at hSw); go_simp; first | done | with_reducible rfl)
  simp only [Act.put, List.setIfInBounds_toArray, List.set_cons_zero, List.set_cons_succ]
  refine wpAnyH_take (i := 12) (oi := ⟨some 29, _, _, _, _, _⟩) (v := ?vvqa12) rfl (by kernel_rfl) (by kernel_rfl) (by kernel_rfl) (fun _ _ _ h => h) (Or.inl ⟨by rfl, ?yyqa12⟩) hHeld ?rrqa12
  case yyqa12 => (intro wq hSw; (try dsimp only at hSw); go_simp; first | done | with_reducible rfl)
  simp only [Act.put, List.setIfInBounds_toArray, List.set_cons_zero, List.set_cons_succ]
  refine wpAnyH_take (i := 13) (oi := ⟨some 30, _, _, _, _, _⟩) (v := ?vvqa13) rfl (by kernel_rfl) (by kernel_rfl) (by kernel_rfl) (fun _ _ _ h => h) (Or.inl ⟨by rfl, ?yyqa13⟩) hHeld ?rrqa13
  case yyqa13 => (intro wq hSw; (try dsimp only at hSw); go_simp; first | done | with_reducible rfl)
  simp only [Act.put, List.setIfInBounds_toArray, List.set_cons_zero, List.set_cons_succ]
  refine wpAnyH_take (i := 14) (oi := ⟨some 31, _, _, _, _, _⟩) (v := ?vvqa14) rfl (by kernel_rfl) (by kernel_rfl) (by kernel_rfl) (fun _ _ _ h => h) (Or.inl ⟨by rfl, ?yyqa14⟩) hHeld ?rrqa14
  case yyqa14 => (intro wq hSw; (try dsimp only at hSw); go_simp; first | done | with_reducible rfl)
  simp only [Act.put, List.setIfInBounds_toArray, List.set_cons_zero, List.set_cons_succ]
  refine wpAnyH_take (i := 16) (oi := ⟨some 33, _, _, _, _, _⟩) (v := ?vvqa15) rfl (by kernel_rfl) (by kernel_rfl) (by kernel_rfl) (fun _ _ _ h => h) (Or.inl ⟨by rfl, ?yyqa15⟩) hHeld ?rrqa15
  case yyqa15 => (intro wq hSw; (try dsimp only at hSw); go_simp; first | done | with_reducible rfl)
  simp only [Act.put, List.setIfInBounds_toArray, List.set_cons_zero, List.set_cons_succ]
  refine wpAnyH_take (i := 17) (oi := ⟨some 34, _, _, _, _, _⟩) (v := ?vvqa16) rfl (by kernel_rfl) (by kernel_rfl) (by kernel_rfl) (fun _ _ _ h => h) (Or.inl ⟨by rfl, ?yyqa16⟩) hHeld ?rrqa16
  case yyqa16 => (intro wq hSw; (try dsimp only at hSw); go_simp; first | done | with_reducible rfl)
  simp only [Act.put, List.setIfInBounds_toArray, List.set_cons_zero, List.set_cons_succ]
  refine wpAnyH_ready (rs := [8, 15]) (by kernel_rfl) (by simp) ?_
  refine AllReadyH.cons (o := ⟨some 25, _, _, _, _, _⟩) rfl (fun K hK => ?_) (AllReadyH.cons (o := ⟨some 32, _, _, _, _, _⟩) rfl (fun K hK => ?_) AllReadyH.nil)
  · go_simp
    refine ((HD.out 0 0).pr _ _ _ trivial HM0.out rfl rfl rfl rfl).mono ?_
    rintro e up ⟨ap, sp, Tp, Pp, rfl, hG, hr, hM, hk⟩
    have HGp := Lib.hid hG
    have HRp := Lib.hid hr
    have HMp := Lib.hid hM
    have HAp := Lib.hid (HA0.out.keep hk)
    have HPp := Lib.hid (HP0.out.trans hk)
    have HEp : Hid (EqA (m.tx j ap sp) j tb sb rtb rsb) := Lib.hid (HEQ.out.tx hr.2.2)
    clear hG hr hM hk
    try dsimp only
    refine hK.out _ _ ?ssqa17 (fun hHeld => ?_)
    case ssqa17 => (exact HSS.out _ _ _ HMp.out HEp.out HAp.out)
    clear hK K
    try simp only [Act.put, List.setIfInBounds_toArray, List.set_cons_zero, List.set_cons_succ]
    refine wpAnyH_ready (rs := [15]) (by kernel_rfl) (by simp) ?_
    refine AllReadyH.cons (o := ⟨some 32, _, _, _, _, _⟩) rfl (fun K hK => ?_) AllReadyH.nil
    go_simp
    obtain ⟨nkb, hn⟩ : ∃ u, u = up.alloc (.cells #[.int .i64 x.k.kind, .int .i64 x.k.a, .int .i64 x.k.b, .string x.k.s] 47) := ⟨_, rfl⟩
    obtain ⟨gkb, hg⟩ : ∃ g, g = up.heap.size := ⟨_, rfl⟩
    rw [← hn, ← hg]
    have hbkb : Below up.heap.size up nkb := by rw [hn]; exact below_box _ _
    have HMkb := Lib.hid (HMp.out.below hbkb)
    have HAkb := Lib.hid (HAp.out.keep (Kp.below hbkb _))
    have HPkb := Lib.hid (HPp.out.trans (Kp.below hbkb _))
    have HKkb : Hid (KyAt gkb x.k nkb (m.tx j ap sp)) := Lib.hid ⟨by rw [hn, hg]; exact heap_new _ _, fun c hc => by have := HMp.out.lt hc; omega⟩
    clear hn hg hbkb
    try dsimp only
    refine hK.out _ _ ?ssqa18 (fun hHeld => ?_)
    case ssqa18 => (exact HSS.out _ _ _ HMkb.out HEp.out HAkb.out)
    clear hK K
    try simp only [Act.put, List.setIfInBounds_toArray, List.set_cons_zero, List.set_cons_succ]
    refine wpAnyH_ready (rs := [18]) (by kernel_rfl) (by simp) ?_
    refine AllReadyH.cons (o := ⟨some 35, _, _, _, _, _⟩) rfl (fun K hK => ?_) AllReadyH.nil
    go_simp
    refine ((HD.out _ _).rf _ _ _ HKkb.out HMkb.out rfl rfl rfl rfl rfl rfl rfl).mono ?_
    rintro e ur ⟨rfl, br, vr, Rr, Xr, Lr, hH, hr, hM, hk⟩
    have HHr := Lib.hid hH
    have HMr := Lib.hid hM
    have HAr := Lib.hid (HAkb.out.keep hk)
    have HPr := Lib.hid (HPkb.out.trans hk)
    have HEr : Hid (EqA ((m.tx j ap sp).rx j br vr) j tb sb rtb rsb) := Lib.hid (HEp.out.rx hr)
    clear hH hr hM hk
    try dsimp only
    refine hK.out _ _ ?ssqa19 (fun hHeld => ?_)
    case ssqa19 => (exact HSS.out _ _ _ HMr.out HEr.out HAr.out)
    clear hK K
    try simp only [Act.put, List.setIfInBounds_toArray, List.set_cons_zero, List.set_cons_succ]
    refine wpAnyH_take (i := 19) (oi := ⟨some 36, _, _, _, _, _⟩) (v := ?vvqa20) rfl (by kernel_rfl) (by kernel_rfl) (by kernel_rfl) (fun _ _ _ h => h) (Or.inl ⟨by rfl, ?yyqa20⟩) hHeld ?rrqa20
    case yyqa20 => (intro wq hSw; (try dsimp only at hSw); go_simp; first | done | with_reducible rfl)
    simp only [Act.put, List.setIfInBounds_toArray, List.set_cons_zero, List.set_cons_succ]
    refine wpAnyH_take (i := 20) (oi := ⟨some 6, _, _, _, _, _⟩) (v := ?vvqa21) rfl (by kernel_rfl) (by kernel_rfl) (by kernel_rfl) (fun _ _ _ h => h) (Or.inl ⟨by rfl, ?yyqa21⟩) hHeld ?rrqa21
    case yyqa21 => (intro wq hSw; (try dsimp only at hSw); go_simp; first | done | with_reducible rfl)
    simp only [Act.put, List.setIfInBounds_toArray, List.set_cons_zero, List.set_cons_succ]
    refine wpAnyH_done (by kernel_rfl) ?_ _
    clear hHeld
    go_wp2_with fail
    go_ret
    exact ⟨rfl, _, _, HMr.out, HVV.out.next HRp.out.1 ((HD.out 0 0).pl _ _ _ _ _ _ HGp.out HHr.out).1, HPr.out, rfl, rfl, HRp.out.2.1, rfl, rfl⟩
  · go_simp
    obtain ⟨nkb, hn⟩ : ∃ u, u = X0.alloc (.cells #[.int .i64 x.k.kind, .int .i64 x.k.a, .int .i64 x.k.b, .string x.k.s] 47) := ⟨_, rfl⟩
    obtain ⟨gkb, hg⟩ : ∃ g, g = X0.heap.size := ⟨_, rfl⟩
    rw [← hn, ← hg]
    have hbkb : Below X0.heap.size X0 nkb := by rw [hn]; exact below_box _ _
    have HMkb := Lib.hid (HM0.out.below hbkb)
    have HAkb := Lib.hid (HA0.out.keep (Kp.below hbkb _))
    have HPkb := Lib.hid (HP0.out.trans (Kp.below hbkb _))
    have HKkb : Hid (KyAt gkb x.k nkb m) := Lib.hid ⟨by rw [hn, hg]; exact heap_new _ _, fun c hc => by have := HM0.out.lt hc; omega⟩
    clear hn hg hbkb
    try dsimp only
    refine hK.out _ _ ?ssqa22 (fun hHeld => ?_)
    case ssqa22 => (exact HSS.out _ _ _ HMkb.out HEQ.out HAkb.out)
    clear hK K
    try simp only [Act.put, List.setIfInBounds_toArray, List.set_cons_zero, List.set_cons_succ]
    refine wpAnyH_ready (rs := [8]) (by kernel_rfl) (by simp) ?_
    refine AllReadyH.cons (o := ⟨some 25, _, _, _, _, _⟩) rfl (fun K hK => ?_) AllReadyH.nil
    go_simp
    refine ((HD.out 0 0).pr _ _ _ trivial HMkb.out rfl rfl rfl rfl).mono ?_
    rintro e up ⟨ap, sp, Tp, Pp, rfl, hG, hr, hM, hk⟩
    have HGp := Lib.hid hG
    have HRp := Lib.hid hr
    have HMp := Lib.hid hM
    have HAp := Lib.hid (HAkb.out.keep hk)
    have HPp := Lib.hid (HPkb.out.trans hk)
    have HEp : Hid (EqA (m.tx j ap sp) j tb sb rtb rsb) := Lib.hid (HEQ.out.tx hr.2.2)
    have HKkb_p := Lib.hid (HKkb.out.keep hk)
    clear hG hr hM hk
    try dsimp only
    refine hK.out _ _ ?ssqa23 (fun hHeld => ?_)
    case ssqa23 => (exact HSS.out _ _ _ HMp.out HEp.out HAp.out)
    clear hK K
    try simp only [Act.put, List.setIfInBounds_toArray, List.set_cons_zero, List.set_cons_succ]
    refine wpAnyH_ready (rs := [18]) (by kernel_rfl) (by simp) ?_
    refine AllReadyH.cons (o := ⟨some 35, _, _, _, _, _⟩) rfl (fun K hK => ?_) AllReadyH.nil
    go_simp
    refine ((HD.out _ _).rf _ _ _ HKkb_p.out HMp.out rfl rfl rfl rfl rfl rfl rfl).mono ?_
    rintro e ur ⟨rfl, br, vr, Rr, Xr, Lr, hH, hr, hM, hk⟩
    have HHr := Lib.hid hH
    have HMr := Lib.hid hM
    have HAr := Lib.hid (HAp.out.keep hk)
    have HPr := Lib.hid (HPp.out.trans hk)
    have HEr : Hid (EqA ((m.tx j ap sp).rx j br vr) j tb sb rtb rsb) := Lib.hid (HEp.out.rx hr)
    clear hH hr hM hk
    try dsimp only
    refine hK.out _ _ ?ssqa24 (fun hHeld => ?_)
    case ssqa24 => (exact HSS.out _ _ _ HMr.out HEr.out HAr.out)
    clear hK K
    try simp only [Act.put, List.setIfInBounds_toArray, List.set_cons_zero, List.set_cons_succ]
    refine wpAnyH_take (i := 19) (oi := ⟨some 36, _, _, _, _, _⟩) (v := ?vvqa25) rfl (by kernel_rfl) (by kernel_rfl) (by kernel_rfl) (fun _ _ _ h => h) (Or.inl ⟨by rfl, ?yyqa25⟩) hHeld ?rrqa25
    case yyqa25 => (intro wq hSw; (try dsimp only at hSw); go_simp; first | done | with_reducible rfl)
    simp only [Act.put, List.setIfInBounds_toArray, List.set_cons_zero, List.set_cons_succ]
    refine wpAnyH_take (i := 20) (oi := ⟨some 6, _, _, _, _, _⟩) (v := ?vvqa26) rfl (by kernel_rfl) (by kernel_rfl) (by kernel_rfl) (fun _ _ _ h => h) (Or.inl ⟨by rfl, ?yyqa26⟩) hHeld ?rrqa26
    case yyqa26 => (intro wq hSw; (try dsimp only at hSw); go_simp; first | done | with_reducible rfl)
    simp only [Act.put, List.setIfInBounds_toArray, List.set_cons_zero, List.set_cons_succ]
    refine wpAnyH_done (by kernel_rfl) ?_ _
    clear hHeld
    go_wp2_with fail
    go_ret
    exact ⟨rfl, _, _, HMr.out, HVV.out.next HRp.out.1 ((HD.out 0 0).pl _ _ _ _ _ _ HGp.out HHr.out).1, HPr.out, rfl, rfl, HRp.out.2.1, rfl, rfl⟩

set_option maxRecDepth 100000 in
set_option maxHeartbeats 8000000 in
theorem l20drop_any (h : M3 w0 w m p) (hV : V3 m p N) (hj : j < 3) (hN : N ≤ 900) (h0 : (p.T j).ph = 0) (hx : x.Ok) (hkind : x.kind = 2) :
    Calls Tryz.prog 27 #[.pointer (some ⟨(m.a j).m.tb, 0, none⟩), .pointer (some ⟨(m.b j).m.tb, 0, none⟩), .agg #[.int .i64 x.kind, .int .i64 x.tt, .int .i64 x.k.kind, .int .i64 x.k.a, .int .i64 x.k.b, .string x.k.s, .string x.val, .int .u64 x.last, .int .i64 x.ep]] w (DoPost w0 w m N) := by
  obtain ⟨code, G, H, hD⟩ := duo_drop (w0 := w0) hV hj (by omega) h0 hx.k
  obtain ⟨W, hW⟩ : ∃ W, W = w.alloc (.cells #[.int .i64 x.kind, .int .i64 x.tt, .int .i64 x.k.kind, .int .i64 x.k.a, .int .i64 x.k.b, .string x.k.s, .string x.val, .int .u64 x.last, .int .i64 x.ep] 49) := ⟨_, rfl⟩
  obtain ⟨ab, hab⟩ : ∃ b, b = w.heap.size := ⟨_, rfl⟩
  obtain ⟨tb, htb⟩ : ∃ b, b = (m.a j).m.tb := ⟨_, rfl⟩
  obtain ⟨sb, hsb⟩ : ∃ b, b = (m.a j).m.sb := ⟨_, rfl⟩
  obtain ⟨rtb, hrtb⟩ : ∃ b, b = (m.b j).m.tb := ⟨_, rfl⟩
  obtain ⟨rsb, hrsb⟩ : ∃ b, b = (m.b j).m.sb := ⟨_, rfl⟩
  have hbW : Below w.heap.size w W := by rw [hW]; exact below_box _ _
  have HMW : Hid (M3 w0 W m p) := Lib.hid (h.below hbW)
  have HAW : Hid (AcAt ab x W m) := Lib.hid ⟨by rw [hW, hab]; exact heap_new w _, fun c hc => by have := h.lt hc; omega⟩
  have HPW : Hid (Kp w W m m) := Lib.hid (Kp.below hbW m)
  have HEQ : Hid (EqA m j tb sb rtb rsb) := Lib.hid ⟨htb.symm, hsb.symm, hrtb.symm, hrsb.symm⟩
  have HSS := Lib.hid (fun u m' p' (hM : M3 w0 u m' p') (hE : EqA m' j tb sb rtb rsb) (hA : AcAt ab x u m') => sets_cells hj hM hE hA)
  have HVV := Lib.hid hV
  have HJ := Lib.hid hj
  have HKO := Lib.hid hx.k
  have HNN := Lib.hid hN
  have HWW := Lib.hid hW
  have HAA := Lib.hid hab
  rw [← hsb, ← hrsb] at hD
  have HD := Lib.hid hD
  rw [← htb, ← hrtb]
  have p0 := cell_of_blk HAW.out.1 0
  have pl := (Array.getElem?_eq_some_iff.1 HAW.out.1).1
  simp at p0
  rw [hkind] at p0 ⊢
  rw [hkind] at HWW
  clear h hV hj hN h0 hx hkind hW hab htb hsb hrtb hrsb hbW hD
  go_enter Tryz.func27, Tryz.ntmps27
  go_upto_region 1 with fail
  rw [← HWW.out, ← HAA.out]
  go_upto_region 5 with fail
  refine wp_region_held_drew (S := (fun u : World => u.cell? ⟨tb, 0, none⟩ = some (.pointer (some ⟨sb, 0, none⟩)) ∧ tb < u.heap.size ∧ u.cell? ⟨rtb, 4, none⟩ = some (.pointer (some ⟨rsb, 0, none⟩)) ∧ rtb < u.heap.size ∧ u.cell? ⟨ab, 2, none⟩ = some (.int .i64 x.k.kind) ∧ u.cell? ⟨ab, 3, none⟩ = some (.int .i64 x.k.a) ∧ u.cell? ⟨ab, 4, none⟩ = some (.int .i64 x.k.b) ∧ u.cell? ⟨ab, 5, none⟩ = some (.string x.k.s) ∧ u.cell? ⟨ab, 6, none⟩ = some (.string x.val) ∧ ab < u.heap.size)) (by kernel_rfl) (HSS.out _ _ _ (HMW.out.below (below_drewN (Below.refl _ _) 1)) HEQ.out (HAW.out.keep (Kp.below (below_drewN (Below.refl _ _) 1) _))) (fun hHeld => ?_)
  obtain ⟨X0, hGen⟩ : ∃ u, u = World.drew W := ⟨_, rfl⟩
  rw [← hGen] at hHeld ⊢
  have hb0 : Below W.heap.size W X0 := by rw [hGen]; exact below_drewN (Below.refl _ _) 1
  have HM0 := Lib.hid (HMW.out.below hb0)
  have HA0 := Lib.hid (HAW.out.keep (Kp.below hb0 _))
  have HP0 := Lib.hid (HPW.out.trans (Kp.below hb0 _))
  clear hb0
  clear hGen
  refine wpAnyH_take (i := 0) (oi := ⟨some 39, _, _, _, _, _⟩) (v := ?vvqb1) rfl (by kernel_rfl) (by kernel_rfl) (by kernel_rfl) (fun _ _ _ h => h) (Or.inl ⟨by rfl, ?yyqb1⟩) hHeld ?rrqb1
  case yyqb1 => (intro wq hSw; (try dsimp only at hSw); go_simp; first | done | with_reducible rfl)
  simp only [Act.put, List.setIfInBounds_toArray, List.set_cons_zero, List.set_cons_succ]
  refine wpAnyH_take (i := 1) (oi := ⟨some 40, _, _, _, _, _⟩) (v := ?vvqb2) rfl (by kernel_rfl) (by kernel_rfl) (by kernel_rfl) (fun _ _ _ h => h) (Or.inl ⟨by rfl, ?yyqb2⟩) hHeld ?rrqb2
  case yyqb2 => (intro wq hSw; (try dsimp only at hSw); go_simp; first | done | with_reducible rfl)
  simp only [Act.put, List.setIfInBounds_toArray, List.set_cons_zero, List.set_cons_succ]
  refine wpAnyH_take (i := 2) (oi := ⟨some 41, _, _, _, _, _⟩) (v := ?vvqb3) rfl (by kernel_rfl) (by kernel_rfl) (by kernel_rfl) (fun _ _ _ h => h) (Or.inl ⟨by rfl, ?yyqb3⟩) hHeld ?rrqb3
  case yyqb3 => (intro wq hSw; (try dsimp only at hSw); go_simp; first | done | with_reducible rfl)
  simp only [Act.put, List.setIfInBounds_toArray, List.set_cons_zero, List.set_cons_succ]
  refine wpAnyH_take (i := 3) (oi := ⟨some 42, _, _, _, _, _⟩) (v := ?vvqb4) rfl (by kernel_rfl) (by kernel_rfl) (by kernel_rfl) (fun _ _ _ h => h) (Or.inl ⟨by rfl, ?yyqb4⟩) hHeld ?rrqb4
  case yyqb4 => (intro wq hSw; (try dsimp only at hSw); go_simp; first | done | with_reducible rfl)
  simp only [Act.put, List.setIfInBounds_toArray, List.set_cons_zero, List.set_cons_succ]
  refine wpAnyH_take (i := 4) (oi := ⟨some 43, _, _, _, _, _⟩) (v := ?vvqb5) rfl (by kernel_rfl) (by kernel_rfl) (by kernel_rfl) (fun _ _ _ h => h) (Or.inl ⟨by rfl, ?yyqb5⟩) hHeld ?rrqb5
  case yyqb5 => (intro wq hSw; (try dsimp only at hSw); go_simp; first | done | with_reducible rfl)
  simp only [Act.put, List.setIfInBounds_toArray, List.set_cons_zero, List.set_cons_succ]
  refine wpAnyH_take (i := 5) (oi := ⟨some 44, _, _, _, _, _⟩) (v := ?vvqb6) rfl (by kernel_rfl) (by kernel_rfl) (by kernel_rfl) (fun _ _ _ h => h) (Or.inl ⟨by rfl, ?yyqb6⟩) hHeld ?rrqb6
  case yyqb6 => (intro wq hSw; (try dsimp only at hSw); go_simp; first | done | with_reducible rfl)
  simp only [Act.put, List.setIfInBounds_toArray, List.set_cons_zero, List.set_cons_succ]
  refine wpAnyH_take (i := 8) (oi := ⟨some 47, _, _, _, _, _⟩) (v := ?vvqb7) rfl (by kernel_rfl) (by kernel_rfl) (by kernel_rfl) (fun _ _ _ h => h) (Or.inl ⟨by rfl, ?yyqb7⟩) hHeld ?rrqb7
  case yyqb7 => (intro wq hSw; (try dsimp only at hSw); go_simp; first | done | with_reducible rfl)
  simp only [Act.put, List.setIfInBounds_toArray, List.set_cons_zero, List.set_cons_succ]
  refine wpAnyH_take (i := 9) (oi := ⟨some 48, _, _, _, _, _⟩) (v := ?vvqb8) rfl (by kernel_rfl) (by kernel_rfl) (by kernel_rfl) (fun _ _ _ h => h) (Or.inl ⟨by rfl, ?yyqb8⟩) hHeld ?rrqb8
  case yyqb8 => (intro wq hSw; (try dsimp only at hSw); go_simp; first | done | with_reducible rfl)
  simp only [Act.put, List.setIfInBounds_toArray, List.set_cons_zero, List.set_cons_succ]
  refine wpAnyH_take (i := 10) (oi := ⟨some 49, _, _, _, _, _⟩) (v := ?vvqb9) rfl (by kernel_rfl) (by kernel_rfl) (by kernel_rfl) (fun _ _ _ h => h) (Or.inl ⟨by rfl, ?yyqb9⟩) hHeld ?rrqb9
  case yyqb9 => (intro wq hSw; (try dsimp only at hSw); go_simp; first | done | with_reducible rfl)
  simp only [Act.put, List.setIfInBounds_toArray, List.set_cons_zero, List.set_cons_succ]
  refine wpAnyH_take (i := 11) (oi := ⟨some 50, _, _, _, _, _⟩) (v := ?vvqb10) rfl (by kernel_rfl) (by kernel_rfl) (by kernel_rfl) (fun _ _ _ h => h) (Or.inl ⟨by rfl, ?yyqb10⟩) hHeld ?rrqb10
  case yyqb10 => (intro wq hSw; (try dsimp only at hSw); go_simp; first | done | with_reducible rfl)
  simp only [Act.put, List.setIfInBounds_toArray, List.set_cons_zero, List.set_cons_succ]
  refine wpAnyH_take (i := 12) (oi := ⟨some 51, _, _, _, _, _⟩) (v := ?vvqb11) rfl (by kernel_rfl) (by kernel_rfl) (by kernel_rfl) (fun _ _ _ h => h) (Or.inl ⟨by rfl, ?yyqb11⟩) hHeld ?rrqb11
  case yyqb11 => (intro wq hSw; (try dsimp only at hSw); go_simp; first | done | with_reducible rfl)
  simp only [Act.put, List.setIfInBounds_toArray, List.set_cons_zero, List.set_cons_succ]
  refine wpAnyH_take (i := 13) (oi := ⟨some 52, _, _, _, _, _⟩) (v := ?vvqb12) rfl (by kernel_rfl) (by kernel_rfl) (by kernel_rfl) (fun _ _ _ h => h) (Or.inl ⟨by rfl, ?yyqb12⟩) hHeld ?rrqb12
  case yyqb12 => (intro wq hSw; (try dsimp only at hSw); go_simp; first | done | with_reducible rfl)
  simp only [Act.put, List.setIfInBounds_toArray, List.set_cons_zero, List.set_cons_succ]
  refine wpAnyH_ready (rs := [6, 14]) (by kernel_rfl) (by simp) ?_
  refine AllReadyH.cons (o := ⟨some 45, _, _, _, _, _⟩) rfl (fun K hK => ?_) (AllReadyH.cons (o := ⟨some 53, _, _, _, _, _⟩) rfl (fun K hK => ?_) AllReadyH.nil)
  · go_simp
    obtain ⟨nka, hn⟩ : ∃ u, u = X0.alloc (.cells #[.int .i64 x.k.kind, .int .i64 x.k.a, .int .i64 x.k.b, .string x.k.s] 47) := ⟨_, rfl⟩
    obtain ⟨gka, hg⟩ : ∃ g, g = X0.heap.size := ⟨_, rfl⟩
    rw [← hn, ← hg]
    have hbka : Below X0.heap.size X0 nka := by rw [hn]; exact below_box _ _
    have HMka := Lib.hid (HM0.out.below hbka)
    have HAka := Lib.hid (HA0.out.keep (Kp.below hbka _))
    have HPka := Lib.hid (HP0.out.trans (Kp.below hbka _))
    have HKka : Hid (KyAt gka x.k nka m) := Lib.hid ⟨by rw [hn, hg]; exact heap_new _ _, fun c hc => by have := HM0.out.lt hc; omega⟩
    clear hn hg hbka
    try dsimp only
    refine hK.out _ _ ?ssqb13 (fun hHeld => ?_)
    case ssqb13 => (exact HSS.out _ _ _ HMka.out HEQ.out HAka.out)
    clear hK K
    try simp only [Act.put, List.setIfInBounds_toArray, List.set_cons_zero, List.set_cons_succ]
    refine wpAnyH_ready (rs := [7, 14]) (by kernel_rfl) (by simp) ?_
    refine AllReadyH.cons (o := ⟨some 46, _, _, _, _, _⟩) rfl (fun K hK => ?_) (AllReadyH.cons (o := ⟨some 53, _, _, _, _, _⟩) rfl (fun K hK => ?_) AllReadyH.nil)
    · go_simp
      refine ((HD.out _ 0 _ 0).pr _ _ _ HKka.out HMka.out rfl rfl rfl rfl).mono ?_
      rintro e up ⟨ap, sp, Tp, Pp, rfl, hG, hr, hM, hk⟩
      have HGp := Lib.hid hG
      have HRp := Lib.hid hr
      have HMp := Lib.hid hM
      have HAp := Lib.hid (HAka.out.keep hk)
      have HPp := Lib.hid (HPka.out.trans hk)
      have HEp : Hid (EqA (m.tx j ap sp) j tb sb rtb rsb) := Lib.hid (HEQ.out.tx hr.2.2)
      have HKka_p := Lib.hid (HKka.out.keep hk)
      clear hG hr hM hk
      try dsimp only
      refine hK.out _ _ ?ssqb14 (fun hHeld => ?_)
      case ssqb14 => (exact HSS.out _ _ _ HMp.out HEp.out HAp.out)
      clear hK K
      try simp only [Act.put, List.setIfInBounds_toArray, List.set_cons_zero, List.set_cons_succ]
      refine wpAnyH_ready (rs := [14]) (by kernel_rfl) (by simp) ?_
      refine AllReadyH.cons (o := ⟨some 53, _, _, _, _, _⟩) rfl (fun K hK => ?_) AllReadyH.nil
      go_simp
      obtain ⟨nkb, hn⟩ : ∃ u, u = up.alloc (.cells #[.int .i64 x.k.kind, .int .i64 x.k.a, .int .i64 x.k.b, .string x.k.s] 47) := ⟨_, rfl⟩
      obtain ⟨gkb, hg⟩ : ∃ g, g = up.heap.size := ⟨_, rfl⟩
      rw [← hn, ← hg]
      have hbkb : Below up.heap.size up nkb := by rw [hn]; exact below_box _ _
      have HMkb := Lib.hid (HMp.out.below hbkb)
      have HAkb := Lib.hid (HAp.out.keep (Kp.below hbkb _))
      have HPkb := Lib.hid (HPp.out.trans (Kp.below hbkb _))
      have HKkb : Hid (KyAt gkb x.k nkb (m.tx j ap sp)) := Lib.hid ⟨by rw [hn, hg]; exact heap_new _ _, fun c hc => by have := HMp.out.lt hc; omega⟩
      have HKka_kb := Lib.hid (HKka_p.out.keep (Kp.below hbkb (m.tx j ap sp)))
      clear hn hg hbkb
      try dsimp only
      refine hK.out _ _ ?ssqb15 (fun hHeld => ?_)
      case ssqb15 => (exact HSS.out _ _ _ HMkb.out HEp.out HAkb.out)
      clear hK K
      try simp only [Act.put, List.setIfInBounds_toArray, List.set_cons_zero, List.set_cons_succ]
      refine wpAnyH_ready (rs := [15]) (by kernel_rfl) (by simp) ?_
      refine AllReadyH.cons (o := ⟨some 54, _, _, _, _, _⟩) rfl (fun K hK => ?_) AllReadyH.nil
      go_simp
      refine ((HD.out 0 _ 0 _).rf _ _ _ HKkb.out HMkb.out rfl rfl rfl rfl rfl rfl rfl).mono ?_
      rintro e ur ⟨rfl, br, vr, Rr, Xr, Lr, hH, hr, hM, hk⟩
      have HHr := Lib.hid hH
      have HMr := Lib.hid hM
      have HAr := Lib.hid (HAkb.out.keep hk)
      have HPr := Lib.hid (HPkb.out.trans hk)
      have HEr : Hid (EqA ((m.tx j ap sp).rx j br vr) j tb sb rtb rsb) := Lib.hid (HEp.out.rx hr)
      clear hH hr hM hk
      try dsimp only
      refine hK.out _ _ ?ssqb16 (fun hHeld => ?_)
      case ssqb16 => (exact HSS.out _ _ _ HMr.out HEr.out HAr.out)
      clear hK K
      try simp only [Act.put, List.setIfInBounds_toArray, List.set_cons_zero, List.set_cons_succ]
      refine wpAnyH_take (i := 16) (oi := ⟨some 55, _, _, _, _, _⟩) (v := ?vvqb17) rfl (by kernel_rfl) (by kernel_rfl) (by kernel_rfl) (fun _ _ _ h => h) (Or.inl ⟨by rfl, ?yyqb17⟩) hHeld ?rrqb17
      case yyqb17 => (intro wq hSw; (try dsimp only at hSw); go_simp; first | done | with_reducible rfl)
      simp only [Act.put, List.setIfInBounds_toArray, List.set_cons_zero, List.set_cons_succ]
      refine wpAnyH_take (i := 17) (oi := ⟨some 6, _, _, _, _, _⟩) (v := ?vvqb18) rfl (by kernel_rfl) (by kernel_rfl) (by kernel_rfl) (fun _ _ _ h => h) (Or.inl ⟨by rfl, ?yyqb18⟩) hHeld ?rrqb18
      case yyqb18 => (intro wq hSw; (try dsimp only at hSw); go_simp; first | done | with_reducible rfl)
      simp only [Act.put, List.setIfInBounds_toArray, List.set_cons_zero, List.set_cons_succ]
      refine wpAnyH_done (by kernel_rfl) ?_ _
      clear hHeld
      go_wp2_with fail
      go_ret
      exact ⟨rfl, _, _, HMr.out, HVV.out.next HRp.out.1 ((HD.out 0 0 0 0).pl _ _ _ _ _ _ HGp.out HHr.out).1, HPr.out, rfl, rfl, HRp.out.2.1, rfl, rfl⟩
    · go_simp
      obtain ⟨nkb, hn⟩ : ∃ u, u = nka.alloc (.cells #[.int .i64 x.k.kind, .int .i64 x.k.a, .int .i64 x.k.b, .string x.k.s] 47) := ⟨_, rfl⟩
      obtain ⟨gkb, hg⟩ : ∃ g, g = nka.heap.size := ⟨_, rfl⟩
      rw [← hn, ← hg]
      have hbkb : Below nka.heap.size nka nkb := by rw [hn]; exact below_box _ _
      have HMkb := Lib.hid (HMka.out.below hbkb)
      have HAkb := Lib.hid (HAka.out.keep (Kp.below hbkb _))
      have HPkb := Lib.hid (HPka.out.trans (Kp.below hbkb _))
      have HKkb : Hid (KyAt gkb x.k nkb m) := Lib.hid ⟨by rw [hn, hg]; exact heap_new _ _, fun c hc => by have := HMka.out.lt hc; omega⟩
      have HKka_kb := Lib.hid (HKka.out.keep (Kp.below hbkb m))
      clear hn hg hbkb
      try dsimp only
      refine hK.out _ _ ?ssqb19 (fun hHeld => ?_)
      case ssqb19 => (exact HSS.out _ _ _ HMkb.out HEQ.out HAkb.out)
      clear hK K
      try simp only [Act.put, List.setIfInBounds_toArray, List.set_cons_zero, List.set_cons_succ]
      refine wpAnyH_ready (rs := [7]) (by kernel_rfl) (by simp) ?_
      refine AllReadyH.cons (o := ⟨some 46, _, _, _, _, _⟩) rfl (fun K hK => ?_) AllReadyH.nil
      go_simp
      refine ((HD.out _ 0 _ 0).pr _ _ _ HKka_kb.out HMkb.out rfl rfl rfl rfl).mono ?_
      rintro e up ⟨ap, sp, Tp, Pp, rfl, hG, hr, hM, hk⟩
      have HGp := Lib.hid hG
      have HRp := Lib.hid hr
      have HMp := Lib.hid hM
      have HAp := Lib.hid (HAkb.out.keep hk)
      have HPp := Lib.hid (HPkb.out.trans hk)
      have HEp : Hid (EqA (m.tx j ap sp) j tb sb rtb rsb) := Lib.hid (HEQ.out.tx hr.2.2)
      have HKka_p := Lib.hid (HKka_kb.out.keep hk)
      have HKkb_p := Lib.hid (HKkb.out.keep hk)
      clear hG hr hM hk
      try dsimp only
      refine hK.out _ _ ?ssqb20 (fun hHeld => ?_)
      case ssqb20 => (exact HSS.out _ _ _ HMp.out HEp.out HAp.out)
      clear hK K
      try simp only [Act.put, List.setIfInBounds_toArray, List.set_cons_zero, List.set_cons_succ]
      refine wpAnyH_ready (rs := [15]) (by kernel_rfl) (by simp) ?_
      refine AllReadyH.cons (o := ⟨some 54, _, _, _, _, _⟩) rfl (fun K hK => ?_) AllReadyH.nil
      go_simp
      refine ((HD.out 0 _ 0 _).rf _ _ _ HKkb_p.out HMp.out rfl rfl rfl rfl rfl rfl rfl).mono ?_
      rintro e ur ⟨rfl, br, vr, Rr, Xr, Lr, hH, hr, hM, hk⟩
      have HHr := Lib.hid hH
      have HMr := Lib.hid hM
      have HAr := Lib.hid (HAp.out.keep hk)
      have HPr := Lib.hid (HPp.out.trans hk)
      have HEr : Hid (EqA ((m.tx j ap sp).rx j br vr) j tb sb rtb rsb) := Lib.hid (HEp.out.rx hr)
      clear hH hr hM hk
      try dsimp only
      refine hK.out _ _ ?ssqb21 (fun hHeld => ?_)
      case ssqb21 => (exact HSS.out _ _ _ HMr.out HEr.out HAr.out)
      clear hK K
      try simp only [Act.put, List.setIfInBounds_toArray, List.set_cons_zero, List.set_cons_succ]
      refine wpAnyH_take (i := 16) (oi := ⟨some 55, _, _, _, _, _⟩) (v := ?vvqb22) rfl (by kernel_rfl) (by kernel_rfl) (by kernel_rfl) (fun _ _ _ h => h) (Or.inl ⟨by rfl, ?yyqb22⟩) hHeld ?rrqb22
      case yyqb22 => (intro wq hSw; (try dsimp only at hSw); go_simp; first | done | with_reducible rfl)
      simp only [Act.put, List.setIfInBounds_toArray, List.set_cons_zero, List.set_cons_succ]
      refine wpAnyH_take (i := 17) (oi := ⟨some 6, _, _, _, _, _⟩) (v := ?vvqb23) rfl (by kernel_rfl) (by kernel_rfl) (by kernel_rfl) (fun _ _ _ h => h) (Or.inl ⟨by rfl, ?yyqb23⟩) hHeld ?rrqb23
      case yyqb23 => (intro wq hSw; (try dsimp only at hSw); go_simp; first | done | with_reducible rfl)
      simp only [Act.put, List.setIfInBounds_toArray, List.set_cons_zero, List.set_cons_succ]
      refine wpAnyH_done (by kernel_rfl) ?_ _
      clear hHeld
      go_wp2_with fail
      go_ret
      exact ⟨rfl, _, _, HMr.out, HVV.out.next HRp.out.1 ((HD.out 0 0 0 0).pl _ _ _ _ _ _ HGp.out HHr.out).1, HPr.out, rfl, rfl, HRp.out.2.1, rfl, rfl⟩
  · go_simp
    obtain ⟨nkb, hn⟩ : ∃ u, u = X0.alloc (.cells #[.int .i64 x.k.kind, .int .i64 x.k.a, .int .i64 x.k.b, .string x.k.s] 47) := ⟨_, rfl⟩
    obtain ⟨gkb, hg⟩ : ∃ g, g = X0.heap.size := ⟨_, rfl⟩
    rw [← hn, ← hg]
    have hbkb : Below X0.heap.size X0 nkb := by rw [hn]; exact below_box _ _
    have HMkb := Lib.hid (HM0.out.below hbkb)
    have HAkb := Lib.hid (HA0.out.keep (Kp.below hbkb _))
    have HPkb := Lib.hid (HP0.out.trans (Kp.below hbkb _))
    have HKkb : Hid (KyAt gkb x.k nkb m) := Lib.hid ⟨by rw [hn, hg]; exact heap_new _ _, fun c hc => by have := HM0.out.lt hc; omega⟩
    clear hn hg hbkb
    try dsimp only
    refine hK.out _ _ ?ssqb24 (fun hHeld => ?_)
    case ssqb24 => (exact HSS.out _ _ _ HMkb.out HEQ.out HAkb.out)
    clear hK K
    try simp only [Act.put, List.setIfInBounds_toArray, List.set_cons_zero, List.set_cons_succ]
    refine wpAnyH_ready (rs := [6]) (by kernel_rfl) (by simp) ?_
    refine AllReadyH.cons (o := ⟨some 45, _, _, _, _, _⟩) rfl (fun K hK => ?_) AllReadyH.nil
    go_simp
    obtain ⟨nka, hn⟩ : ∃ u, u = nkb.alloc (.cells #[.int .i64 x.k.kind, .int .i64 x.k.a, .int .i64 x.k.b, .string x.k.s] 47) := ⟨_, rfl⟩
    obtain ⟨gka, hg⟩ : ∃ g, g = nkb.heap.size := ⟨_, rfl⟩
    rw [← hn, ← hg]
    have hbka : Below nkb.heap.size nkb nka := by rw [hn]; exact below_box _ _
    have HMka := Lib.hid (HMkb.out.below hbka)
    have HAka := Lib.hid (HAkb.out.keep (Kp.below hbka _))
    have HPka := Lib.hid (HPkb.out.trans (Kp.below hbka _))
    have HKka : Hid (KyAt gka x.k nka m) := Lib.hid ⟨by rw [hn, hg]; exact heap_new _ _, fun c hc => by have := HMkb.out.lt hc; omega⟩
    have HKkb_ka := Lib.hid (HKkb.out.keep (Kp.below hbka m))
    clear hn hg hbka
    try dsimp only
    refine hK.out _ _ ?ssqb25 (fun hHeld => ?_)
    case ssqb25 => (exact HSS.out _ _ _ HMka.out HEQ.out HAka.out)
    clear hK K
    try simp only [Act.put, List.setIfInBounds_toArray, List.set_cons_zero, List.set_cons_succ]
    refine wpAnyH_ready (rs := [7]) (by kernel_rfl) (by simp) ?_
    refine AllReadyH.cons (o := ⟨some 46, _, _, _, _, _⟩) rfl (fun K hK => ?_) AllReadyH.nil
    go_simp
    refine ((HD.out _ 0 _ 0).pr _ _ _ HKka.out HMka.out rfl rfl rfl rfl).mono ?_
    rintro e up ⟨ap, sp, Tp, Pp, rfl, hG, hr, hM, hk⟩
    have HGp := Lib.hid hG
    have HRp := Lib.hid hr
    have HMp := Lib.hid hM
    have HAp := Lib.hid (HAka.out.keep hk)
    have HPp := Lib.hid (HPka.out.trans hk)
    have HEp : Hid (EqA (m.tx j ap sp) j tb sb rtb rsb) := Lib.hid (HEQ.out.tx hr.2.2)
    have HKkb_p := Lib.hid (HKkb_ka.out.keep hk)
    have HKka_p := Lib.hid (HKka.out.keep hk)
    clear hG hr hM hk
    try dsimp only
    refine hK.out _ _ ?ssqb26 (fun hHeld => ?_)
    case ssqb26 => (exact HSS.out _ _ _ HMp.out HEp.out HAp.out)
    clear hK K
    try simp only [Act.put, List.setIfInBounds_toArray, List.set_cons_zero, List.set_cons_succ]
    refine wpAnyH_ready (rs := [15]) (by kernel_rfl) (by simp) ?_
    refine AllReadyH.cons (o := ⟨some 54, _, _, _, _, _⟩) rfl (fun K hK => ?_) AllReadyH.nil
    go_simp
    refine ((HD.out 0 _ 0 _).rf _ _ _ HKkb_p.out HMp.out rfl rfl rfl rfl rfl rfl rfl).mono ?_
    rintro e ur ⟨rfl, br, vr, Rr, Xr, Lr, hH, hr, hM, hk⟩
    have HHr := Lib.hid hH
    have HMr := Lib.hid hM
    have HAr := Lib.hid (HAp.out.keep hk)
    have HPr := Lib.hid (HPp.out.trans hk)
    have HEr : Hid (EqA ((m.tx j ap sp).rx j br vr) j tb sb rtb rsb) := Lib.hid (HEp.out.rx hr)
    clear hH hr hM hk
    try dsimp only
    refine hK.out _ _ ?ssqb27 (fun hHeld => ?_)
    case ssqb27 => (exact HSS.out _ _ _ HMr.out HEr.out HAr.out)
    clear hK K
    try simp only [Act.put, List.setIfInBounds_toArray, List.set_cons_zero, List.set_cons_succ]
    refine wpAnyH_take (i := 16) (oi := ⟨some 55, _, _, _, _, _⟩) (v := ?vvqb28) rfl (by kernel_rfl) (by kernel_rfl) (by kernel_rfl) (fun _ _ _ h => h) (Or.inl ⟨by rfl, ?yyqb28⟩) hHeld ?rrqb28
    case yyqb28 => (intro wq hSw; (try dsimp only at hSw); go_simp; first | done | with_reducible rfl)
    simp only [Act.put, List.setIfInBounds_toArray, List.set_cons_zero, List.set_cons_succ]
    refine wpAnyH_take (i := 17) (oi := ⟨some 6, _, _, _, _, _⟩) (v := ?vvqb29) rfl (by kernel_rfl) (by kernel_rfl) (by kernel_rfl) (fun _ _ _ h => h) (Or.inl ⟨by rfl, ?yyqb29⟩) hHeld ?rrqb29
    case yyqb29 => (intro wq hSw; (try dsimp only at hSw); go_simp; first | done | with_reducible rfl)
    simp only [Act.put, List.setIfInBounds_toArray, List.set_cons_zero, List.set_cons_succ]
    refine wpAnyH_done (by kernel_rfl) ?_ _
    clear hHeld
    go_wp2_with fail
    go_ret
    exact ⟨rfl, _, _, HMr.out, HVV.out.next HRp.out.1 ((HD.out 0 0 0 0).pl _ _ _ _ _ _ HGp.out HHr.out).1, HPr.out, rfl, rfl, HRp.out.2.1, rfl, rfl⟩

end
end Go.Proofs.YtkhkdedjffkhdaaGreat
namespace Go.Proofs.YtkhkdedjffkhdaaGreat
open Go.RowKit Go.Maps

section
variable {w0 w : World} {m : W3} {p : S3} {j N : Nat} {x : Ac20}
set_option maxRecDepth 100000 in
set_option maxHeartbeats 8000000 in
theorem l20mark_any (h : M3 w0 w m p) (hV : V3 m p N) (hj : j < 3) (hN : N ≤ 900) (h0 : (p.T j).ph = 0) (hx : x.Ok) (hkind : x.kind = 3) :
    Calls Tryz.prog 27 #[.pointer (some ⟨(m.a j).m.tb, 0, none⟩), .pointer (some ⟨(m.b j).m.tb, 0, none⟩), .agg #[.int .i64 x.kind, .int .i64 x.tt, .int .i64 x.k.kind, .int .i64 x.k.a, .int .i64 x.k.b, .string x.k.s, .string x.val, .int .u64 x.last, .int .i64 x.ep]] w (DoPost w0 w m N) := by
  obtain ⟨G, H, hD⟩ := duo_mark (w0 := w0) hV hj h0
  obtain ⟨W, hW⟩ : ∃ W, W = w.alloc (.cells #[.int .i64 x.kind, .int .i64 x.tt, .int .i64 x.k.kind, .int .i64 x.k.a, .int .i64 x.k.b, .string x.k.s, .string x.val, .int .u64 x.last, .int .i64 x.ep] 49) := ⟨_, rfl⟩
  obtain ⟨ab, hab⟩ : ∃ b, b = w.heap.size := ⟨_, rfl⟩
  obtain ⟨tb, htb⟩ : ∃ b, b = (m.a j).m.tb := ⟨_, rfl⟩
  obtain ⟨sb, hsb⟩ : ∃ b, b = (m.a j).m.sb := ⟨_, rfl⟩
  obtain ⟨rtb, hrtb⟩ : ∃ b, b = (m.b j).m.tb := ⟨_, rfl⟩
  obtain ⟨rsb, hrsb⟩ : ∃ b, b = (m.b j).m.sb := ⟨_, rfl⟩
  have hbW : Below w.heap.size w W := by rw [hW]; exact below_box _ _
  have HMW : Hid (M3 w0 W m p) := Lib.hid (h.below hbW)
  have HAW : Hid (AcAt ab x W m) := Lib.hid ⟨by rw [hW, hab]; exact heap_new w _, fun c hc => by have := h.lt hc; omega⟩
  have HPW : Hid (Kp w W m m) := Lib.hid (Kp.below hbW m)
  have HEQ : Hid (EqA m j tb sb rtb rsb) := Lib.hid ⟨htb.symm, hsb.symm, hrtb.symm, hrsb.symm⟩
  have HSS := Lib.hid (fun u m' p' (hM : M3 w0 u m' p') (hE : EqA m' j tb sb rtb rsb) (hA : AcAt ab x u m') => sets_cells hj hM hE hA)
  have HVV := Lib.hid hV
  have HJ := Lib.hid hj
  have HKO := Lib.hid hx.k
  have HNN := Lib.hid hN
  have HWW := Lib.hid hW
  have HAA := Lib.hid hab
  rw [← hsb, ← hrsb] at hD
  have HD := Lib.hid hD
  rw [← htb, ← hrtb]
  have p0 := cell_of_blk HAW.out.1 0
  have pl := (Array.getElem?_eq_some_iff.1 HAW.out.1).1
  simp at p0
  rw [hkind] at p0 ⊢
  rw [hkind] at HWW
  clear h hV hj hN h0 hx hkind hW hab htb hsb hrtb hrsb hbW hD
  go_enter Tryz.func27, Tryz.ntmps27
  go_upto_region 1 with fail
  rw [← HWW.out, ← HAA.out]
  obtain ⟨c0, ctl, _, _, _, _, _, _, _, _⟩ := HSS.out _ _ _ HMW.out HEQ.out HAW.out
  go_upto_region 8 with (go_at_call 60; refine (HD.out.pr _ _ _ trivial HMW.out rfl rfl rfl rfl).mono ?_; rintro e up ⟨ap, sp, Tp, Pp, rfl, hG, hr, hM, hk⟩; have HGp := Lib.hid hG; have HRp := Lib.hid hr; have HMp := Lib.hid hM; have HAp := Lib.hid (HAW.out.keep hk); have HPp := Lib.hid (HPW.out.trans hk); have HEp : Hid (EqA (m.tx j ap sp) j tb sb rtb rsb) := Lib.hid (HEQ.out.tx hr.2.2); clear hG hr hM hk)
  clear c0 ctl p0 pl
  obtain ⟨_, _, c4, crl, _, _, _, _, _, _⟩ := HSS.out _ _ _ HMp.out HEp.out HAp.out
  have p0 := cell_of_blk HAp.out.1 0
  have pl := (Array.getElem?_eq_some_iff.1 HAp.out.1).1
  simp at p0
  go_upto_region 12 with (go_at_call 61; refine (HD.out.rf _ _ _ trivial HMp.out rfl rfl rfl rfl rfl rfl rfl).mono ?_; rintro e V ⟨rfl, br, vr, Rr, Xr, Lr, hH, hr, hM, hk⟩; have HHr := Lib.hid hH; have HMr := Lib.hid hM; have HAr := Lib.hid (HAp.out.keep hk); have HPr := Lib.hid (HPp.out.trans hk); have HEr : Hid (EqA ((m.tx j ap sp).rx j br vr) j tb sb rtb rsb) := Lib.hid (HEp.out.rx hr); clear hH hr hM hk)
  clear c4 crl p0 pl
  obtain ⟨me, hme⟩ : ∃ x, x = (m.tx j ap sp).rx j br vr := ⟨_, rfl⟩
  obtain ⟨pe, hpe⟩ : ∃ x, x = (p.tx j Tp Pp).rx j Rr Xr Lr := ⟨_, rfl⟩
  have HV2 : Hid (V3 me pe (N + 1)) := Lib.hid (by rw [hme, hpe]; exact HVV.out.next HRp.out.1 (HD.out.pl _ _ _ _ _ _ HGp.out HHr.out).1)
  have HTP : Hid (me.tp = m.tp ∧ me.rp = m.rp ∧ me.s.sb = m.s.sb ∧ me.rb = m.rb ∧ me.room = m.room) := Lib.hid (by rw [hme]; exact ⟨rfl, rfl, HRp.out.2.1, rfl, rfl⟩)
  have HMV : Hid (M3 w0 V me pe) := Lib.hid (by rw [hme, hpe]; exact HMr.out)
  have HAV : Hid (AcAt ab x V me) := Lib.hid (by rw [hme]; exact HAr.out)
  have HPV : Hid (Kp w V m me) := Lib.hid (by rw [hme]; exact HPr.out)
  have HEV : Hid (EqA me j tb sb rtb rsb) := Lib.hid (by rw [hme]; exact HEr.out)
  have HGP : Hid (∀ u, M3 w0 u me pe → Calls Tryz.prog 63 #[.pointer (some ⟨sb, 0, none⟩), .agg #[.int .i64 x.k.kind, .int .i64 x.k.a, .int .i64 x.k.b, .string x.k.s]] u (GtPost (pe.P j) x.k u)) := Lib.hid (fun u hu => by rw [← HEV.out.2.1]; exact get_p hu HJ.out HKO.out)
  have HGR : Hid (∀ u, M3 w0 u me pe → Calls Tryz.prog 64 #[.pointer (some ⟨rsb, 0, none⟩), .agg #[.int .i64 x.k.kind, .int .i64 x.k.a, .int .i64 x.k.b, .string x.k.s]] u (GtPost (pe.P j) x.k u)) := Lib.hid (fun u hu => by rw [← HEV.out.2.2.2]; exact get_r hu HJ.out (HV2.out.v j HJ.out).px)
  have HWP : Hid (∀ u, M3 w0 u me pe → Calls Tryz.prog 41 #[.pointer (some ⟨sb, 0, none⟩)] u (WsPost (outX (pe.X j)) u)) := Lib.hid (fun u hu => by rw [← HEV.out.2.1]; exact writes_p hu HJ.out HV2.out (by have := HNN.out; omega))
  have HWQ : Hid (∀ u, M3 w0 u me pe → Calls Tryz.prog 65 #[.pointer (some ⟨rsb, 0, none⟩)] u (WsPost (outX (pe.X j)) u)) := Lib.hid (fun u hu => by rw [← HEV.out.2.2.2]; exact writes_r hu HJ.out HV2.out)
  have HWL : Hid ((outX (pe.X j)).length ≤ 1000000) := Lib.hid (by have h1 := outX_len (pe.X j); have h2 := (HV2.out.v j HJ.out).n; have := HNN.out; omega)
  clear hme hpe HMr HAr HPr HEr
  refine wp_region_held_drew (S := (fun u : World => u.cell? ⟨tb, 0, none⟩ = some (.pointer (some ⟨sb, 0, none⟩)) ∧ tb < u.heap.size ∧ u.cell? ⟨rtb, 4, none⟩ = some (.pointer (some ⟨rsb, 0, none⟩)) ∧ rtb < u.heap.size ∧ u.cell? ⟨ab, 2, none⟩ = some (.int .i64 x.k.kind) ∧ u.cell? ⟨ab, 3, none⟩ = some (.int .i64 x.k.a) ∧ u.cell? ⟨ab, 4, none⟩ = some (.int .i64 x.k.b) ∧ u.cell? ⟨ab, 5, none⟩ = some (.string x.k.s) ∧ u.cell? ⟨ab, 6, none⟩ = some (.string x.val) ∧ ab < u.heap.size)) (by kernel_rfl) (HSS.out _ _ _ (HMV.out.below (below_drewN (Below.refl _ _) 1)) HEV.out (HAV.out.keep (Kp.below (below_drewN (Below.refl _ _) 1) _))) (fun hHeld => ?_)
  obtain ⟨X1, hGen⟩ : ∃ u, u = World.drew V := ⟨_, rfl⟩
  rw [← hGen] at hHeld ⊢
  have hb1 : Below V.heap.size V X1 := by rw [hGen]; exact below_drewN (Below.refl _ _) 1
  have HMX1 := Lib.hid (HMV.out.below hb1)
  have HAX1 := Lib.hid (HAV.out.keep (Kp.below hb1 _))
  have HPX1 := Lib.hid (HPV.out.trans (Kp.below hb1 _))
  clear hb1
  clear hGen
  refine wpAnyH_take (i := 0) (oi := ⟨some 81, _, _, _, _, _⟩) (v := ?vvqc31) rfl (by kernel_rfl) (by kernel_rfl) (by kernel_rfl) (fun _ _ _ h => h) (Or.inl ⟨by rfl, ?yyqc31⟩) hHeld ?rrqc31
  case yyqc31 => (intro wq hSw; (try dsimp only at hSw); go_simp; first | done | with_reducible rfl)
  simp only [Act.put, List.setIfInBounds_toArray, List.set_cons_zero, List.set_cons_succ]
  refine wpAnyH_take (i := 1) (oi := ⟨some 82, _, _, _, _, _⟩) (v := ?vvqc32) rfl (by kernel_rfl) (by kernel_rfl) (by kernel_rfl) (fun _ _ _ h => h) (Or.inl ⟨by rfl, ?yyqc32⟩) hHeld ?rrqc32
  case yyqc32 => (intro wq hSw; (try dsimp only at hSw); go_simp; first | done | with_reducible rfl)
  simp only [Act.put, List.setIfInBounds_toArray, List.set_cons_zero, List.set_cons_succ]
  refine wpAnyH_take (i := 2) (oi := ⟨some 83, _, _, _, _, _⟩) (v := ?vvqc33) rfl (by kernel_rfl) (by kernel_rfl) (by kernel_rfl) (fun _ _ _ h => h) (Or.inl ⟨by rfl, ?yyqc33⟩) hHeld ?rrqc33
  case yyqc33 => (intro wq hSw; (try dsimp only at hSw); go_simp; first | done | with_reducible rfl)
  simp only [Act.put, List.setIfInBounds_toArray, List.set_cons_zero, List.set_cons_succ]
  refine wpAnyH_take (i := 3) (oi := ⟨some 84, _, _, _, _, _⟩) (v := ?vvqc34) rfl (by kernel_rfl) (by kernel_rfl) (by kernel_rfl) (fun _ _ _ h => h) (Or.inl ⟨by rfl, ?yyqc34⟩) hHeld ?rrqc34
  case yyqc34 => (intro wq hSw; (try dsimp only at hSw); go_simp; first | done | with_reducible rfl)
  simp only [Act.put, List.setIfInBounds_toArray, List.set_cons_zero, List.set_cons_succ]
  refine wpAnyH_take (i := 4) (oi := ⟨some 85, _, _, _, _, _⟩) (v := ?vvqc35) rfl (by kernel_rfl) (by kernel_rfl) (by kernel_rfl) (fun _ _ _ h => h) (Or.inl ⟨by rfl, ?yyqc35⟩) hHeld ?rrqc35
  case yyqc35 => (intro wq hSw; (try dsimp only at hSw); go_simp; first | done | with_reducible rfl)
  simp only [Act.put, List.setIfInBounds_toArray, List.set_cons_zero, List.set_cons_succ]
  refine wpAnyH_take (i := 5) (oi := ⟨some 86, _, _, _, _, _⟩) (v := ?vvqc36) rfl (by kernel_rfl) (by kernel_rfl) (by kernel_rfl) (fun _ _ _ h => h) (Or.inl ⟨by rfl, ?yyqc36⟩) hHeld ?rrqc36
  case yyqc36 => (intro wq hSw; (try dsimp only at hSw); go_simp; first | done | with_reducible rfl)
  simp only [Act.put, List.setIfInBounds_toArray, List.set_cons_zero, List.set_cons_succ]
  refine wpAnyH_ready (rs := [6]) (by kernel_rfl) (by simp) ?_
  refine AllReadyH.cons (o := ⟨some 87, _, _, _, _, _⟩) rfl (fun K hK => ?_) AllReadyH.nil
  go_simp
  refine (HGP.out _ HMX1.out).mono ?_
  rintro e ugp ⟨rfl, hb⟩
  have HMgp := Lib.hid (HMX1.out.below hb)
  have HAgp := Lib.hid (HAX1.out.keep (Kp.below hb _))
  have HPgp := Lib.hid (HPX1.out.trans (Kp.below hb _))
  clear hb
  try dsimp only
  refine hK.out _ _ ?ssqc37 (fun hHeld => ?_)
  case ssqc37 => (exact HSS.out _ _ _ HMgp.out HEV.out HAgp.out)
  clear hK K
  try simp only [Act.put, List.setIfInBounds_toArray, List.set_cons_zero, List.set_cons_succ]
  refine wpAnyH_take (i := 7) (oi := ⟨some 80, _, _, _, _, _⟩) (v := ?vvqc38) rfl (by kernel_rfl) (by kernel_rfl) (by kernel_rfl) (fun _ _ _ h => h) (Or.inl ⟨by rfl, ?yyqc38⟩) hHeld ?rrqc38
  case yyqc38 => (intro wq hSw; (try dsimp only at hSw); go_simp; first | done | with_reducible rfl)
  simp only [Act.put, List.setIfInBounds_toArray, List.set_cons_zero, List.set_cons_succ]
  refine wpAnyH_take (i := 8) (oi := ⟨some 88, _, _, _, _, _⟩) (v := ?vvqc39) rfl (by kernel_rfl) (by kernel_rfl) (by kernel_rfl) (fun _ _ _ h => h) (Or.inl ⟨by rfl, ?yyqc39⟩) hHeld ?rrqc39
  case yyqc39 => (intro wq hSw; (try dsimp only at hSw); go_simp; first | done | with_reducible rfl)
  simp only [Act.put, List.setIfInBounds_toArray, List.set_cons_zero, List.set_cons_succ]
  refine wpAnyH_take (i := 9) (oi := ⟨some 89, _, _, _, _, _⟩) (v := ?vvqc310) rfl (by kernel_rfl) (by kernel_rfl) (by kernel_rfl) (fun _ _ _ h => h) (Or.inl ⟨by rfl, ?yyqc310⟩) hHeld ?rrqc310
  case yyqc310 => (intro wq hSw; (try dsimp only at hSw); go_simp; first | done | with_reducible rfl)
  simp only [Act.put, List.setIfInBounds_toArray, List.set_cons_zero, List.set_cons_succ]
  refine wpAnyH_take (i := 10) (oi := ⟨some 90, _, _, _, _, _⟩) (v := ?vvqc311) rfl (by kernel_rfl) (by kernel_rfl) (by kernel_rfl) (fun _ _ _ h => h) (Or.inl ⟨by rfl, ?yyqc311⟩) hHeld ?rrqc311
  case yyqc311 => (intro wq hSw; (try dsimp only at hSw); go_simp; first | done | with_reducible rfl)
  simp only [Act.put, List.setIfInBounds_toArray, List.set_cons_zero, List.set_cons_succ]
  refine wpAnyH_take (i := 11) (oi := ⟨some 7, _, _, _, _, _⟩) (v := ?vvqc312) rfl (by kernel_rfl) (by kernel_rfl) (by kernel_rfl) (fun _ _ _ h => h) (Or.inl ⟨by rfl, ?yyqc312⟩) hHeld ?rrqc312
  case yyqc312 => (intro wq hSw; (try dsimp only at hSw); go_simp; first | done | with_reducible rfl)
  simp only [Act.put, List.setIfInBounds_toArray, List.set_cons_zero, List.set_cons_succ]
  refine wpAnyH_take (i := 12) (oi := ⟨some 8, _, _, _, _, _⟩) (v := ?vvqc313) rfl (by kernel_rfl) (by kernel_rfl) (by kernel_rfl) (fun _ _ _ h => h) (Or.inl ⟨by rfl, ?yyqc313⟩) hHeld ?rrqc313
  case yyqc313 => (intro wq hSw; (try dsimp only at hSw); go_simp; first | done | with_reducible rfl)
  simp only [Act.put, List.setIfInBounds_toArray, List.set_cons_zero, List.set_cons_succ]
  refine wpAnyH_take (i := 13) (oi := ⟨some 9, _, _, _, _, _⟩) (v := ?vvqc314) rfl (by kernel_rfl) (by kernel_rfl) (by kernel_rfl) (fun _ _ _ h => h) (Or.inl ⟨by rfl, ?yyqc314⟩) hHeld ?rrqc314
  case yyqc314 => (intro wq hSw; (try dsimp only at hSw); go_simp; first | done | with_reducible rfl)
  simp only [Act.put, List.setIfInBounds_toArray, List.set_cons_zero, List.set_cons_succ]
  refine wpAnyH_done (by kernel_rfl) ?_ _
  clear hHeld
  go_upto_region 13 with fail
  refine wp_region_held_drew (S := (fun u : World => u.cell? ⟨tb, 0, none⟩ = some (.pointer (some ⟨sb, 0, none⟩)) ∧ tb < u.heap.size ∧ u.cell? ⟨rtb, 4, none⟩ = some (.pointer (some ⟨rsb, 0, none⟩)) ∧ rtb < u.heap.size ∧ u.cell? ⟨ab, 2, none⟩ = some (.int .i64 x.k.kind) ∧ u.cell? ⟨ab, 3, none⟩ = some (.int .i64 x.k.a) ∧ u.cell? ⟨ab, 4, none⟩ = some (.int .i64 x.k.b) ∧ u.cell? ⟨ab, 5, none⟩ = some (.string x.k.s) ∧ u.cell? ⟨ab, 6, none⟩ = some (.string x.val) ∧ ab < u.heap.size)) (by kernel_rfl) (HSS.out _ _ _ (HMgp.out.below (below_drewN (Below.refl _ _) 1)) HEV.out (HAgp.out.keep (Kp.below (below_drewN (Below.refl _ _) 1) _))) (fun hHeld => ?_)
  obtain ⟨X2, hGen⟩ : ∃ u, u = World.drew ugp := ⟨_, rfl⟩
  rw [← hGen] at hHeld ⊢
  have hb1 : Below ugp.heap.size ugp X2 := by rw [hGen]; exact below_drewN (Below.refl _ _) 1
  have HMX2 := Lib.hid (HMgp.out.below hb1)
  have HAX2 := Lib.hid (HAgp.out.keep (Kp.below hb1 _))
  have HPX2 := Lib.hid (HPgp.out.trans (Kp.below hb1 _))
  clear hb1
  clear hGen
  refine wpAnyH_take (i := 0) (oi := ⟨some 92, _, _, _, _, _⟩) (v := ?vvqd31) rfl (by kernel_rfl) (by kernel_rfl) (by kernel_rfl) (fun _ _ _ h => h) (Or.inl ⟨by rfl, ?yyqd31⟩) hHeld ?rrqd31
  case yyqd31 => (intro wq hSw; (try dsimp only at hSw); go_simp; first | done | with_reducible rfl)
  simp only [Act.put, List.setIfInBounds_toArray, List.set_cons_zero, List.set_cons_succ]
  refine wpAnyH_take (i := 1) (oi := ⟨some 93, _, _, _, _, _⟩) (v := ?vvqd32) rfl (by kernel_rfl) (by kernel_rfl) (by kernel_rfl) (fun _ _ _ h => h) (Or.inl ⟨by rfl, ?yyqd32⟩) hHeld ?rrqd32
  case yyqd32 => (intro wq hSw; (try dsimp only at hSw); go_simp; first | done | with_reducible rfl)
  simp only [Act.put, List.setIfInBounds_toArray, List.set_cons_zero, List.set_cons_succ]
  refine wpAnyH_take (i := 2) (oi := ⟨some 94, _, _, _, _, _⟩) (v := ?vvqd33) rfl (by kernel_rfl) (by kernel_rfl) (by kernel_rfl) (fun _ _ _ h => h) (Or.inl ⟨by rfl, ?yyqd33⟩) hHeld ?rrqd33
  case yyqd33 => (intro wq hSw; (try dsimp only at hSw); go_simp; first | done | with_reducible rfl)
  simp only [Act.put, List.setIfInBounds_toArray, List.set_cons_zero, List.set_cons_succ]
  refine wpAnyH_take (i := 3) (oi := ⟨some 95, _, _, _, _, _⟩) (v := ?vvqd34) rfl (by kernel_rfl) (by kernel_rfl) (by kernel_rfl) (fun _ _ _ h => h) (Or.inl ⟨by rfl, ?yyqd34⟩) hHeld ?rrqd34
  case yyqd34 => (intro wq hSw; (try dsimp only at hSw); go_simp; first | done | with_reducible rfl)
  simp only [Act.put, List.setIfInBounds_toArray, List.set_cons_zero, List.set_cons_succ]
  refine wpAnyH_take (i := 4) (oi := ⟨some 96, _, _, _, _, _⟩) (v := ?vvqd35) rfl (by kernel_rfl) (by kernel_rfl) (by kernel_rfl) (fun _ _ _ h => h) (Or.inl ⟨by rfl, ?yyqd35⟩) hHeld ?rrqd35
  case yyqd35 => (intro wq hSw; (try dsimp only at hSw); go_simp; first | done | with_reducible rfl)
  simp only [Act.put, List.setIfInBounds_toArray, List.set_cons_zero, List.set_cons_succ]
  refine wpAnyH_take (i := 5) (oi := ⟨some 97, _, _, _, _, _⟩) (v := ?vvqd36) rfl (by kernel_rfl) (by kernel_rfl) (by kernel_rfl) (fun _ _ _ h => h) (Or.inl ⟨by rfl, ?yyqd36⟩) hHeld ?rrqd36
  case yyqd36 => (intro wq hSw; (try dsimp only at hSw); go_simp; first | done | with_reducible rfl)
  simp only [Act.put, List.setIfInBounds_toArray, List.set_cons_zero, List.set_cons_succ]
  refine wpAnyH_ready (rs := [6]) (by kernel_rfl) (by simp) ?_
  refine AllReadyH.cons (o := ⟨some 98, _, _, _, _, _⟩) rfl (fun K hK => ?_) AllReadyH.nil
  go_simp
  refine (HGR.out _ HMX2.out).mono ?_
  rintro e ugr ⟨rfl, hb⟩
  have HMgr := Lib.hid (HMX2.out.below hb)
  have HAgr := Lib.hid (HAX2.out.keep (Kp.below hb _))
  have HPgr := Lib.hid (HPX2.out.trans (Kp.below hb _))
  clear hb
  try dsimp only
  refine hK.out _ _ ?ssqd37 (fun hHeld => ?_)
  case ssqd37 => (exact HSS.out _ _ _ HMgr.out HEV.out HAgr.out)
  clear hK K
  try simp only [Act.put, List.setIfInBounds_toArray, List.set_cons_zero, List.set_cons_succ]
  refine wpAnyH_take (i := 7) (oi := ⟨some 91, _, _, _, _, _⟩) (v := ?vvqd38) rfl (by kernel_rfl) (by kernel_rfl) (by kernel_rfl) (fun _ _ _ h => h) (Or.inl ⟨by rfl, ?yyqd38⟩) hHeld ?rrqd38
  case yyqd38 => (intro wq hSw; (try dsimp only at hSw); go_simp; first | done | with_reducible rfl)
  simp only [Act.put, List.setIfInBounds_toArray, List.set_cons_zero, List.set_cons_succ]
  refine wpAnyH_take (i := 8) (oi := ⟨some 99, _, _, _, _, _⟩) (v := ?vvqd39) rfl (by kernel_rfl) (by kernel_rfl) (by kernel_rfl) (fun _ _ _ h => h) (Or.inl ⟨by rfl, ?yyqd39⟩) hHeld ?rrqd39
  case yyqd39 => (intro wq hSw; (try dsimp only at hSw); go_simp; first | done | with_reducible rfl)
  simp only [Act.put, List.setIfInBounds_toArray, List.set_cons_zero, List.set_cons_succ]
  refine wpAnyH_take (i := 9) (oi := ⟨some 100, _, _, _, _, _⟩) (v := ?vvqd310) rfl (by kernel_rfl) (by kernel_rfl) (by kernel_rfl) (fun _ _ _ h => h) (Or.inl ⟨by rfl, ?yyqd310⟩) hHeld ?rrqd310
  case yyqd310 => (intro wq hSw; (try dsimp only at hSw); go_simp; first | done | with_reducible rfl)
  simp only [Act.put, List.setIfInBounds_toArray, List.set_cons_zero, List.set_cons_succ]
  refine wpAnyH_take (i := 10) (oi := ⟨some 101, _, _, _, _, _⟩) (v := ?vvqd311) rfl (by kernel_rfl) (by kernel_rfl) (by kernel_rfl) (fun _ _ _ h => h) (Or.inl ⟨by rfl, ?yyqd311⟩) hHeld ?rrqd311
  case yyqd311 => (intro wq hSw; (try dsimp only at hSw); go_simp; first | done | with_reducible rfl)
  simp only [Act.put, List.setIfInBounds_toArray, List.set_cons_zero, List.set_cons_succ]
  refine wpAnyH_take (i := 11) (oi := ⟨some 10, _, _, _, _, _⟩) (v := ?vvqd312) rfl (by kernel_rfl) (by kernel_rfl) (by kernel_rfl) (fun _ _ _ h => h) (Or.inl ⟨by rfl, ?yyqd312⟩) hHeld ?rrqd312
  case yyqd312 => (intro wq hSw; (try dsimp only at hSw); go_simp; first | done | with_reducible rfl)
  simp only [Act.put, List.setIfInBounds_toArray, List.set_cons_zero, List.set_cons_succ]
  refine wpAnyH_take (i := 12) (oi := ⟨some 11, _, _, _, _, _⟩) (v := ?vvqd313) rfl (by kernel_rfl) (by kernel_rfl) (by kernel_rfl) (fun _ _ _ h => h) (Or.inl ⟨by rfl, ?yyqd313⟩) hHeld ?rrqd313
  case yyqd313 => (intro wq hSw; (try dsimp only at hSw); go_simp; first | done | with_reducible rfl)
  simp only [Act.put, List.setIfInBounds_toArray, List.set_cons_zero, List.set_cons_succ]
  refine wpAnyH_take (i := 13) (oi := ⟨some 12, _, _, _, _, _⟩) (v := ?vvqd314) rfl (by kernel_rfl) (by kernel_rfl) (by kernel_rfl) (fun _ _ _ h => h) (Or.inl ⟨by rfl, ?yyqd314⟩) hHeld ?rrqd314
  case yyqd314 => (intro wq hSw; (try dsimp only at hSw); go_simp; first | done | with_reducible rfl)
  simp only [Act.put, List.setIfInBounds_toArray, List.set_cons_zero, List.set_cons_succ]
  refine wpAnyH_done (by kernel_rfl) ?_ _
  clear hHeld
  go_upto_region 14 with fail
  refine wp_region_held_drew (S := (fun u : World => u.cell? ⟨tb, 0, none⟩ = some (.pointer (some ⟨sb, 0, none⟩)) ∧ tb < u.heap.size ∧ u.cell? ⟨rtb, 4, none⟩ = some (.pointer (some ⟨rsb, 0, none⟩)) ∧ rtb < u.heap.size ∧ u.cell? ⟨ab, 2, none⟩ = some (.int .i64 x.k.kind) ∧ u.cell? ⟨ab, 3, none⟩ = some (.int .i64 x.k.a) ∧ u.cell? ⟨ab, 4, none⟩ = some (.int .i64 x.k.b) ∧ u.cell? ⟨ab, 5, none⟩ = some (.string x.k.s) ∧ u.cell? ⟨ab, 6, none⟩ = some (.string x.val) ∧ ab < u.heap.size)) (by kernel_rfl) (HSS.out _ _ _ (HMgr.out.below (below_drewN (Below.refl _ _) 1)) HEV.out (HAgr.out.keep (Kp.below (below_drewN (Below.refl _ _) 1) _))) (fun hHeld => ?_)
  obtain ⟨X3, hGen⟩ : ∃ u, u = World.drew ugr := ⟨_, rfl⟩
  rw [← hGen] at hHeld ⊢
  have hb1 : Below ugr.heap.size ugr X3 := by rw [hGen]; exact below_drewN (Below.refl _ _) 1
  have HMX3 := Lib.hid (HMgr.out.below hb1)
  have HAX3 := Lib.hid (HAgr.out.keep (Kp.below hb1 _))
  have HPX3 := Lib.hid (HPgr.out.trans (Kp.below hb1 _))
  clear hb1
  clear hGen
  refine wpAnyH_take (i := 0) (oi := ⟨some 102, _, _, _, _, _⟩) (v := ?vvqe31) rfl (by kernel_rfl) (by kernel_rfl) (by kernel_rfl) (fun _ _ _ h => h) (Or.inl ⟨by rfl, ?yyqe31⟩) hHeld ?rrqe31
  case yyqe31 => (intro wq hSw; (try dsimp only at hSw); go_simp; first | done | with_reducible rfl)
  simp only [Act.put, List.setIfInBounds_toArray, List.set_cons_zero, List.set_cons_succ]
  refine wpAnyH_take (i := 1) (oi := ⟨some 103, _, _, _, _, _⟩) (v := ?vvqe32) rfl (by kernel_rfl) (by kernel_rfl) (by kernel_rfl) (fun _ _ _ h => h) (Or.inl ⟨by rfl, ?yyqe32⟩) hHeld ?rrqe32
  case yyqe32 => (intro wq hSw; (try dsimp only at hSw); go_simp; first | done | with_reducible rfl)
  simp only [Act.put, List.setIfInBounds_toArray, List.set_cons_zero, List.set_cons_succ]
  refine wpAnyH_take (i := 2) (oi := ⟨some 104, _, _, _, _, _⟩) (v := ?vvqe33) rfl (by kernel_rfl) (by kernel_rfl) (by kernel_rfl) (fun _ _ _ h => h) (Or.inl ⟨by rfl, ?yyqe33⟩) hHeld ?rrqe33
  case yyqe33 => (intro wq hSw; (try dsimp only at hSw); go_simp; first | done | with_reducible rfl)
  simp only [Act.put, List.setIfInBounds_toArray, List.set_cons_zero, List.set_cons_succ]
  refine wpAnyH_take (i := 3) (oi := ⟨some 105, _, _, _, _, _⟩) (v := ?vvqe34) rfl (by kernel_rfl) (by kernel_rfl) (by kernel_rfl) (fun _ _ _ h => h) (Or.inl ⟨by rfl, ?yyqe34⟩) hHeld ?rrqe34
  case yyqe34 => (intro wq hSw; (try dsimp only at hSw); go_simp; first | done | with_reducible rfl)
  simp only [Act.put, List.setIfInBounds_toArray, List.set_cons_zero, List.set_cons_succ]
  refine wpAnyH_take (i := 4) (oi := ⟨some 106, _, _, _, _, _⟩) (v := ?vvqe35) rfl (by kernel_rfl) (by kernel_rfl) (by kernel_rfl) (fun _ _ _ h => h) (Or.inl ⟨by rfl, ?yyqe35⟩) hHeld ?rrqe35
  case yyqe35 => (intro wq hSw; (try dsimp only at hSw); go_simp; first | done | with_reducible rfl)
  simp only [Act.put, List.setIfInBounds_toArray, List.set_cons_zero, List.set_cons_succ]
  refine wpAnyH_take (i := 5) (oi := ⟨some 107, _, _, _, _, _⟩) (v := ?vvqe36) rfl (by kernel_rfl) (by kernel_rfl) (by kernel_rfl) (fun _ _ _ h => h) (Or.inl ⟨by rfl, ?yyqe36⟩) hHeld ?rrqe36
  case yyqe36 => (intro wq hSw; (try dsimp only at hSw); go_simp; first | done | with_reducible rfl)
  simp only [Act.put, List.setIfInBounds_toArray, List.set_cons_zero, List.set_cons_succ]
  refine wpAnyH_take (i := 6) (oi := ⟨some 108, _, _, _, _, _⟩) (v := ?vvqe37) rfl (by kernel_rfl) (by kernel_rfl) (by kernel_rfl) (fun _ _ _ h => h) (Or.inl ⟨by rfl, ?yyqe37⟩) hHeld ?rrqe37
  case yyqe37 => (intro wq hSw; (try dsimp only at hSw); go_simp; first | done | with_reducible rfl)
  simp only [Act.put, List.setIfInBounds_toArray, List.set_cons_zero, List.set_cons_succ]
  refine wpAnyH_take (i := 7) (oi := ⟨some 109, _, _, _, _, _⟩) (v := ?vvqe38) rfl (by kernel_rfl) (by kernel_rfl) (by kernel_rfl) (fun _ _ _ h => h) (Or.inl ⟨by rfl, ?yyqe38⟩) hHeld ?rrqe38
  case yyqe38 => (intro wq hSw; (try dsimp only at hSw); go_simp; first | done | with_reducible rfl)
  simp only [Act.put, List.setIfInBounds_toArray, List.set_cons_zero, List.set_cons_succ]
  refine wpAnyH_take (i := 8) (oi := ⟨some 110, _, _, _, _, _⟩) (v := ?vvqe39) rfl (by kernel_rfl) (by kernel_rfl) (by kernel_rfl) (fun _ _ _ h => h) (Or.inl ⟨by rfl, ?yyqe39⟩) hHeld ?rrqe39
  case yyqe39 => (intro wq hSw; (try dsimp only at hSw); go_simp; first | done | with_reducible rfl)
  simp only [Act.put, List.setIfInBounds_toArray, List.set_cons_zero, List.set_cons_succ]
  refine wpAnyH_take (i := 9) (oi := ⟨some 111, _, _, _, _, _⟩) (v := ?vvqe310) rfl (by kernel_rfl) (by kernel_rfl) (by kernel_rfl) (fun _ _ _ h => h) (Or.inl ⟨by rfl, ?yyqe310⟩) hHeld ?rrqe310
  case yyqe310 => (intro wq hSw; (try dsimp only at hSw); go_simp; first | done | with_reducible rfl)
  simp only [Act.put, List.setIfInBounds_toArray, List.set_cons_zero, List.set_cons_succ]
  refine wpAnyH_take (i := 10) (oi := ⟨some 112, _, _, _, _, _⟩) (v := ?vvqe311) rfl (by kernel_rfl) (by kernel_rfl) (by kernel_rfl) (fun _ _ _ h => h) (Or.inl ⟨by rfl, ?yyqe311⟩) hHeld ?rrqe311
  case yyqe311 => (intro wq hSw; (try dsimp only at hSw); go_simp; first | done | with_reducible rfl)
  simp only [Act.put, List.setIfInBounds_toArray, List.set_cons_zero, List.set_cons_succ]
  refine wpAnyH_take (i := 11) (oi := ⟨some 113, _, _, _, _, _⟩) (v := ?vvqe312) rfl (by kernel_rfl) (by kernel_rfl) (by kernel_rfl) (fun _ _ _ h => h) (Or.inl ⟨by rfl, ?yyqe312⟩) hHeld ?rrqe312
  case yyqe312 => (intro wq hSw; (try dsimp only at hSw); go_simp; first | done | with_reducible rfl)
  simp only [Act.put, List.setIfInBounds_toArray, List.set_cons_zero, List.set_cons_succ]
  refine wpAnyH_take (i := 12) (oi := ⟨some 114, _, _, _, _, _⟩) (v := ?vvqe313) rfl (by kernel_rfl) (by kernel_rfl) (by kernel_rfl) (fun _ _ _ h => h) (Or.inl ⟨by rfl, ?yyqe313⟩) hHeld ?rrqe313
  case yyqe313 => (intro wq hSw; (try dsimp only at hSw); go_simp; first | done | with_reducible rfl)
  simp only [Act.put, List.setIfInBounds_toArray, List.set_cons_zero, List.set_cons_succ]
  refine wpAnyH_take (i := 13) (oi := ⟨some 115, _, _, _, _, _⟩) (v := ?vvqe314) rfl (by kernel_rfl) (by kernel_rfl) (by kernel_rfl) (fun _ _ _ h => h) (Or.inl ⟨by rfl, ?yyqe314⟩) hHeld ?rrqe314
  case yyqe314 => (intro wq hSw; (try dsimp only at hSw); go_simp; first | done | with_reducible rfl)
  simp only [Act.put, List.setIfInBounds_toArray, List.set_cons_zero, List.set_cons_succ]
  refine wpAnyH_take (i := 14) (oi := ⟨some 116, _, _, _, _, _⟩) (v := ?vvqe315) rfl (by kernel_rfl) (by kernel_rfl) (by kernel_rfl) (fun _ _ _ h => h) (Or.inl ⟨by rfl, ?yyqe315⟩) hHeld ?rrqe315
  case yyqe315 => (intro wq hSw; (try dsimp only at hSw); go_simp; first | done | with_reducible rfl)
  simp only [Act.put, List.setIfInBounds_toArray, List.set_cons_zero, List.set_cons_succ]
  refine wpAnyH_take (i := 15) (oi := ⟨some 117, _, _, _, _, _⟩) (v := ?vvqe316) rfl (by kernel_rfl) (by kernel_rfl) (by kernel_rfl) (fun _ _ _ h => h) (Or.inl ⟨by rfl, ?yyqe316⟩) hHeld ?rrqe316
  case yyqe316 => (intro wq hSw; (try dsimp only at hSw); go_simp; first | done | with_reducible rfl)
  simp only [Act.put, List.setIfInBounds_toArray, List.set_cons_zero, List.set_cons_succ]
  refine wpAnyH_take (i := 16) (oi := ⟨some 118, _, _, _, _, _⟩) (v := ?vvqe317) rfl (by kernel_rfl) (by kernel_rfl) (by kernel_rfl) (fun _ _ _ h => h) (Or.inl ⟨by rfl, ?yyqe317⟩) hHeld ?rrqe317
  case yyqe317 => (intro wq hSw; (try dsimp only at hSw); go_simp; first | done | with_reducible rfl)
  simp only [Act.put, List.setIfInBounds_toArray, List.set_cons_zero, List.set_cons_succ]
  refine wpAnyH_take (i := 17) (oi := ⟨some 119, _, _, _, _, _⟩) (v := ?vvqe318) rfl (by kernel_rfl) (by kernel_rfl) (by kernel_rfl) (fun _ _ _ h => h) (Or.inl ⟨by rfl, ?yyqe318⟩) hHeld ?rrqe318
  case yyqe318 => (intro wq hSw; (try dsimp only at hSw); go_simp; first | done | with_reducible rfl)
  simp only [Act.put, List.setIfInBounds_toArray, List.set_cons_zero, List.set_cons_succ]
  refine wpAnyH_take (i := 19) (oi := ⟨some 121, _, _, _, _, _⟩) (v := ?vvqe319) rfl (by kernel_rfl) (by kernel_rfl) (by kernel_rfl) (fun _ _ _ h => h) (Or.inl ⟨by rfl, ?yyqe319⟩) hHeld ?rrqe319
  case yyqe319 => (intro wq hSw; (try dsimp only at hSw); go_simp; first | done | with_reducible rfl)
  simp only [Act.put, List.setIfInBounds_toArray, List.set_cons_zero, List.set_cons_succ]
  refine wpAnyH_take (i := 20) (oi := ⟨some 122, _, _, _, _, _⟩) (v := ?vvqe320) rfl (by kernel_rfl) (by kernel_rfl) (by kernel_rfl) (fun _ _ _ h => h) (Or.inl ⟨by rfl, ?yyqe320⟩) hHeld ?rrqe320
  case yyqe320 => (intro wq hSw; (try dsimp only at hSw); go_simp; first | done | with_reducible rfl)
  simp only [Act.put, List.setIfInBounds_toArray, List.set_cons_zero, List.set_cons_succ]
  refine wpAnyH_take (i := 21) (oi := ⟨some 123, _, _, _, _, _⟩) (v := ?vvqe321) rfl (by kernel_rfl) (by kernel_rfl) (by kernel_rfl) (fun _ _ _ h => h) (Or.inl ⟨by rfl, ?yyqe321⟩) hHeld ?rrqe321
  case yyqe321 => (intro wq hSw; (try dsimp only at hSw); go_simp; first | done | with_reducible rfl)
  simp only [Act.put, List.setIfInBounds_toArray, List.set_cons_zero, List.set_cons_succ]
  refine wpAnyH_take (i := 22) (oi := ⟨some 124, _, _, _, _, _⟩) (v := ?vvqe322) rfl (by kernel_rfl) (by kernel_rfl) (by kernel_rfl) (fun _ _ _ h => h) (Or.inl ⟨by rfl, ?yyqe322⟩) hHeld ?rrqe322
  case yyqe322 => (intro wq hSw; (try dsimp only at hSw); go_simp; first | done | with_reducible rfl)
  simp only [Act.put, List.setIfInBounds_toArray, List.set_cons_zero, List.set_cons_succ]
  refine wpAnyH_ready (rs := [18]) (by kernel_rfl) (by simp) ?_
  refine AllReadyH.cons (o := ⟨some 120, _, _, _, _, _⟩) rfl (fun K hK => ?_) AllReadyH.nil
  go_simp
  refine (HWP.out _ HMX3.out).mono ?_
  rintro e uwp ⟨pa, pc, rfl, hwa, hb⟩
  have HMwp := Lib.hid (HMX3.out.below hb)
  have HAwp := Lib.hid (HAX3.out.keep (Kp.below hb _))
  have HPwp := Lib.hid (HPX3.out.trans (Kp.below hb _))
  have HWA := Lib.hid hwa
  clear hwa
  clear hb
  try dsimp only
  refine hK.out _ _ ?ssqe323 (fun hHeld => ?_)
  case ssqe323 => (exact HSS.out _ _ _ HMwp.out HEV.out HAwp.out)
  clear hK K
  try simp only [Act.put, List.setIfInBounds_toArray, List.set_cons_zero, List.set_cons_succ]
  refine wpAnyH_ready (rs := [23]) (by kernel_rfl) (by simp) ?_
  refine AllReadyH.cons (o := ⟨some 125, _, _, _, _, _⟩) rfl (fun K hK => ?_) AllReadyH.nil
  go_simp
  refine (HWQ.out _ HMwp.out).mono ?_
  rintro e uwr ⟨qa, qc, rfl, hwb, hb⟩
  have HMwr := Lib.hid (HMwp.out.below hb)
  have HAwr := Lib.hid (HAwp.out.keep (Kp.below hb _))
  have HPwr := Lib.hid (HPwp.out.trans (Kp.below hb _))
  have HWA2 := Lib.hid (HWA.out.below hb)
  have HWB := Lib.hid hwb
  clear hwb
  clear hb
  try dsimp only
  refine hK.out _ _ ?ssqe324 (fun hHeld => ?_)
  case ssqe324 => (exact HSS.out _ _ _ HMwr.out HEV.out HAwr.out)
  clear hK K
  try simp only [Act.put, List.setIfInBounds_toArray, List.set_cons_zero, List.set_cons_succ]
  refine wpAnyH_ready (rs := [24]) (by kernel_rfl) (by simp) ?_
  refine AllReadyH.cons (o := ⟨some 126, _, _, _, _, _⟩) rfl (fun K hK => ?_) AllReadyH.nil
  go_simp
  refine (same13_eq _ _ _ _ (outX (pe.X j)) _ HWA2.out HWB.out HWL.out).mono ?_
  rintro e usm ⟨rfl, hb⟩
  have HMsm := Lib.hid (HMwr.out.below hb)
  have HAsm := Lib.hid (HAwr.out.keep (Kp.below hb _))
  have HPsm := Lib.hid (HPwr.out.trans (Kp.below hb _))
  clear hb
  try dsimp only
  refine hK.out _ _ ?ssqe325 (fun hHeld => ?_)
  case ssqe325 => (exact HSS.out _ _ _ HMsm.out HEV.out HAsm.out)
  clear hK K
  try simp only [Act.put, List.setIfInBounds_toArray, List.set_cons_zero, List.set_cons_succ]
  refine wpAnyH_take (i := 25) (oi := ⟨some 127, _, _, _, _, _⟩) (v := ?vvqe326) rfl (by kernel_rfl) (by kernel_rfl) (by kernel_rfl) (fun _ _ _ h => h) (Or.inl ⟨by rfl, ?yyqe326⟩) hHeld ?rrqe326
  case yyqe326 => (intro wq hSw; (try dsimp only at hSw); go_simp; first | done | with_reducible rfl)
  simp only [Act.put, List.setIfInBounds_toArray, List.set_cons_zero, List.set_cons_succ]
  refine wpAnyH_take (i := 26) (oi := ⟨some 6, _, _, _, _, _⟩) (v := ?vvqe327) rfl (by kernel_rfl) (by kernel_rfl) (by kernel_rfl) (fun _ _ _ h => h) (Or.inl ⟨by rfl, ?yyqe327⟩) hHeld ?rrqe327
  case yyqe327 => (intro wq hSw; (try dsimp only at hSw); go_simp; first | done | with_reducible rfl)
  simp only [Act.put, List.setIfInBounds_toArray, List.set_cons_zero, List.set_cons_succ]
  refine wpAnyH_done (by kernel_rfl) ?_ _
  clear hHeld
  go_wp2_with fail
  go_ret
  exact ⟨rfl, me, pe, HMsm.out, HV2.out, HPsm.out, HTP.out⟩

set_option maxRecDepth 100000 in
set_option maxHeartbeats 8000000 in
theorem l20back_any (h : M3 w0 w m p) (hV : V3 m p N) (hj : j < 3) (hN : N ≤ 900) (h0 : (p.T j).ph = 0) (hx : x.Ok) (hkind : x.kind = 4) :
    Calls Tryz.prog 27 #[.pointer (some ⟨(m.a j).m.tb, 0, none⟩), .pointer (some ⟨(m.b j).m.tb, 0, none⟩), .agg #[.int .i64 x.kind, .int .i64 x.tt, .int .i64 x.k.kind, .int .i64 x.k.a, .int .i64 x.k.b, .string x.k.s, .string x.val, .int .u64 x.last, .int .i64 x.ep]] w (DoPost w0 w m N) := by
  obtain ⟨G, H, hD⟩ := duo_back (w0 := w0) hV hj h0
  obtain ⟨W, hW⟩ : ∃ W, W = w.alloc (.cells #[.int .i64 x.kind, .int .i64 x.tt, .int .i64 x.k.kind, .int .i64 x.k.a, .int .i64 x.k.b, .string x.k.s, .string x.val, .int .u64 x.last, .int .i64 x.ep] 49) := ⟨_, rfl⟩
  obtain ⟨ab, hab⟩ : ∃ b, b = w.heap.size := ⟨_, rfl⟩
  obtain ⟨tb, htb⟩ : ∃ b, b = (m.a j).m.tb := ⟨_, rfl⟩
  obtain ⟨sb, hsb⟩ : ∃ b, b = (m.a j).m.sb := ⟨_, rfl⟩
  obtain ⟨rtb, hrtb⟩ : ∃ b, b = (m.b j).m.tb := ⟨_, rfl⟩
  obtain ⟨rsb, hrsb⟩ : ∃ b, b = (m.b j).m.sb := ⟨_, rfl⟩
  have hbW : Below w.heap.size w W := by rw [hW]; exact below_box _ _
  have HMW : Hid (M3 w0 W m p) := Lib.hid (h.below hbW)
  have HAW : Hid (AcAt ab x W m) := Lib.hid ⟨by rw [hW, hab]; exact heap_new w _, fun c hc => by have := h.lt hc; omega⟩
  have HPW : Hid (Kp w W m m) := Lib.hid (Kp.below hbW m)
  have HEQ : Hid (EqA m j tb sb rtb rsb) := Lib.hid ⟨htb.symm, hsb.symm, hrtb.symm, hrsb.symm⟩
  have HSS := Lib.hid (fun u m' p' (hM : M3 w0 u m' p') (hE : EqA m' j tb sb rtb rsb) (hA : AcAt ab x u m') => sets_cells hj hM hE hA)
  have HVV := Lib.hid hV
  have HJ := Lib.hid hj
  have HKO := Lib.hid hx.k
  have HNN := Lib.hid hN
  have HWW := Lib.hid hW
  have HAA := Lib.hid hab
  rw [← hsb, ← hrsb] at hD
  have HD := Lib.hid hD
  rw [← htb, ← hrtb]
  have p0 := cell_of_blk HAW.out.1 0
  have pl := (Array.getElem?_eq_some_iff.1 HAW.out.1).1
  simp at p0
  rw [hkind] at p0 ⊢
  rw [hkind] at HWW
  clear h hV hj hN h0 hx hkind hW hab htb hsb hrtb hrsb hbW hD
  go_enter Tryz.func27, Tryz.ntmps27
  go_upto_region 1 with fail
  rw [← HWW.out, ← HAA.out]
  obtain ⟨c0, ctl, _, _, _, _, _, _, _, _⟩ := HSS.out _ _ _ HMW.out HEQ.out HAW.out
  go_upto_region 11 with (go_at_call 62; refine (HD.out.pr _ _ _ trivial HMW.out rfl rfl rfl rfl).mono ?_; rintro e up ⟨ap, sp, Tp, Pp, rfl, hG, hr, hM, hk⟩; have HGp := Lib.hid hG; have HRp := Lib.hid hr; have HMp := Lib.hid hM; have HAp := Lib.hid (HAW.out.keep hk); have HPp := Lib.hid (HPW.out.trans hk); have HEp : Hid (EqA (m.tx j ap sp) j tb sb rtb rsb) := Lib.hid (HEQ.out.tx hr.2.2); clear hG hr hM hk)
  clear c0 ctl p0 pl
  obtain ⟨_, _, c4, crl, _, _, _, _, _, _⟩ := HSS.out _ _ _ HMp.out HEp.out HAp.out
  have p0 := cell_of_blk HAp.out.1 0
  have pl := (Array.getElem?_eq_some_iff.1 HAp.out.1).1
  simp at p0
  go_upto_region 12 with (go_at_call 61; refine (HD.out.rf _ _ _ trivial HMp.out rfl rfl rfl rfl rfl rfl rfl).mono ?_; rintro e V ⟨rfl, br, vr, Rr, Xr, Lr, hH, hr, hM, hk⟩; have HHr := Lib.hid hH; have HMr := Lib.hid hM; have HAr := Lib.hid (HAp.out.keep hk); have HPr := Lib.hid (HPp.out.trans hk); have HEr : Hid (EqA ((m.tx j ap sp).rx j br vr) j tb sb rtb rsb) := Lib.hid (HEp.out.rx hr); clear hH hr hM hk)
  clear c4 crl p0 pl
  obtain ⟨me, hme⟩ : ∃ x, x = (m.tx j ap sp).rx j br vr := ⟨_, rfl⟩
  obtain ⟨pe, hpe⟩ : ∃ x, x = (p.tx j Tp Pp).rx j Rr Xr Lr := ⟨_, rfl⟩
  have HV2 : Hid (V3 me pe (N + 1)) := Lib.hid (by rw [hme, hpe]; exact HVV.out.next HRp.out.1 (HD.out.pl _ _ _ _ _ _ HGp.out HHr.out).1)
  have HTP : Hid (me.tp = m.tp ∧ me.rp = m.rp ∧ me.s.sb = m.s.sb ∧ me.rb = m.rb ∧ me.room = m.room) := Lib.hid (by rw [hme]; exact ⟨rfl, rfl, HRp.out.2.1, rfl, rfl⟩)
  have HMV : Hid (M3 w0 V me pe) := Lib.hid (by rw [hme, hpe]; exact HMr.out)
  have HAV : Hid (AcAt ab x V me) := Lib.hid (by rw [hme]; exact HAr.out)
  have HPV : Hid (Kp w V m me) := Lib.hid (by rw [hme]; exact HPr.out)
  have HEV : Hid (EqA me j tb sb rtb rsb) := Lib.hid (by rw [hme]; exact HEr.out)
  have HGP : Hid (∀ u, M3 w0 u me pe → Calls Tryz.prog 63 #[.pointer (some ⟨sb, 0, none⟩), .agg #[.int .i64 x.k.kind, .int .i64 x.k.a, .int .i64 x.k.b, .string x.k.s]] u (GtPost (pe.P j) x.k u)) := Lib.hid (fun u hu => by rw [← HEV.out.2.1]; exact get_p hu HJ.out HKO.out)
  have HGR : Hid (∀ u, M3 w0 u me pe → Calls Tryz.prog 64 #[.pointer (some ⟨rsb, 0, none⟩), .agg #[.int .i64 x.k.kind, .int .i64 x.k.a, .int .i64 x.k.b, .string x.k.s]] u (GtPost (pe.P j) x.k u)) := Lib.hid (fun u hu => by rw [← HEV.out.2.2.2]; exact get_r hu HJ.out (HV2.out.v j HJ.out).px)
  have HWP : Hid (∀ u, M3 w0 u me pe → Calls Tryz.prog 41 #[.pointer (some ⟨sb, 0, none⟩)] u (WsPost (outX (pe.X j)) u)) := Lib.hid (fun u hu => by rw [← HEV.out.2.1]; exact writes_p hu HJ.out HV2.out (by have := HNN.out; omega))
  have HWQ : Hid (∀ u, M3 w0 u me pe → Calls Tryz.prog 65 #[.pointer (some ⟨rsb, 0, none⟩)] u (WsPost (outX (pe.X j)) u)) := Lib.hid (fun u hu => by rw [← HEV.out.2.2.2]; exact writes_r hu HJ.out HV2.out)
  have HWL : Hid ((outX (pe.X j)).length ≤ 1000000) := Lib.hid (by have h1 := outX_len (pe.X j); have h2 := (HV2.out.v j HJ.out).n; have := HNN.out; omega)
  clear hme hpe HMr HAr HPr HEr
  refine wp_region_held_drew (S := (fun u : World => u.cell? ⟨tb, 0, none⟩ = some (.pointer (some ⟨sb, 0, none⟩)) ∧ tb < u.heap.size ∧ u.cell? ⟨rtb, 4, none⟩ = some (.pointer (some ⟨rsb, 0, none⟩)) ∧ rtb < u.heap.size ∧ u.cell? ⟨ab, 2, none⟩ = some (.int .i64 x.k.kind) ∧ u.cell? ⟨ab, 3, none⟩ = some (.int .i64 x.k.a) ∧ u.cell? ⟨ab, 4, none⟩ = some (.int .i64 x.k.b) ∧ u.cell? ⟨ab, 5, none⟩ = some (.string x.k.s) ∧ u.cell? ⟨ab, 6, none⟩ = some (.string x.val) ∧ ab < u.heap.size)) (by kernel_rfl) (HSS.out _ _ _ (HMV.out.below (below_drewN (Below.refl _ _) 1)) HEV.out (HAV.out.keep (Kp.below (below_drewN (Below.refl _ _) 1) _))) (fun hHeld => ?_)
  obtain ⟨X1, hGen⟩ : ∃ u, u = World.drew V := ⟨_, rfl⟩
  rw [← hGen] at hHeld ⊢
  have hb1 : Below V.heap.size V X1 := by rw [hGen]; exact below_drewN (Below.refl _ _) 1
  have HMX1 := Lib.hid (HMV.out.below hb1)
  have HAX1 := Lib.hid (HAV.out.keep (Kp.below hb1 _))
  have HPX1 := Lib.hid (HPV.out.trans (Kp.below hb1 _))
  clear hb1
  clear hGen
  refine wpAnyH_take (i := 0) (oi := ⟨some 81, _, _, _, _, _⟩) (v := ?vvqc41) rfl (by kernel_rfl) (by kernel_rfl) (by kernel_rfl) (fun _ _ _ h => h) (Or.inl ⟨by rfl, ?yyqc41⟩) hHeld ?rrqc41
  case yyqc41 => (intro wq hSw; (try dsimp only at hSw); go_simp; first | done | with_reducible rfl)
  simp only [Act.put, List.setIfInBounds_toArray, List.set_cons_zero, List.set_cons_succ]
  refine wpAnyH_take (i := 1) (oi := ⟨some 82, _, _, _, _, _⟩) (v := ?vvqc42) rfl (by kernel_rfl) (by kernel_rfl) (by kernel_rfl) (fun _ _ _ h => h) (Or.inl ⟨by rfl, ?yyqc42⟩) hHeld ?rrqc42
  case yyqc42 => (intro wq hSw; (try dsimp only at hSw); go_simp; first | done | with_reducible rfl)
  simp only [Act.put, List.setIfInBounds_toArray, List.set_cons_zero, List.set_cons_succ]
  refine wpAnyH_take (i := 2) (oi := ⟨some 83, _, _, _, _, _⟩) (v := ?vvqc43) rfl (by kernel_rfl) (by kernel_rfl) (by kernel_rfl) (fun _ _ _ h => h) (Or.inl ⟨by rfl, ?yyqc43⟩) hHeld ?rrqc43
  case yyqc43 => (intro wq hSw; (try dsimp only at hSw); go_simp; first | done | with_reducible rfl)
  simp only [Act.put, List.setIfInBounds_toArray, List.set_cons_zero, List.set_cons_succ]
  refine wpAnyH_take (i := 3) (oi := ⟨some 84, _, _, _, _, _⟩) (v := ?vvqc44) rfl (by kernel_rfl) (by kernel_rfl) (by kernel_rfl) (fun _ _ _ h => h) (Or.inl ⟨by rfl, ?yyqc44⟩) hHeld ?rrqc44
  case yyqc44 => (intro wq hSw; (try dsimp only at hSw); go_simp; first | done | with_reducible rfl)
  simp only [Act.put, List.setIfInBounds_toArray, List.set_cons_zero, List.set_cons_succ]
  refine wpAnyH_take (i := 4) (oi := ⟨some 85, _, _, _, _, _⟩) (v := ?vvqc45) rfl (by kernel_rfl) (by kernel_rfl) (by kernel_rfl) (fun _ _ _ h => h) (Or.inl ⟨by rfl, ?yyqc45⟩) hHeld ?rrqc45
  case yyqc45 => (intro wq hSw; (try dsimp only at hSw); go_simp; first | done | with_reducible rfl)
  simp only [Act.put, List.setIfInBounds_toArray, List.set_cons_zero, List.set_cons_succ]
  refine wpAnyH_take (i := 5) (oi := ⟨some 86, _, _, _, _, _⟩) (v := ?vvqc46) rfl (by kernel_rfl) (by kernel_rfl) (by kernel_rfl) (fun _ _ _ h => h) (Or.inl ⟨by rfl, ?yyqc46⟩) hHeld ?rrqc46
  case yyqc46 => (intro wq hSw; (try dsimp only at hSw); go_simp; first | done | with_reducible rfl)
  simp only [Act.put, List.setIfInBounds_toArray, List.set_cons_zero, List.set_cons_succ]
  refine wpAnyH_ready (rs := [6]) (by kernel_rfl) (by simp) ?_
  refine AllReadyH.cons (o := ⟨some 87, _, _, _, _, _⟩) rfl (fun K hK => ?_) AllReadyH.nil
  go_simp
  refine (HGP.out _ HMX1.out).mono ?_
  rintro e ugp ⟨rfl, hb⟩
  have HMgp := Lib.hid (HMX1.out.below hb)
  have HAgp := Lib.hid (HAX1.out.keep (Kp.below hb _))
  have HPgp := Lib.hid (HPX1.out.trans (Kp.below hb _))
  clear hb
  try dsimp only
  refine hK.out _ _ ?ssqc47 (fun hHeld => ?_)
  case ssqc47 => (exact HSS.out _ _ _ HMgp.out HEV.out HAgp.out)
  clear hK K
  try simp only [Act.put, List.setIfInBounds_toArray, List.set_cons_zero, List.set_cons_succ]
  refine wpAnyH_take (i := 7) (oi := ⟨some 80, _, _, _, _, _⟩) (v := ?vvqc48) rfl (by kernel_rfl) (by kernel_rfl) (by kernel_rfl) (fun _ _ _ h => h) (Or.inl ⟨by rfl, ?yyqc48⟩) hHeld ?rrqc48
  case yyqc48 => (intro wq hSw; (try dsimp only at hSw); go_simp; first | done | with_reducible rfl)
  simp only [Act.put, List.setIfInBounds_toArray, List.set_cons_zero, List.set_cons_succ]
  refine wpAnyH_take (i := 8) (oi := ⟨some 88, _, _, _, _, _⟩) (v := ?vvqc49) rfl (by kernel_rfl) (by kernel_rfl) (by kernel_rfl) (fun _ _ _ h => h) (Or.inl ⟨by rfl, ?yyqc49⟩) hHeld ?rrqc49
  case yyqc49 => (intro wq hSw; (try dsimp only at hSw); go_simp; first | done | with_reducible rfl)
  simp only [Act.put, List.setIfInBounds_toArray, List.set_cons_zero, List.set_cons_succ]
  refine wpAnyH_take (i := 9) (oi := ⟨some 89, _, _, _, _, _⟩) (v := ?vvqc410) rfl (by kernel_rfl) (by kernel_rfl) (by kernel_rfl) (fun _ _ _ h => h) (Or.inl ⟨by rfl, ?yyqc410⟩) hHeld ?rrqc410
  case yyqc410 => (intro wq hSw; (try dsimp only at hSw); go_simp; first | done | with_reducible rfl)
  simp only [Act.put, List.setIfInBounds_toArray, List.set_cons_zero, List.set_cons_succ]
  refine wpAnyH_take (i := 10) (oi := ⟨some 90, _, _, _, _, _⟩) (v := ?vvqc411) rfl (by kernel_rfl) (by kernel_rfl) (by kernel_rfl) (fun _ _ _ h => h) (Or.inl ⟨by rfl, ?yyqc411⟩) hHeld ?rrqc411
  case yyqc411 => (intro wq hSw; (try dsimp only at hSw); go_simp; first | done | with_reducible rfl)
  simp only [Act.put, List.setIfInBounds_toArray, List.set_cons_zero, List.set_cons_succ]
  refine wpAnyH_take (i := 11) (oi := ⟨some 7, _, _, _, _, _⟩) (v := ?vvqc412) rfl (by kernel_rfl) (by kernel_rfl) (by kernel_rfl) (fun _ _ _ h => h) (Or.inl ⟨by rfl, ?yyqc412⟩) hHeld ?rrqc412
  case yyqc412 => (intro wq hSw; (try dsimp only at hSw); go_simp; first | done | with_reducible rfl)
  simp only [Act.put, List.setIfInBounds_toArray, List.set_cons_zero, List.set_cons_succ]
  refine wpAnyH_take (i := 12) (oi := ⟨some 8, _, _, _, _, _⟩) (v := ?vvqc413) rfl (by kernel_rfl) (by kernel_rfl) (by kernel_rfl) (fun _ _ _ h => h) (Or.inl ⟨by rfl, ?yyqc413⟩) hHeld ?rrqc413
  case yyqc413 => (intro wq hSw; (try dsimp only at hSw); go_simp; first | done | with_reducible rfl)
  simp only [Act.put, List.setIfInBounds_toArray, List.set_cons_zero, List.set_cons_succ]
  refine wpAnyH_take (i := 13) (oi := ⟨some 9, _, _, _, _, _⟩) (v := ?vvqc414) rfl (by kernel_rfl) (by kernel_rfl) (by kernel_rfl) (fun _ _ _ h => h) (Or.inl ⟨by rfl, ?yyqc414⟩) hHeld ?rrqc414
  case yyqc414 => (intro wq hSw; (try dsimp only at hSw); go_simp; first | done | with_reducible rfl)
  simp only [Act.put, List.setIfInBounds_toArray, List.set_cons_zero, List.set_cons_succ]
  refine wpAnyH_done (by kernel_rfl) ?_ _
  clear hHeld
  go_upto_region 13 with fail
  refine wp_region_held_drew (S := (fun u : World => u.cell? ⟨tb, 0, none⟩ = some (.pointer (some ⟨sb, 0, none⟩)) ∧ tb < u.heap.size ∧ u.cell? ⟨rtb, 4, none⟩ = some (.pointer (some ⟨rsb, 0, none⟩)) ∧ rtb < u.heap.size ∧ u.cell? ⟨ab, 2, none⟩ = some (.int .i64 x.k.kind) ∧ u.cell? ⟨ab, 3, none⟩ = some (.int .i64 x.k.a) ∧ u.cell? ⟨ab, 4, none⟩ = some (.int .i64 x.k.b) ∧ u.cell? ⟨ab, 5, none⟩ = some (.string x.k.s) ∧ u.cell? ⟨ab, 6, none⟩ = some (.string x.val) ∧ ab < u.heap.size)) (by kernel_rfl) (HSS.out _ _ _ (HMgp.out.below (below_drewN (Below.refl _ _) 1)) HEV.out (HAgp.out.keep (Kp.below (below_drewN (Below.refl _ _) 1) _))) (fun hHeld => ?_)
  obtain ⟨X2, hGen⟩ : ∃ u, u = World.drew ugp := ⟨_, rfl⟩
  rw [← hGen] at hHeld ⊢
  have hb1 : Below ugp.heap.size ugp X2 := by rw [hGen]; exact below_drewN (Below.refl _ _) 1
  have HMX2 := Lib.hid (HMgp.out.below hb1)
  have HAX2 := Lib.hid (HAgp.out.keep (Kp.below hb1 _))
  have HPX2 := Lib.hid (HPgp.out.trans (Kp.below hb1 _))
  clear hb1
  clear hGen
  refine wpAnyH_take (i := 0) (oi := ⟨some 92, _, _, _, _, _⟩) (v := ?vvqd41) rfl (by kernel_rfl) (by kernel_rfl) (by kernel_rfl) (fun _ _ _ h => h) (Or.inl ⟨by rfl, ?yyqd41⟩) hHeld ?rrqd41
  case yyqd41 => (intro wq hSw; (try dsimp only at hSw); go_simp; first | done | with_reducible rfl)
  simp only [Act.put, List.setIfInBounds_toArray, List.set_cons_zero, List.set_cons_succ]
  refine wpAnyH_take (i := 1) (oi := ⟨some 93, _, _, _, _, _⟩) (v := ?vvqd42) rfl (by kernel_rfl) (by kernel_rfl) (by kernel_rfl) (fun _ _ _ h => h) (Or.inl ⟨by rfl, ?yyqd42⟩) hHeld ?rrqd42
  case yyqd42 => (intro wq hSw; (try dsimp only at hSw); go_simp; first | done | with_reducible rfl)
  simp only [Act.put, List.setIfInBounds_toArray, List.set_cons_zero, List.set_cons_succ]
  refine wpAnyH_take (i := 2) (oi := ⟨some 94, _, _, _, _, _⟩) (v := ?vvqd43) rfl (by kernel_rfl) (by kernel_rfl) (by kernel_rfl) (fun _ _ _ h => h) (Or.inl ⟨by rfl, ?yyqd43⟩) hHeld ?rrqd43
  case yyqd43 => (intro wq hSw; (try dsimp only at hSw); go_simp; first | done | with_reducible rfl)
  simp only [Act.put, List.setIfInBounds_toArray, List.set_cons_zero, List.set_cons_succ]
  refine wpAnyH_take (i := 3) (oi := ⟨some 95, _, _, _, _, _⟩) (v := ?vvqd44) rfl (by kernel_rfl) (by kernel_rfl) (by kernel_rfl) (fun _ _ _ h => h) (Or.inl ⟨by rfl, ?yyqd44⟩) hHeld ?rrqd44
  case yyqd44 => (intro wq hSw; (try dsimp only at hSw); go_simp; first | done | with_reducible rfl)
  simp only [Act.put, List.setIfInBounds_toArray, List.set_cons_zero, List.set_cons_succ]
  refine wpAnyH_take (i := 4) (oi := ⟨some 96, _, _, _, _, _⟩) (v := ?vvqd45) rfl (by kernel_rfl) (by kernel_rfl) (by kernel_rfl) (fun _ _ _ h => h) (Or.inl ⟨by rfl, ?yyqd45⟩) hHeld ?rrqd45
  case yyqd45 => (intro wq hSw; (try dsimp only at hSw); go_simp; first | done | with_reducible rfl)
  simp only [Act.put, List.setIfInBounds_toArray, List.set_cons_zero, List.set_cons_succ]
  refine wpAnyH_take (i := 5) (oi := ⟨some 97, _, _, _, _, _⟩) (v := ?vvqd46) rfl (by kernel_rfl) (by kernel_rfl) (by kernel_rfl) (fun _ _ _ h => h) (Or.inl ⟨by rfl, ?yyqd46⟩) hHeld ?rrqd46
  case yyqd46 => (intro wq hSw; (try dsimp only at hSw); go_simp; first | done | with_reducible rfl)
  simp only [Act.put, List.setIfInBounds_toArray, List.set_cons_zero, List.set_cons_succ]
  refine wpAnyH_ready (rs := [6]) (by kernel_rfl) (by simp) ?_
  refine AllReadyH.cons (o := ⟨some 98, _, _, _, _, _⟩) rfl (fun K hK => ?_) AllReadyH.nil
  go_simp
  refine (HGR.out _ HMX2.out).mono ?_
  rintro e ugr ⟨rfl, hb⟩
  have HMgr := Lib.hid (HMX2.out.below hb)
  have HAgr := Lib.hid (HAX2.out.keep (Kp.below hb _))
  have HPgr := Lib.hid (HPX2.out.trans (Kp.below hb _))
  clear hb
  try dsimp only
  refine hK.out _ _ ?ssqd47 (fun hHeld => ?_)
  case ssqd47 => (exact HSS.out _ _ _ HMgr.out HEV.out HAgr.out)
  clear hK K
  try simp only [Act.put, List.setIfInBounds_toArray, List.set_cons_zero, List.set_cons_succ]
  refine wpAnyH_take (i := 7) (oi := ⟨some 91, _, _, _, _, _⟩) (v := ?vvqd48) rfl (by kernel_rfl) (by kernel_rfl) (by kernel_rfl) (fun _ _ _ h => h) (Or.inl ⟨by rfl, ?yyqd48⟩) hHeld ?rrqd48
  case yyqd48 => (intro wq hSw; (try dsimp only at hSw); go_simp; first | done | with_reducible rfl)
  simp only [Act.put, List.setIfInBounds_toArray, List.set_cons_zero, List.set_cons_succ]
  refine wpAnyH_take (i := 8) (oi := ⟨some 99, _, _, _, _, _⟩) (v := ?vvqd49) rfl (by kernel_rfl) (by kernel_rfl) (by kernel_rfl) (fun _ _ _ h => h) (Or.inl ⟨by rfl, ?yyqd49⟩) hHeld ?rrqd49
  case yyqd49 => (intro wq hSw; (try dsimp only at hSw); go_simp; first | done | with_reducible rfl)
  simp only [Act.put, List.setIfInBounds_toArray, List.set_cons_zero, List.set_cons_succ]
  refine wpAnyH_take (i := 9) (oi := ⟨some 100, _, _, _, _, _⟩) (v := ?vvqd410) rfl (by kernel_rfl) (by kernel_rfl) (by kernel_rfl) (fun _ _ _ h => h) (Or.inl ⟨by rfl, ?yyqd410⟩) hHeld ?rrqd410
  case yyqd410 => (intro wq hSw; (try dsimp only at hSw); go_simp; first | done | with_reducible rfl)
  simp only [Act.put, List.setIfInBounds_toArray, List.set_cons_zero, List.set_cons_succ]
  refine wpAnyH_take (i := 10) (oi := ⟨some 101, _, _, _, _, _⟩) (v := ?vvqd411) rfl (by kernel_rfl) (by kernel_rfl) (by kernel_rfl) (fun _ _ _ h => h) (Or.inl ⟨by rfl, ?yyqd411⟩) hHeld ?rrqd411
  case yyqd411 => (intro wq hSw; (try dsimp only at hSw); go_simp; first | done | with_reducible rfl)
  simp only [Act.put, List.setIfInBounds_toArray, List.set_cons_zero, List.set_cons_succ]
  refine wpAnyH_take (i := 11) (oi := ⟨some 10, _, _, _, _, _⟩) (v := ?vvqd412) rfl (by kernel_rfl) (by kernel_rfl) (by kernel_rfl) (fun _ _ _ h => h) (Or.inl ⟨by rfl, ?yyqd412⟩) hHeld ?rrqd412
  case yyqd412 => (intro wq hSw; (try dsimp only at hSw); go_simp; first | done | with_reducible rfl)
  simp only [Act.put, List.setIfInBounds_toArray, List.set_cons_zero, List.set_cons_succ]
  refine wpAnyH_take (i := 12) (oi := ⟨some 11, _, _, _, _, _⟩) (v := ?vvqd413) rfl (by kernel_rfl) (by kernel_rfl) (by kernel_rfl) (fun _ _ _ h => h) (Or.inl ⟨by rfl, ?yyqd413⟩) hHeld ?rrqd413
  case yyqd413 => (intro wq hSw; (try dsimp only at hSw); go_simp; first | done | with_reducible rfl)
  simp only [Act.put, List.setIfInBounds_toArray, List.set_cons_zero, List.set_cons_succ]
  refine wpAnyH_take (i := 13) (oi := ⟨some 12, _, _, _, _, _⟩) (v := ?vvqd414) rfl (by kernel_rfl) (by kernel_rfl) (by kernel_rfl) (fun _ _ _ h => h) (Or.inl ⟨by rfl, ?yyqd414⟩) hHeld ?rrqd414
  case yyqd414 => (intro wq hSw; (try dsimp only at hSw); go_simp; first | done | with_reducible rfl)
  simp only [Act.put, List.setIfInBounds_toArray, List.set_cons_zero, List.set_cons_succ]
  refine wpAnyH_done (by kernel_rfl) ?_ _
  clear hHeld
  go_upto_region 14 with fail
  refine wp_region_held_drew (S := (fun u : World => u.cell? ⟨tb, 0, none⟩ = some (.pointer (some ⟨sb, 0, none⟩)) ∧ tb < u.heap.size ∧ u.cell? ⟨rtb, 4, none⟩ = some (.pointer (some ⟨rsb, 0, none⟩)) ∧ rtb < u.heap.size ∧ u.cell? ⟨ab, 2, none⟩ = some (.int .i64 x.k.kind) ∧ u.cell? ⟨ab, 3, none⟩ = some (.int .i64 x.k.a) ∧ u.cell? ⟨ab, 4, none⟩ = some (.int .i64 x.k.b) ∧ u.cell? ⟨ab, 5, none⟩ = some (.string x.k.s) ∧ u.cell? ⟨ab, 6, none⟩ = some (.string x.val) ∧ ab < u.heap.size)) (by kernel_rfl) (HSS.out _ _ _ (HMgr.out.below (below_drewN (Below.refl _ _) 1)) HEV.out (HAgr.out.keep (Kp.below (below_drewN (Below.refl _ _) 1) _))) (fun hHeld => ?_)
  obtain ⟨X3, hGen⟩ : ∃ u, u = World.drew ugr := ⟨_, rfl⟩
  rw [← hGen] at hHeld ⊢
  have hb1 : Below ugr.heap.size ugr X3 := by rw [hGen]; exact below_drewN (Below.refl _ _) 1
  have HMX3 := Lib.hid (HMgr.out.below hb1)
  have HAX3 := Lib.hid (HAgr.out.keep (Kp.below hb1 _))
  have HPX3 := Lib.hid (HPgr.out.trans (Kp.below hb1 _))
  clear hb1
  clear hGen
  refine wpAnyH_take (i := 0) (oi := ⟨some 102, _, _, _, _, _⟩) (v := ?vvqe41) rfl (by kernel_rfl) (by kernel_rfl) (by kernel_rfl) (fun _ _ _ h => h) (Or.inl ⟨by rfl, ?yyqe41⟩) hHeld ?rrqe41
  case yyqe41 => (intro wq hSw; (try dsimp only at hSw); go_simp; first | done | with_reducible rfl)
  simp only [Act.put, List.setIfInBounds_toArray, List.set_cons_zero, List.set_cons_succ]
  refine wpAnyH_take (i := 1) (oi := ⟨some 103, _, _, _, _, _⟩) (v := ?vvqe42) rfl (by kernel_rfl) (by kernel_rfl) (by kernel_rfl) (fun _ _ _ h => h) (Or.inl ⟨by rfl, ?yyqe42⟩) hHeld ?rrqe42
  case yyqe42 => (intro wq hSw; (try dsimp only at hSw); go_simp; first | done | with_reducible rfl)
  simp only [Act.put, List.setIfInBounds_toArray, List.set_cons_zero, List.set_cons_succ]
  refine wpAnyH_take (i := 2) (oi := ⟨some 104, _, _, _, _, _⟩) (v := ?vvqe43) rfl (by kernel_rfl) (by kernel_rfl) (by kernel_rfl) (fun _ _ _ h => h) (Or.inl ⟨by rfl, ?yyqe43⟩) hHeld ?rrqe43
  case yyqe43 => (intro wq hSw; (try dsimp only at hSw); go_simp; first | done | with_reducible rfl)
  simp only [Act.put, List.setIfInBounds_toArray, List.set_cons_zero, List.set_cons_succ]
  refine wpAnyH_take (i := 3) (oi := ⟨some 105, _, _, _, _, _⟩) (v := ?vvqe44) rfl (by kernel_rfl) (by kernel_rfl) (by kernel_rfl) (fun _ _ _ h => h) (Or.inl ⟨by rfl, ?yyqe44⟩) hHeld ?rrqe44
  case yyqe44 => (intro wq hSw; (try dsimp only at hSw); go_simp; first | done | with_reducible rfl)
  simp only [Act.put, List.setIfInBounds_toArray, List.set_cons_zero, List.set_cons_succ]
  refine wpAnyH_take (i := 4) (oi := ⟨some 106, _, _, _, _, _⟩) (v := ?vvqe45) rfl (by kernel_rfl) (by kernel_rfl) (by kernel_rfl) (fun _ _ _ h => h) (Or.inl ⟨by rfl, ?yyqe45⟩) hHeld ?rrqe45
  case yyqe45 => (intro wq hSw; (try dsimp only at hSw); go_simp; first | done | with_reducible rfl)
  simp only [Act.put, List.setIfInBounds_toArray, List.set_cons_zero, List.set_cons_succ]
  refine wpAnyH_take (i := 5) (oi := ⟨some 107, _, _, _, _, _⟩) (v := ?vvqe46) rfl (by kernel_rfl) (by kernel_rfl) (by kernel_rfl) (fun _ _ _ h => h) (Or.inl ⟨by rfl, ?yyqe46⟩) hHeld ?rrqe46
  case yyqe46 => (intro wq hSw; (try dsimp only at hSw); go_simp; first | done | with_reducible rfl)
  simp only [Act.put, List.setIfInBounds_toArray, List.set_cons_zero, List.set_cons_succ]
  refine wpAnyH_take (i := 6) (oi := ⟨some 108, _, _, _, _, _⟩) (v := ?vvqe47) rfl (by kernel_rfl) (by kernel_rfl) (by kernel_rfl) (fun _ _ _ h => h) (Or.inl ⟨by rfl, ?yyqe47⟩) hHeld ?rrqe47
  case yyqe47 => (intro wq hSw; (try dsimp only at hSw); go_simp; first | done | with_reducible rfl)
  simp only [Act.put, List.setIfInBounds_toArray, List.set_cons_zero, List.set_cons_succ]
  refine wpAnyH_take (i := 7) (oi := ⟨some 109, _, _, _, _, _⟩) (v := ?vvqe48) rfl (by kernel_rfl) (by kernel_rfl) (by kernel_rfl) (fun _ _ _ h => h) (Or.inl ⟨by rfl, ?yyqe48⟩) hHeld ?rrqe48
  case yyqe48 => (intro wq hSw; (try dsimp only at hSw); go_simp; first | done | with_reducible rfl)
  simp only [Act.put, List.setIfInBounds_toArray, List.set_cons_zero, List.set_cons_succ]
  refine wpAnyH_take (i := 8) (oi := ⟨some 110, _, _, _, _, _⟩) (v := ?vvqe49) rfl (by kernel_rfl) (by kernel_rfl) (by kernel_rfl) (fun _ _ _ h => h) (Or.inl ⟨by rfl, ?yyqe49⟩) hHeld ?rrqe49
  case yyqe49 => (intro wq hSw; (try dsimp only at hSw); go_simp; first | done | with_reducible rfl)
  simp only [Act.put, List.setIfInBounds_toArray, List.set_cons_zero, List.set_cons_succ]
  refine wpAnyH_take (i := 9) (oi := ⟨some 111, _, _, _, _, _⟩) (v := ?vvqe410) rfl (by kernel_rfl) (by kernel_rfl) (by kernel_rfl) (fun _ _ _ h => h) (Or.inl ⟨by rfl, ?yyqe410⟩) hHeld ?rrqe410
  case yyqe410 => (intro wq hSw; (try dsimp only at hSw); go_simp; first | done | with_reducible rfl)
  simp only [Act.put, List.setIfInBounds_toArray, List.set_cons_zero, List.set_cons_succ]
  refine wpAnyH_take (i := 10) (oi := ⟨some 112, _, _, _, _, _⟩) (v := ?vvqe411) rfl (by kernel_rfl) (by kernel_rfl) (by kernel_rfl) (fun _ _ _ h => h) (Or.inl ⟨by rfl, ?yyqe411⟩) hHeld ?rrqe411
  case yyqe411 => (intro wq hSw; (try dsimp only at hSw); go_simp; first | done | with_reducible rfl)
  simp only [Act.put, List.setIfInBounds_toArray, List.set_cons_zero, List.set_cons_succ]
  refine wpAnyH_take (i := 11) (oi := ⟨some 113, _, _, _, _, _⟩) (v := ?vvqe412) rfl (by kernel_rfl) (by kernel_rfl) (by kernel_rfl) (fun _ _ _ h => h) (Or.inl ⟨by rfl, ?yyqe412⟩) hHeld ?rrqe412
  case yyqe412 => (intro wq hSw; (try dsimp only at hSw); go_simp; first | done | with_reducible rfl)
  simp only [Act.put, List.setIfInBounds_toArray, List.set_cons_zero, List.set_cons_succ]
  refine wpAnyH_take (i := 12) (oi := ⟨some 114, _, _, _, _, _⟩) (v := ?vvqe413) rfl (by kernel_rfl) (by kernel_rfl) (by kernel_rfl) (fun _ _ _ h => h) (Or.inl ⟨by rfl, ?yyqe413⟩) hHeld ?rrqe413
  case yyqe413 => (intro wq hSw; (try dsimp only at hSw); go_simp; first | done | with_reducible rfl)
  simp only [Act.put, List.setIfInBounds_toArray, List.set_cons_zero, List.set_cons_succ]
  refine wpAnyH_take (i := 13) (oi := ⟨some 115, _, _, _, _, _⟩) (v := ?vvqe414) rfl (by kernel_rfl) (by kernel_rfl) (by kernel_rfl) (fun _ _ _ h => h) (Or.inl ⟨by rfl, ?yyqe414⟩) hHeld ?rrqe414
  case yyqe414 => (intro wq hSw; (try dsimp only at hSw); go_simp; first | done | with_reducible rfl)
  simp only [Act.put, List.setIfInBounds_toArray, List.set_cons_zero, List.set_cons_succ]
  refine wpAnyH_take (i := 14) (oi := ⟨some 116, _, _, _, _, _⟩) (v := ?vvqe415) rfl (by kernel_rfl) (by kernel_rfl) (by kernel_rfl) (fun _ _ _ h => h) (Or.inl ⟨by rfl, ?yyqe415⟩) hHeld ?rrqe415
  case yyqe415 => (intro wq hSw; (try dsimp only at hSw); go_simp; first | done | with_reducible rfl)
  simp only [Act.put, List.setIfInBounds_toArray, List.set_cons_zero, List.set_cons_succ]
  refine wpAnyH_take (i := 15) (oi := ⟨some 117, _, _, _, _, _⟩) (v := ?vvqe416) rfl (by kernel_rfl) (by kernel_rfl) (by kernel_rfl) (fun _ _ _ h => h) (Or.inl ⟨by rfl, ?yyqe416⟩) hHeld ?rrqe416
  case yyqe416 => (intro wq hSw; (try dsimp only at hSw); go_simp; first | done | with_reducible rfl)
  simp only [Act.put, List.setIfInBounds_toArray, List.set_cons_zero, List.set_cons_succ]
  refine wpAnyH_take (i := 16) (oi := ⟨some 118, _, _, _, _, _⟩) (v := ?vvqe417) rfl (by kernel_rfl) (by kernel_rfl) (by kernel_rfl) (fun _ _ _ h => h) (Or.inl ⟨by rfl, ?yyqe417⟩) hHeld ?rrqe417
  case yyqe417 => (intro wq hSw; (try dsimp only at hSw); go_simp; first | done | with_reducible rfl)
  simp only [Act.put, List.setIfInBounds_toArray, List.set_cons_zero, List.set_cons_succ]
  refine wpAnyH_take (i := 17) (oi := ⟨some 119, _, _, _, _, _⟩) (v := ?vvqe418) rfl (by kernel_rfl) (by kernel_rfl) (by kernel_rfl) (fun _ _ _ h => h) (Or.inl ⟨by rfl, ?yyqe418⟩) hHeld ?rrqe418
  case yyqe418 => (intro wq hSw; (try dsimp only at hSw); go_simp; first | done | with_reducible rfl)
  simp only [Act.put, List.setIfInBounds_toArray, List.set_cons_zero, List.set_cons_succ]
  refine wpAnyH_take (i := 19) (oi := ⟨some 121, _, _, _, _, _⟩) (v := ?vvqe419) rfl (by kernel_rfl) (by kernel_rfl) (by kernel_rfl) (fun _ _ _ h => h) (Or.inl ⟨by rfl, ?yyqe419⟩) hHeld ?rrqe419
  case yyqe419 => (intro wq hSw; (try dsimp only at hSw); go_simp; first | done | with_reducible rfl)
  simp only [Act.put, List.setIfInBounds_toArray, List.set_cons_zero, List.set_cons_succ]
  refine wpAnyH_take (i := 20) (oi := ⟨some 122, _, _, _, _, _⟩) (v := ?vvqe420) rfl (by kernel_rfl) (by kernel_rfl) (by kernel_rfl) (fun _ _ _ h => h) (Or.inl ⟨by rfl, ?yyqe420⟩) hHeld ?rrqe420
  case yyqe420 => (intro wq hSw; (try dsimp only at hSw); go_simp; first | done | with_reducible rfl)
  simp only [Act.put, List.setIfInBounds_toArray, List.set_cons_zero, List.set_cons_succ]
  refine wpAnyH_take (i := 21) (oi := ⟨some 123, _, _, _, _, _⟩) (v := ?vvqe421) rfl (by kernel_rfl) (by kernel_rfl) (by kernel_rfl) (fun _ _ _ h => h) (Or.inl ⟨by rfl, ?yyqe421⟩) hHeld ?rrqe421
  case yyqe421 => (intro wq hSw; (try dsimp only at hSw); go_simp; first | done | with_reducible rfl)
  simp only [Act.put, List.setIfInBounds_toArray, List.set_cons_zero, List.set_cons_succ]
  refine wpAnyH_take (i := 22) (oi := ⟨some 124, _, _, _, _, _⟩) (v := ?vvqe422) rfl (by kernel_rfl) (by kernel_rfl) (by kernel_rfl) (fun _ _ _ h => h) (Or.inl ⟨by rfl, ?yyqe422⟩) hHeld ?rrqe422
  case yyqe422 => (intro wq hSw; (try dsimp only at hSw); go_simp; first | done | with_reducible rfl)
  simp only [Act.put, List.setIfInBounds_toArray, List.set_cons_zero, List.set_cons_succ]
  refine wpAnyH_ready (rs := [18]) (by kernel_rfl) (by simp) ?_
  refine AllReadyH.cons (o := ⟨some 120, _, _, _, _, _⟩) rfl (fun K hK => ?_) AllReadyH.nil
  go_simp
  refine (HWP.out _ HMX3.out).mono ?_
  rintro e uwp ⟨pa, pc, rfl, hwa, hb⟩
  have HMwp := Lib.hid (HMX3.out.below hb)
  have HAwp := Lib.hid (HAX3.out.keep (Kp.below hb _))
  have HPwp := Lib.hid (HPX3.out.trans (Kp.below hb _))
  have HWA := Lib.hid hwa
  clear hwa
  clear hb
  try dsimp only
  refine hK.out _ _ ?ssqe423 (fun hHeld => ?_)
  case ssqe423 => (exact HSS.out _ _ _ HMwp.out HEV.out HAwp.out)
  clear hK K
  try simp only [Act.put, List.setIfInBounds_toArray, List.set_cons_zero, List.set_cons_succ]
  refine wpAnyH_ready (rs := [23]) (by kernel_rfl) (by simp) ?_
  refine AllReadyH.cons (o := ⟨some 125, _, _, _, _, _⟩) rfl (fun K hK => ?_) AllReadyH.nil
  go_simp
  refine (HWQ.out _ HMwp.out).mono ?_
  rintro e uwr ⟨qa, qc, rfl, hwb, hb⟩
  have HMwr := Lib.hid (HMwp.out.below hb)
  have HAwr := Lib.hid (HAwp.out.keep (Kp.below hb _))
  have HPwr := Lib.hid (HPwp.out.trans (Kp.below hb _))
  have HWA2 := Lib.hid (HWA.out.below hb)
  have HWB := Lib.hid hwb
  clear hwb
  clear hb
  try dsimp only
  refine hK.out _ _ ?ssqe424 (fun hHeld => ?_)
  case ssqe424 => (exact HSS.out _ _ _ HMwr.out HEV.out HAwr.out)
  clear hK K
  try simp only [Act.put, List.setIfInBounds_toArray, List.set_cons_zero, List.set_cons_succ]
  refine wpAnyH_ready (rs := [24]) (by kernel_rfl) (by simp) ?_
  refine AllReadyH.cons (o := ⟨some 126, _, _, _, _, _⟩) rfl (fun K hK => ?_) AllReadyH.nil
  go_simp
  refine (same13_eq _ _ _ _ (outX (pe.X j)) _ HWA2.out HWB.out HWL.out).mono ?_
  rintro e usm ⟨rfl, hb⟩
  have HMsm := Lib.hid (HMwr.out.below hb)
  have HAsm := Lib.hid (HAwr.out.keep (Kp.below hb _))
  have HPsm := Lib.hid (HPwr.out.trans (Kp.below hb _))
  clear hb
  try dsimp only
  refine hK.out _ _ ?ssqe425 (fun hHeld => ?_)
  case ssqe425 => (exact HSS.out _ _ _ HMsm.out HEV.out HAsm.out)
  clear hK K
  try simp only [Act.put, List.setIfInBounds_toArray, List.set_cons_zero, List.set_cons_succ]
  refine wpAnyH_take (i := 25) (oi := ⟨some 127, _, _, _, _, _⟩) (v := ?vvqe426) rfl (by kernel_rfl) (by kernel_rfl) (by kernel_rfl) (fun _ _ _ h => h) (Or.inl ⟨by rfl, ?yyqe426⟩) hHeld ?rrqe426
  case yyqe426 => (intro wq hSw; (try dsimp only at hSw); go_simp; first | done | with_reducible rfl)
  simp only [Act.put, List.setIfInBounds_toArray, List.set_cons_zero, List.set_cons_succ]
  refine wpAnyH_take (i := 26) (oi := ⟨some 6, _, _, _, _, _⟩) (v := ?vvqe427) rfl (by kernel_rfl) (by kernel_rfl) (by kernel_rfl) (fun _ _ _ h => h) (Or.inl ⟨by rfl, ?yyqe427⟩) hHeld ?rrqe427
  case yyqe427 => (intro wq hSw; (try dsimp only at hSw); go_simp; first | done | with_reducible rfl)
  simp only [Act.put, List.setIfInBounds_toArray, List.set_cons_zero, List.set_cons_succ]
  refine wpAnyH_done (by kernel_rfl) ?_ _
  clear hHeld
  go_wp2_with fail
  go_ret
  exact ⟨rfl, me, pe, HMsm.out, HV2.out, HPsm.out, HTP.out⟩

end
end Go.Proofs.YtkhkdedjffkhdaaGreat
namespace Go.Proofs.YtkhkdedjffkhdaaGreat
open Go.RowKit Go.Maps

section
variable {w0 w : World} {m : W3} {p : S3} {j N : Nat} {x : Ac20}
theorem V3.mono {M : Nat} (h : V3 m p N) (hN : N ≤ M) : V3 m p M := ⟨h.room, h.g.mono hN, fun j hj => (h.v j hj).mono hN⟩
theorem DoPost.from {W u' : World} {e : Ending} (hb : Below w.heap.size w W) (h : DoPost w0 W m N e u') : DoPost w0 w m N e u' := by
  obtain ⟨he, m', p', h1, h2, h3, h4⟩ := h
  exact ⟨he, m', p', h1, h2, (Kp.below hb m).trans h3, h4⟩
theorem DoPost.none {u' : World} (h : M3 w0 u' m p) (hV : V3 m p N) (hk : Kp w u' m m) : DoPost w0 w m N (.returned (.bool true)) u' := ⟨rfl, m, p, h, hV.mono (Nat.le_succ _), hk, rfl, rfl, rfl, rfl, rfl⟩
set_option maxRecDepth 100000 in
set_option maxHeartbeats 8000000 in
theorem does_fetch (h : M3 w0 w m p) (hV : V3 m p N) (hj : j < 3) (hN : N ≤ 900) (hx : x.Ok) (hkind : x.kind = 0) :
    Calls Tryz.prog 7 #[.pointer (some ⟨(m.a j).m.tb, 0, none⟩), .pointer (some ⟨(m.b j).m.tb, 0, none⟩), .agg #[.int .i64 x.kind, .int .i64 x.tt, .int .i64 x.k.kind, .int .i64 x.k.a, .int .i64 x.k.b, .string x.k.s, .string x.val, .int .u64 x.last, .int .i64 x.ep]] w (DoPost w0 w m N) := by
  obtain ⟨code, G, H, hD⟩ := duo_fetch (w0 := w0) hV hj hx.k (by omega)
  obtain ⟨W, hW⟩ : ∃ W, W = w.alloc (.cells #[.int .i64 x.kind, .int .i64 x.tt, .int .i64 x.k.kind, .int .i64 x.k.a, .int .i64 x.k.b, .string x.k.s, .string x.val, .int .u64 x.last, .int .i64 x.ep] 49) := ⟨_, rfl⟩
  obtain ⟨ab, hab⟩ : ∃ b, b = w.heap.size := ⟨_, rfl⟩
  obtain ⟨tb, htb⟩ : ∃ b, b = (m.a j).m.tb := ⟨_, rfl⟩
  obtain ⟨sb, hsb⟩ : ∃ b, b = (m.a j).m.sb := ⟨_, rfl⟩
  obtain ⟨rtb, hrtb⟩ : ∃ b, b = (m.b j).m.tb := ⟨_, rfl⟩
  obtain ⟨rsb, hrsb⟩ : ∃ b, b = (m.b j).m.sb := ⟨_, rfl⟩
  have hbW : Below w.heap.size w W := by rw [hW]; exact below_box _ _
  have HMW : Hid (M3 w0 W m p) := Lib.hid (h.below hbW)
  have HAW : Hid (AcAt ab x W m) := Lib.hid ⟨by rw [hW, hab]; exact heap_new w _, fun c hc => by have := h.lt hc; omega⟩
  have HPW : Hid (Kp w W m m) := Lib.hid (Kp.below hbW m)
  have HEQ : Hid (EqA m j tb sb rtb rsb) := Lib.hid ⟨htb.symm, hsb.symm, hrtb.symm, hrsb.symm⟩
  have HSS := Lib.hid (fun u m' p' (hM : M3 w0 u m' p') (hE : EqA m' j tb sb rtb rsb) (hA : AcAt ab x u m') => sets_cells hj hM hE hA)
  have HVV := Lib.hid hV
  have HJ := Lib.hid hj
  have HKO := Lib.hid hx.k
  have HNN := Lib.hid hN
  have HWW := Lib.hid hW
  have HAA := Lib.hid hab
  rw [← htb, ← hrtb] at hD
  have HD := Lib.hid hD
  rw [← htb, ← hrtb]
  have p0 := cell_of_blk HAW.out.1 0
  have pl := (Array.getElem?_eq_some_iff.1 HAW.out.1).1
  simp at p0
  rw [hkind] at p0 ⊢
  rw [hkind] at HWW
  clear h hV hj hN hx hkind hW hab htb hsb hrtb hrsb hbW hD
  go_enter Tryz.func7, Tryz.ntmps7
  go_upto_region 1 with fail
  rw [← HWW.out, ← HAA.out]
  go_upto_region 3 with fail
  refine wp_region_held_drew (S := (fun u : World => u.cell? ⟨tb, 0, none⟩ = some (.pointer (some ⟨sb, 0, none⟩)) ∧ tb < u.heap.size ∧ u.cell? ⟨rtb, 4, none⟩ = some (.pointer (some ⟨rsb, 0, none⟩)) ∧ rtb < u.heap.size ∧ u.cell? ⟨ab, 2, none⟩ = some (.int .i64 x.k.kind) ∧ u.cell? ⟨ab, 3, none⟩ = some (.int .i64 x.k.a) ∧ u.cell? ⟨ab, 4, none⟩ = some (.int .i64 x.k.b) ∧ u.cell? ⟨ab, 5, none⟩ = some (.string x.k.s) ∧ u.cell? ⟨ab, 6, none⟩ = some (.string x.val) ∧ ab < u.heap.size)) (by kernel_rfl) (HSS.out _ _ _ (HMW.out.below (below_drewN (Below.refl _ _) 1)) HEQ.out (HAW.out.keep (Kp.below (below_drewN (Below.refl _ _) 1) _))) (fun hHeld => ?_)
  obtain ⟨X0, hGen⟩ : ∃ u, u = World.drew W := ⟨_, rfl⟩
  rw [← hGen] at hHeld ⊢
  have hb0 : Below W.heap.size W X0 := by rw [hGen]; exact below_drewN (Below.refl _ _) 1
  have HM0 := Lib.hid (HMW.out.below hb0)
  have HA0 := Lib.hid (HAW.out.keep (Kp.below hb0 _))
  have HP0 := Lib.hid (HPW.out.trans (Kp.below hb0 _))
  clear hb0
  clear hGen
  refine wpAnyH_take (i := 0) (oi := ⟨some 14, _, _, _, _, _⟩) (v := ?vvda1) rfl (by kernel_rfl) (by kernel_rfl) (by kernel_rfl) (fun _ _ _ h => h) (Or.inl ⟨by rfl, ?yyda1⟩) hHeld ?rrda1
  case yyda1 => (intro wq hSw; (try dsimp only at hSw); go_simp; first | done | with_reducible rfl)
  simp only [Act.put, List.setIfInBounds_toArray, List.set_cons_zero, List.set_cons_succ]
  refine wpAnyH_take (i := 1) (oi := ⟨some 15, _, _, _, _, _⟩) (v := ?vvda2) rfl (by kernel_rfl) (by kernel_rfl) (by kernel_rfl) (fun _ _ _ h => h) (Or.inl ⟨by rfl, ?yyda2⟩) hHeld ?rrda2
  case yyda2 => (intro wq hSw; (try dsimp only at hSw); go_simp; first | done | with_reducible rfl)
  simp only [Act.put, List.setIfInBounds_toArray, List.set_cons_zero, List.set_cons_succ]
  refine wpAnyH_take (i := 2) (oi := ⟨some 16, _, _, _, _, _⟩) (v := ?vvda3) rfl (by kernel_rfl) (by kernel_rfl) (by kernel_rfl) (fun _ _ _ h => h) (Or.inl ⟨by rfl, ?yyda3⟩) hHeld ?rrda3
  case yyda3 => (intro wq hSw; (try dsimp only at hSw); go_simp; first | done | with_reducible rfl)
  simp only [Act.put, List.setIfInBounds_toArray, List.set_cons_zero, List.set_cons_succ]
  refine wpAnyH_take (i := 4) (oi := ⟨some 18, _, _, _, _, _⟩) (v := ?vvda4) rfl (by kernel_rfl) (by kernel_rfl) (by kernel_rfl) (fun _ _ _ h => h) (Or.inl ⟨by rfl, ?yyda4⟩) hHeld ?rrda4
  case yyda4 => (intro wq hSw; (try dsimp only at hSw); go_simp; first | done | with_reducible rfl)
  simp only [Act.put, List.setIfInBounds_toArray, List.set_cons_zero, List.set_cons_succ]
  refine wpAnyH_take (i := 5) (oi := ⟨some 19, _, _, _, _, _⟩) (v := ?vvda5) rfl (by kernel_rfl) (by kernel_rfl) (by kernel_rfl) (fun _ _ _ h => h) (Or.inl ⟨by rfl, ?yyda5⟩) hHeld ?rrda5
  case yyda5 => (intro wq hSw; (try dsimp only at hSw); go_simp; first | done | with_reducible rfl)
  simp only [Act.put, List.setIfInBounds_toArray, List.set_cons_zero, List.set_cons_succ]
  refine wpAnyH_take (i := 6) (oi := ⟨some 20, _, _, _, _, _⟩) (v := ?vvda6) rfl (by kernel_rfl) (by kernel_rfl) (by kernel_rfl) (fun _ _ _ h => h) (Or.inl ⟨by rfl, ?yyda6⟩) hHeld ?rrda6
  case yyda6 => (intro wq hSw; (try dsimp only at hSw); go_simp; first | done | with_reducible rfl)
  simp only [Act.put, List.setIfInBounds_toArray, List.set_cons_zero, List.set_cons_succ]
  refine wpAnyH_ready (rs := [3]) (by kernel_rfl) (by simp) ?_
  refine AllReadyH.cons (o := ⟨some 17, _, _, _, _, _⟩) rfl (fun K hK => ?_) AllReadyH.nil
  go_simp
  refine (HD.out.pr _ _ _ HM0.out rfl rfl rfl rfl).mono ?_
  rintro e up ⟨ap, sp, Tp, Pp, rfl, hG, hr, hM, hk⟩
  have HGp := Lib.hid hG
  have HRp := Lib.hid hr
  have HMp := Lib.hid hM
  have HAp := Lib.hid (HA0.out.keep hk)
  have HPp := Lib.hid (HP0.out.trans hk)
  have HEp : Hid (EqA (m.tx j ap sp) j tb sb rtb rsb) := Lib.hid (HEQ.out.tx hr.2.2)
  clear hG hr hM hk
  try dsimp only
  refine hK.out _ _ ?ssda7 (fun hHeld => ?_)
  case ssda7 => (exact HSS.out _ _ _ HMp.out HEp.out HAp.out)
  clear hK K
  try simp only [Act.put, List.setIfInBounds_toArray, List.set_cons_zero, List.set_cons_succ]
  refine wpAnyH_ready (rs := [7]) (by kernel_rfl) (by simp) ?_
  refine AllReadyH.cons (o := ⟨some 21, _, _, _, _, _⟩) rfl (fun K hK => ?_) AllReadyH.nil
  go_simp
  refine (HD.out.rf _ _ _ HMp.out rfl rfl rfl rfl rfl rfl rfl).mono ?_
  rintro e ur ⟨rfl, br, vr, Rr, Xr, Lr, hH, hr, hM, hk⟩
  have HHr := Lib.hid hH
  have HMr := Lib.hid hM
  have HAr := Lib.hid (HAp.out.keep hk)
  have HPr := Lib.hid (HPp.out.trans hk)
  have HEr : Hid (EqA ((m.tx j ap sp).rx j br vr) j tb sb rtb rsb) := Lib.hid (HEp.out.rx hr)
  clear hH hr hM hk
  try dsimp only
  refine hK.out _ _ ?ssda8 (fun hHeld => ?_)
  case ssda8 => (exact HSS.out _ _ _ HMr.out HEr.out HAr.out)
  clear hK K
  try simp only [Act.put, List.setIfInBounds_toArray, List.set_cons_zero, List.set_cons_succ]
  refine wpAnyH_take (i := 8) (oi := ⟨some 22, _, _, _, _, _⟩) (v := ?vvda9) rfl (by kernel_rfl) (by kernel_rfl) (by kernel_rfl) (fun _ _ _ h => h) (Or.inl ⟨by rfl, ?yyda9⟩) hHeld ?rrda9
  case yyda9 => (intro wq hSw; (try dsimp only at hSw); go_simp; first | done | with_reducible rfl)
  simp only [Act.put, List.setIfInBounds_toArray, List.set_cons_zero, List.set_cons_succ]
  refine wpAnyH_take (i := 9) (oi := ⟨some 6, _, _, _, _, _⟩) (v := ?vvda10) rfl (by kernel_rfl) (by kernel_rfl) (by kernel_rfl) (fun _ _ _ h => h) (Or.inl ⟨by rfl, ?yyda10⟩) hHeld ?rrda10
  case yyda10 => (intro wq hSw; (try dsimp only at hSw); go_simp; first | done | with_reducible rfl)
  simp only [Act.put, List.setIfInBounds_toArray, List.set_cons_zero, List.set_cons_succ]
  refine wpAnyH_done (by kernel_rfl) ?_ _
  clear hHeld
  go_wp2_with fail
  go_ret
  exact ⟨rfl, _, _, HMr.out, HVV.out.next HRp.out.1 (HD.out.pl _ _ _ _ _ _ HGp.out HHr.out), HPr.out, rfl, rfl, HRp.out.2.1, rfl, rfl⟩

set_option maxRecDepth 100000 in
set_option maxHeartbeats 8000000 in
theorem does_commit (h : M3 w0 w m p) (hV : V3 m p N) (hj : j < 3) (hN : N ≤ 900) (hx : x.Ok) (hkind : x.kind = 5) :
    Calls Tryz.prog 7 #[.pointer (some ⟨(m.a j).m.tb, 0, none⟩), .pointer (some ⟨(m.b j).m.tb, 0, none⟩), .agg #[.int .i64 x.kind, .int .i64 x.tt, .int .i64 x.k.kind, .int .i64 x.k.a, .int .i64 x.k.b, .string x.k.s, .string x.val, .int .u64 x.last, .int .i64 x.ep]] w (DoPost w0 w m N) := by
  obtain ⟨code, G, H, hD⟩ := duo_commit (w0 := w0) hV hj (by omega)
  obtain ⟨W, hW⟩ : ∃ W, W = w.alloc (.cells #[.int .i64 x.kind, .int .i64 x.tt, .int .i64 x.k.kind, .int .i64 x.k.a, .int .i64 x.k.b, .string x.k.s, .string x.val, .int .u64 x.last, .int .i64 x.ep] 49) := ⟨_, rfl⟩
  obtain ⟨ab, hab⟩ : ∃ b, b = w.heap.size := ⟨_, rfl⟩
  obtain ⟨tb, htb⟩ : ∃ b, b = (m.a j).m.tb := ⟨_, rfl⟩
  obtain ⟨sb, hsb⟩ : ∃ b, b = (m.a j).m.sb := ⟨_, rfl⟩
  obtain ⟨rtb, hrtb⟩ : ∃ b, b = (m.b j).m.tb := ⟨_, rfl⟩
  obtain ⟨rsb, hrsb⟩ : ∃ b, b = (m.b j).m.sb := ⟨_, rfl⟩
  have hbW : Below w.heap.size w W := by rw [hW]; exact below_box _ _
  have HMW : Hid (M3 w0 W m p) := Lib.hid (h.below hbW)
  have HAW : Hid (AcAt ab x W m) := Lib.hid ⟨by rw [hW, hab]; exact heap_new w _, fun c hc => by have := h.lt hc; omega⟩
  have HPW : Hid (Kp w W m m) := Lib.hid (Kp.below hbW m)
  have HEQ : Hid (EqA m j tb sb rtb rsb) := Lib.hid ⟨htb.symm, hsb.symm, hrtb.symm, hrsb.symm⟩
  have HSS := Lib.hid (fun u m' p' (hM : M3 w0 u m' p') (hE : EqA m' j tb sb rtb rsb) (hA : AcAt ab x u m') => sets_cells hj hM hE hA)
  have HVV := Lib.hid hV
  have HJ := Lib.hid hj
  have HKO := Lib.hid hx.k
  have HNN := Lib.hid hN
  have HWW := Lib.hid hW
  have HAA := Lib.hid hab
  rw [← htb, ← hrtb] at hD
  have HD := Lib.hid hD
  rw [← htb, ← hrtb]
  have p0 := cell_of_blk HAW.out.1 0
  have pl := (Array.getElem?_eq_some_iff.1 HAW.out.1).1
  simp at p0
  rw [hkind] at p0 ⊢
  rw [hkind] at HWW
  clear h hV hj hN hx hkind hW hab htb hsb hrtb hrsb hbW hD
  go_enter Tryz.func7, Tryz.ntmps7
  go_upto_region 1 with fail
  rw [← HWW.out, ← HAA.out]
  go_wp2_with (first | (go_at_call 21; refine (HD.out.pr _ _ _ HMW.out rfl rfl rfl rfl).mono ?_; rintro e up ⟨ap, sp, Tp, Pp, rfl, hG, hr, hM, hk⟩; have HGp := Lib.hid hG; have HRp := Lib.hid hr; have HMp := Lib.hid hM; have HAp := Lib.hid (HAW.out.keep hk); have HPp := Lib.hid (HPW.out.trans hk); have HEp : Hid (EqA (m.tx j ap sp) j tb sb rtb rsb) := Lib.hid (HEQ.out.tx hr.2.2); clear hG hr hM hk) | (go_at_call 28; refine (HD.out.rf _ _ _ HMp.out rfl rfl rfl rfl rfl rfl rfl).mono ?_; rintro e V ⟨rfl, br, vr, Rr, Xr, Lr, hH, hr, hM, hk⟩; have HHr := Lib.hid hH; have HMr := Lib.hid hM; have HPr := Lib.hid (HPp.out.trans hk); have HEr : Hid (EqA ((m.tx j ap sp).rx j br vr) j tb sb rtb rsb) := Lib.hid (HEp.out.rx hr); clear hH hr hM hk))
  go_ret
  exact ⟨rfl, _, _, HMr.out, HVV.out.next HRp.out.1 (HD.out.pl _ _ _ _ _ _ HGp.out HHr.out), HPr.out, rfl, rfl, HRp.out.2.1, rfl, rfl⟩

set_option maxRecDepth 100000 in
set_option maxHeartbeats 8000000 in
theorem does_abort (h : M3 w0 w m p) (hV : V3 m p N) (hj : j < 3) (hN : N ≤ 900) (hx : x.Ok) (hkind : x.kind = 7) :
    Calls Tryz.prog 7 #[.pointer (some ⟨(m.a j).m.tb, 0, none⟩), .pointer (some ⟨(m.b j).m.tb, 0, none⟩), .agg #[.int .i64 x.kind, .int .i64 x.tt, .int .i64 x.k.kind, .int .i64 x.k.a, .int .i64 x.k.b, .string x.k.s, .string x.val, .int .u64 x.last, .int .i64 x.ep]] w (DoPost w0 w m N) := by
  obtain ⟨code, G, H, hD⟩ := duo_abort (w0 := w0) hV hj (by omega)
  obtain ⟨W, hW⟩ : ∃ W, W = w.alloc (.cells #[.int .i64 x.kind, .int .i64 x.tt, .int .i64 x.k.kind, .int .i64 x.k.a, .int .i64 x.k.b, .string x.k.s, .string x.val, .int .u64 x.last, .int .i64 x.ep] 49) := ⟨_, rfl⟩
  obtain ⟨ab, hab⟩ : ∃ b, b = w.heap.size := ⟨_, rfl⟩
  obtain ⟨tb, htb⟩ : ∃ b, b = (m.a j).m.tb := ⟨_, rfl⟩
  obtain ⟨sb, hsb⟩ : ∃ b, b = (m.a j).m.sb := ⟨_, rfl⟩
  obtain ⟨rtb, hrtb⟩ : ∃ b, b = (m.b j).m.tb := ⟨_, rfl⟩
  obtain ⟨rsb, hrsb⟩ : ∃ b, b = (m.b j).m.sb := ⟨_, rfl⟩
  have hbW : Below w.heap.size w W := by rw [hW]; exact below_box _ _
  have HMW : Hid (M3 w0 W m p) := Lib.hid (h.below hbW)
  have HAW : Hid (AcAt ab x W m) := Lib.hid ⟨by rw [hW, hab]; exact heap_new w _, fun c hc => by have := h.lt hc; omega⟩
  have HPW : Hid (Kp w W m m) := Lib.hid (Kp.below hbW m)
  have HEQ : Hid (EqA m j tb sb rtb rsb) := Lib.hid ⟨htb.symm, hsb.symm, hrtb.symm, hrsb.symm⟩
  have HSS := Lib.hid (fun u m' p' (hM : M3 w0 u m' p') (hE : EqA m' j tb sb rtb rsb) (hA : AcAt ab x u m') => sets_cells hj hM hE hA)
  have HVV := Lib.hid hV
  have HJ := Lib.hid hj
  have HKO := Lib.hid hx.k
  have HNN := Lib.hid hN
  have HWW := Lib.hid hW
  have HAA := Lib.hid hab
  rw [← htb, ← hrtb] at hD
  have HD := Lib.hid hD
  rw [← htb, ← hrtb]
  have p0 := cell_of_blk HAW.out.1 0
  have pl := (Array.getElem?_eq_some_iff.1 HAW.out.1).1
  simp at p0
  rw [hkind] at p0 ⊢
  rw [hkind] at HWW
  clear h hV hj hN hx hkind hW hab htb hsb hrtb hrsb hbW hD
  go_enter Tryz.func7, Tryz.ntmps7
  go_upto_region 1 with fail
  rw [← HWW.out, ← HAA.out]
  go_wp2_with (first | (go_at_call 30; refine (HD.out.pr _ _ _ HMW.out rfl rfl rfl rfl).mono ?_; rintro e up ⟨ap, sp, Tp, Pp, rfl, hG, hr, hM, hk⟩; have HGp := Lib.hid hG; have HRp := Lib.hid hr; have HMp := Lib.hid hM; have HAp := Lib.hid (HAW.out.keep hk); have HPp := Lib.hid (HPW.out.trans hk); have HEp : Hid (EqA (m.tx j ap sp) j tb sb rtb rsb) := Lib.hid (HEQ.out.tx hr.2.2); clear hG hr hM hk) | (go_at_call 31; refine (HD.out.rf _ _ _ HMp.out rfl rfl rfl rfl rfl rfl rfl).mono ?_; rintro e V ⟨rfl, br, vr, Rr, Xr, Lr, hH, hr, hM, hk⟩; have HHr := Lib.hid hH; have HMr := Lib.hid hM; have HPr := Lib.hid (HPp.out.trans hk); have HEr : Hid (EqA ((m.tx j ap sp).rx j br vr) j tb sb rtb rsb) := Lib.hid (HEp.out.rx hr); clear hH hr hM hk))
  go_ret
  exact ⟨rfl, _, _, HMr.out, HVV.out.next HRp.out.1 (HD.out.pl _ _ _ _ _ _ HGp.out HHr.out), HPr.out, rfl, rfl, HRp.out.2.1, rfl, rfl⟩

set_option maxRecDepth 100000 in
set_option maxHeartbeats 8000000 in
theorem does_step (h : M3 w0 w m p) (hV : V3 m p N) (hj : j < 3) (hN : N ≤ 900) (hx : x.Ok) (hkind : x.kind = 6) :
    Calls Tryz.prog 7 #[.pointer (some ⟨(m.a j).m.tb, 0, none⟩), .pointer (some ⟨(m.b j).m.tb, 0, none⟩), .agg #[.int .i64 x.kind, .int .i64 x.tt, .int .i64 x.k.kind, .int .i64 x.k.a, .int .i64 x.k.b, .string x.k.s, .string x.val, .int .u64 x.last, .int .i64 x.ep]] w (DoPost w0 w m N) := by
  obtain ⟨code, G, H, hD⟩ := duo_step (w0 := w0) hV hj x.last x.ep hx.last (by omega)
  obtain ⟨W, hW⟩ : ∃ W, W = w.alloc (.cells #[.int .i64 x.kind, .int .i64 x.tt, .int .i64 x.k.kind, .int .i64 x.k.a, .int .i64 x.k.b, .string x.k.s, .string x.val, .int .u64 x.last, .int .i64 x.ep] 49) := ⟨_, rfl⟩
  obtain ⟨ab, hab⟩ : ∃ b, b = w.heap.size := ⟨_, rfl⟩
  obtain ⟨tb, htb⟩ : ∃ b, b = (m.a j).m.tb := ⟨_, rfl⟩
  obtain ⟨sb, hsb⟩ : ∃ b, b = (m.a j).m.sb := ⟨_, rfl⟩
  obtain ⟨rtb, hrtb⟩ : ∃ b, b = (m.b j).m.tb := ⟨_, rfl⟩
  obtain ⟨rsb, hrsb⟩ : ∃ b, b = (m.b j).m.sb := ⟨_, rfl⟩
  have hbW : Below w.heap.size w W := by rw [hW]; exact below_box _ _
  have HMW : Hid (M3 w0 W m p) := Lib.hid (h.below hbW)
  have HAW : Hid (AcAt ab x W m) := Lib.hid ⟨by rw [hW, hab]; exact heap_new w _, fun c hc => by have := h.lt hc; omega⟩
  have HPW : Hid (Kp w W m m) := Lib.hid (Kp.below hbW m)
  have HEQ : Hid (EqA m j tb sb rtb rsb) := Lib.hid ⟨htb.symm, hsb.symm, hrtb.symm, hrsb.symm⟩
  have HSS := Lib.hid (fun u m' p' (hM : M3 w0 u m' p') (hE : EqA m' j tb sb rtb rsb) (hA : AcAt ab x u m') => sets_cells hj hM hE hA)
  have HVV := Lib.hid hV
  have HJ := Lib.hid hj
  have HKO := Lib.hid hx.k
  have HNN := Lib.hid hN
  have HWW := Lib.hid hW
  have HAA := Lib.hid hab
  rw [← htb, ← hrtb] at hD
  have HD := Lib.hid hD
  rw [← htb, ← hrtb]
  have p0 := cell_of_blk HAW.out.1 0
  have pl := (Array.getElem?_eq_some_iff.1 HAW.out.1).1
  simp at p0
  rw [hkind] at p0 ⊢
  rw [hkind] at HWW
  clear h hV hj hN hx hkind hW hab htb hsb hrtb hrsb hbW hD
  go_enter Tryz.func7, Tryz.ntmps7
  go_upto_region 1 with fail
  rw [← HWW.out, ← HAA.out]
  have p4 := cell_of_blk HAW.out.1 7
  have p5 := cell_of_blk HAW.out.1 8
  simp at p4 p5
  go_upto_region 15 with (go_at_call 22; refine (HD.out.pr _ _ _ HMW.out rfl rfl rfl rfl).mono ?_; rintro e up ⟨ap, sp, Tp, Pp, rfl, hG, hr, hM, hk⟩; have HGp := Lib.hid hG; have HRp := Lib.hid hr; have HMp := Lib.hid hM; have HAp := Lib.hid (HAW.out.keep hk); have HPp := Lib.hid (HPW.out.trans hk); have HEp : Hid (EqA (m.tx j ap sp) j tb sb rtb rsb) := Lib.hid (HEQ.out.tx hr.2.2); clear hG hr hM hk; unfold stV)
  clear p0 p4 p5 pl
  have p4 := cell_of_blk HAp.out.1 7
  have p5 := cell_of_blk HAp.out.1 8
  have pl := (Array.getElem?_eq_some_iff.1 HAp.out.1).1
  simp at p4 p5
  obtain ⟨ph, hph⟩ : ∃ q, q = Tp.ph := ⟨_, rfl⟩
  rw [← hph]
  have HPH := Lib.hid hph
  clear hph
  go_upto_region 16 with (go_at_call 29; refine (HD.out.rf _ _ _ HMp.out rfl rfl rfl rfl rfl rfl rfl).mono ?_; rintro e V ⟨rfl, br, vr, Rr, Xr, Lr, hH, hr, hM, hk⟩; have HHr := Lib.hid hH; have HMr := Lib.hid hM; have HPr := Lib.hid (HPp.out.trans hk); have HEr : Hid (EqA ((m.tx j ap sp).rx j br vr) j tb sb rtb rsb) := Lib.hid (HEp.out.rx hr); clear hH hr hM hk)
  have c2 : V.cell? ⟨rtb, 2, none⟩ = some (.int .i64 ph) := by
    have h1 := (HMr.out.rx j HJ.out).c.cell.2.2.1
    have h2 := (HD.out.pl _ _ _ _ _ _ HGp.out HHr.out).2.2.same.ph
    rw [HEr.out.2.2.1] at h1
    rw [h1]
    show some (Value.int .i64 (updN _ j Rr j).ph) = _
    rw [updN_same, h2, HPH.out]
  have cl : rtb < V.heap.size := by
    have h1 := (HMr.out.rx j HJ.out).c.lt
    rw [HEr.out.2.2.1] at h1
    exact h1
  clear p4 p5 pl
  go_wp2_with fail
  go_ret
  exact ⟨rfl, _, _, HMr.out, HVV.out.next HRp.out.1 (HD.out.pl _ _ _ _ _ _ HGp.out HHr.out), HPr.out, rfl, rfl, HRp.out.2.1, rfl, rfl⟩

set_option maxRecDepth 100000 in
set_option maxHeartbeats 8000000 in
theorem does_put (h : M3 w0 w m p) (hV : V3 m p N) (hj : j < 3) (hN : N ≤ 900) (hx : x.Ok) (hkind : x.kind = 1) (hval : x.val.size ≤ 200) :
    Calls Tryz.prog 7 #[.pointer (some ⟨(m.a j).m.tb, 0, none⟩), .pointer (some ⟨(m.b j).m.tb, 0, none⟩), .agg #[.int .i64 x.kind, .int .i64 x.tt, .int .i64 x.k.kind, .int .i64 x.k.a, .int .i64 x.k.b, .string x.k.s, .string x.val, .int .u64 x.last, .int .i64 x.ep]] w (DoPost w0 w m N) := by
  have HKD := Lib.hid hkind
  have HOK := Lib.hid hx
  have HBW : Hid (Below w.heap.size w (w.alloc (.cells #[.int .i64 x.kind, .int .i64 x.tt, .int .i64 x.k.kind, .int .i64 x.k.a, .int .i64 x.k.b, .string x.k.s, .string x.val, .int .u64 x.last, .int .i64 x.ep] 49))) := Lib.hid (below_box _ _)
  have HVL := Lib.hid hval
  clear hval
  obtain ⟨W, hW⟩ : ∃ W, W = w.alloc (.cells #[.int .i64 x.kind, .int .i64 x.tt, .int .i64 x.k.kind, .int .i64 x.k.a, .int .i64 x.k.b, .string x.k.s, .string x.val, .int .u64 x.last, .int .i64 x.ep] 49) := ⟨_, rfl⟩
  obtain ⟨ab, hab⟩ : ∃ b, b = w.heap.size := ⟨_, rfl⟩
  obtain ⟨tb, htb⟩ : ∃ b, b = (m.a j).m.tb := ⟨_, rfl⟩
  obtain ⟨sb, hsb⟩ : ∃ b, b = (m.a j).m.sb := ⟨_, rfl⟩
  obtain ⟨rtb, hrtb⟩ : ∃ b, b = (m.b j).m.tb := ⟨_, rfl⟩
  obtain ⟨rsb, hrsb⟩ : ∃ b, b = (m.b j).m.sb := ⟨_, rfl⟩
  have hbW : Below w.heap.size w W := by rw [hW]; exact below_box _ _
  have HMW : Hid (M3 w0 W m p) := Lib.hid (h.below hbW)
  have HAW : Hid (AcAt ab x W m) := Lib.hid ⟨by rw [hW, hab]; exact heap_new w _, fun c hc => by have := h.lt hc; omega⟩
  have HPW : Hid (Kp w W m m) := Lib.hid (Kp.below hbW m)
  have HEQ : Hid (EqA m j tb sb rtb rsb) := Lib.hid ⟨htb.symm, hsb.symm, hrtb.symm, hrsb.symm⟩
  have HSS := Lib.hid (fun u m' p' (hM : M3 w0 u m' p') (hE : EqA m' j tb sb rtb rsb) (hA : AcAt ab x u m') => sets_cells hj hM hE hA)
  have HVV := Lib.hid hV
  have HJ := Lib.hid hj
  have HKO := Lib.hid hx.k
  have HNN := Lib.hid hN
  have HWW := Lib.hid hW
  have HAA := Lib.hid hab
  rw [← htb, ← hrtb]
  have p0 := cell_of_blk HAW.out.1 0
  have pl := (Array.getElem?_eq_some_iff.1 HAW.out.1).1
  simp at p0
  rw [hkind] at p0 ⊢
  rw [hkind] at HWW
  rw [← hW] at HBW
  clear h hV hj hN hx hkind hW hab htb hsb hrtb hrsb hbW
  go_enter Tryz.func7, Tryz.ntmps7
  go_upto_region 1 with fail
  rw [← HWW.out, ← HAA.out]
  have p1 := cell_of_blk HAW.out.1 1
  have p2 := cell_of_blk HAW.out.1 2
  have p3 := cell_of_blk HAW.out.1 3
  have p4 := cell_of_blk HAW.out.1 4
  have p5 := cell_of_blk HAW.out.1 5
  have p6 := cell_of_blk HAW.out.1 6
  have p7 := cell_of_blk HAW.out.1 7
  have p8 := cell_of_blk HAW.out.1 8
  simp at p1 p2 p3 p4 p5 p6 p7 p8
  have c2 : W.cell? ⟨rtb, 2, none⟩ = some (.int .i64 (p.R j).ph) := by
    have h1 := (HMW.out.rx j HJ.out).c.cell.2.2.1
    rw [HEQ.out.2.2.1] at h1
    exact h1
  have cl : rtb < W.heap.size := by
    have h1 := (HMW.out.rx j HJ.out).c.lt
    rw [HEQ.out.2.2.1] at h1
    exact h1
  obtain ⟨ph, hph⟩ : ∃ q, q = (p.R j).ph := ⟨_, rfl⟩
  rw [← hph] at c2
  have HPH : Hid ((p.T j).ph = ph) := Lib.hid (by rw [hph]; exact (HVV.out.v j HJ.out).same.ph.symm)
  clear hph
  by_cases hp : ph = 0
  · have HC : Hid (Calls Tryz.prog 27 #[.pointer (some ⟨tb, 0, none⟩), .pointer (some ⟨rtb, 0, none⟩), .agg #[.int .i64 1, .int .i64 x.tt, .int .i64 x.k.kind, .int .i64 x.k.a, .int .i64 x.k.b, .string x.k.s, .string x.val, .int .u64 x.last, .int .i64 x.ep]] W (DoPost w0 W m N)) := Lib.hid (by
      have h9 := l20put_any HMW.out HVV.out HJ.out HNN.out (HPH.out.trans hp) HOK.out HKD.out HVL.out
      rw [HKD.out, HEQ.out.1, HEQ.out.2.2.1] at h9
      exact h9)
    subst hp
    go_wp2_with (go_at_call 27; refine HC.out.mono ?_; rintro e V ⟨rfl, hR⟩; have HRR := Lib.hid hR; clear hR)
    go_ret
    exact DoPost.from HBW.out ⟨rfl, HRR.out⟩
  · have t1 : (ph == 0) = false := by simpa using hp
    have t2 : (ph != 0) = true := by simpa using hp
    clear hp
    go_wp2_with fail
    go_ret
    exact DoPost.none HMW.out HVV.out HPW.out

set_option maxRecDepth 100000 in
set_option maxHeartbeats 8000000 in
theorem does_drop (h : M3 w0 w m p) (hV : V3 m p N) (hj : j < 3) (hN : N ≤ 900) (hx : x.Ok) (hkind : x.kind = 2) :
    Calls Tryz.prog 7 #[.pointer (some ⟨(m.a j).m.tb, 0, none⟩), .pointer (some ⟨(m.b j).m.tb, 0, none⟩), .agg #[.int .i64 x.kind, .int .i64 x.tt, .int .i64 x.k.kind, .int .i64 x.k.a, .int .i64 x.k.b, .string x.k.s, .string x.val, .int .u64 x.last, .int .i64 x.ep]] w (DoPost w0 w m N) := by
  have HKD := Lib.hid hkind
  have HOK := Lib.hid hx
  have HBW : Hid (Below w.heap.size w (w.alloc (.cells #[.int .i64 x.kind, .int .i64 x.tt, .int .i64 x.k.kind, .int .i64 x.k.a, .int .i64 x.k.b, .string x.k.s, .string x.val, .int .u64 x.last, .int .i64 x.ep] 49))) := Lib.hid (below_box _ _)
  obtain ⟨W, hW⟩ : ∃ W, W = w.alloc (.cells #[.int .i64 x.kind, .int .i64 x.tt, .int .i64 x.k.kind, .int .i64 x.k.a, .int .i64 x.k.b, .string x.k.s, .string x.val, .int .u64 x.last, .int .i64 x.ep] 49) := ⟨_, rfl⟩
  obtain ⟨ab, hab⟩ : ∃ b, b = w.heap.size := ⟨_, rfl⟩
  obtain ⟨tb, htb⟩ : ∃ b, b = (m.a j).m.tb := ⟨_, rfl⟩
  obtain ⟨sb, hsb⟩ : ∃ b, b = (m.a j).m.sb := ⟨_, rfl⟩
  obtain ⟨rtb, hrtb⟩ : ∃ b, b = (m.b j).m.tb := ⟨_, rfl⟩
  obtain ⟨rsb, hrsb⟩ : ∃ b, b = (m.b j).m.sb := ⟨_, rfl⟩
  have hbW : Below w.heap.size w W := by rw [hW]; exact below_box _ _
  have HMW : Hid (M3 w0 W m p) := Lib.hid (h.below hbW)
  have HAW : Hid (AcAt ab x W m) := Lib.hid ⟨by rw [hW, hab]; exact heap_new w _, fun c hc => by have := h.lt hc; omega⟩
  have HPW : Hid (Kp w W m m) := Lib.hid (Kp.below hbW m)
  have HEQ : Hid (EqA m j tb sb rtb rsb) := Lib.hid ⟨htb.symm, hsb.symm, hrtb.symm, hrsb.symm⟩
  have HSS := Lib.hid (fun u m' p' (hM : M3 w0 u m' p') (hE : EqA m' j tb sb rtb rsb) (hA : AcAt ab x u m') => sets_cells hj hM hE hA)
  have HVV := Lib.hid hV
  have HJ := Lib.hid hj
  have HKO := Lib.hid hx.k
  have HNN := Lib.hid hN
  have HWW := Lib.hid hW
  have HAA := Lib.hid hab
  rw [← htb, ← hrtb]
  have p0 := cell_of_blk HAW.out.1 0
  have pl := (Array.getElem?_eq_some_iff.1 HAW.out.1).1
  simp at p0
  rw [hkind] at p0 ⊢
  rw [hkind] at HWW
  rw [← hW] at HBW
  clear h hV hj hN hx hkind hW hab htb hsb hrtb hrsb hbW
  go_enter Tryz.func7, Tryz.ntmps7
  go_upto_region 1 with fail
  rw [← HWW.out, ← HAA.out]
  have p1 := cell_of_blk HAW.out.1 1
  have p2 := cell_of_blk HAW.out.1 2
  have p3 := cell_of_blk HAW.out.1 3
  have p4 := cell_of_blk HAW.out.1 4
  have p5 := cell_of_blk HAW.out.1 5
  have p6 := cell_of_blk HAW.out.1 6
  have p7 := cell_of_blk HAW.out.1 7
  have p8 := cell_of_blk HAW.out.1 8
  simp at p1 p2 p3 p4 p5 p6 p7 p8
  have c2 : W.cell? ⟨rtb, 2, none⟩ = some (.int .i64 (p.R j).ph) := by
    have h1 := (HMW.out.rx j HJ.out).c.cell.2.2.1
    rw [HEQ.out.2.2.1] at h1
    exact h1
  have cl : rtb < W.heap.size := by
    have h1 := (HMW.out.rx j HJ.out).c.lt
    rw [HEQ.out.2.2.1] at h1
    exact h1
  obtain ⟨ph, hph⟩ : ∃ q, q = (p.R j).ph := ⟨_, rfl⟩
  rw [← hph] at c2
  have HPH : Hid ((p.T j).ph = ph) := Lib.hid (by rw [hph]; exact (HVV.out.v j HJ.out).same.ph.symm)
  clear hph
  by_cases hp : ph = 0
  · have HC : Hid (Calls Tryz.prog 27 #[.pointer (some ⟨tb, 0, none⟩), .pointer (some ⟨rtb, 0, none⟩), .agg #[.int .i64 2, .int .i64 x.tt, .int .i64 x.k.kind, .int .i64 x.k.a, .int .i64 x.k.b, .string x.k.s, .string x.val, .int .u64 x.last, .int .i64 x.ep]] W (DoPost w0 W m N)) := Lib.hid (by
      have h9 := l20drop_any HMW.out HVV.out HJ.out HNN.out (HPH.out.trans hp) HOK.out HKD.out
      rw [HKD.out, HEQ.out.1, HEQ.out.2.2.1] at h9
      exact h9)
    subst hp
    go_wp2_with (go_at_call 27; refine HC.out.mono ?_; rintro e V ⟨rfl, hR⟩; have HRR := Lib.hid hR; clear hR)
    go_ret
    exact DoPost.from HBW.out ⟨rfl, HRR.out⟩
  · have t1 : (ph == 0) = false := by simpa using hp
    have t2 : (ph != 0) = true := by simpa using hp
    clear hp
    go_wp2_with fail
    go_ret
    exact DoPost.none HMW.out HVV.out HPW.out

set_option maxRecDepth 100000 in
set_option maxHeartbeats 8000000 in
theorem does_mark (h : M3 w0 w m p) (hV : V3 m p N) (hj : j < 3) (hN : N ≤ 900) (hx : x.Ok) (hkind : x.kind = 3) :
    Calls Tryz.prog 7 #[.pointer (some ⟨(m.a j).m.tb, 0, none⟩), .pointer (some ⟨(m.b j).m.tb, 0, none⟩), .agg #[.int .i64 x.kind, .int .i64 x.tt, .int .i64 x.k.kind, .int .i64 x.k.a, .int .i64 x.k.b, .string x.k.s, .string x.val, .int .u64 x.last, .int .i64 x.ep]] w (DoPost w0 w m N) := by
  have HKD := Lib.hid hkind
  have HOK := Lib.hid hx
  have HBW : Hid (Below w.heap.size w (w.alloc (.cells #[.int .i64 x.kind, .int .i64 x.tt, .int .i64 x.k.kind, .int .i64 x.k.a, .int .i64 x.k.b, .string x.k.s, .string x.val, .int .u64 x.last, .int .i64 x.ep] 49))) := Lib.hid (below_box _ _)
  obtain ⟨W, hW⟩ : ∃ W, W = w.alloc (.cells #[.int .i64 x.kind, .int .i64 x.tt, .int .i64 x.k.kind, .int .i64 x.k.a, .int .i64 x.k.b, .string x.k.s, .string x.val, .int .u64 x.last, .int .i64 x.ep] 49) := ⟨_, rfl⟩
  obtain ⟨ab, hab⟩ : ∃ b, b = w.heap.size := ⟨_, rfl⟩
  obtain ⟨tb, htb⟩ : ∃ b, b = (m.a j).m.tb := ⟨_, rfl⟩
  obtain ⟨sb, hsb⟩ : ∃ b, b = (m.a j).m.sb := ⟨_, rfl⟩
  obtain ⟨rtb, hrtb⟩ : ∃ b, b = (m.b j).m.tb := ⟨_, rfl⟩
  obtain ⟨rsb, hrsb⟩ : ∃ b, b = (m.b j).m.sb := ⟨_, rfl⟩
  have hbW : Below w.heap.size w W := by rw [hW]; exact below_box _ _
  have HMW : Hid (M3 w0 W m p) := Lib.hid (h.below hbW)
  have HAW : Hid (AcAt ab x W m) := Lib.hid ⟨by rw [hW, hab]; exact heap_new w _, fun c hc => by have := h.lt hc; omega⟩
  have HPW : Hid (Kp w W m m) := Lib.hid (Kp.below hbW m)
  have HEQ : Hid (EqA m j tb sb rtb rsb) := Lib.hid ⟨htb.symm, hsb.symm, hrtb.symm, hrsb.symm⟩
  have HSS := Lib.hid (fun u m' p' (hM : M3 w0 u m' p') (hE : EqA m' j tb sb rtb rsb) (hA : AcAt ab x u m') => sets_cells hj hM hE hA)
  have HVV := Lib.hid hV
  have HJ := Lib.hid hj
  have HKO := Lib.hid hx.k
  have HNN := Lib.hid hN
  have HWW := Lib.hid hW
  have HAA := Lib.hid hab
  rw [← htb, ← hrtb]
  have p0 := cell_of_blk HAW.out.1 0
  have pl := (Array.getElem?_eq_some_iff.1 HAW.out.1).1
  simp at p0
  rw [hkind] at p0 ⊢
  rw [hkind] at HWW
  rw [← hW] at HBW
  clear h hV hj hN hx hkind hW hab htb hsb hrtb hrsb hbW
  go_enter Tryz.func7, Tryz.ntmps7
  go_upto_region 1 with fail
  rw [← HWW.out, ← HAA.out]
  have p1 := cell_of_blk HAW.out.1 1
  have p2 := cell_of_blk HAW.out.1 2
  have p3 := cell_of_blk HAW.out.1 3
  have p4 := cell_of_blk HAW.out.1 4
  have p5 := cell_of_blk HAW.out.1 5
  have p6 := cell_of_blk HAW.out.1 6
  have p7 := cell_of_blk HAW.out.1 7
  have p8 := cell_of_blk HAW.out.1 8
  simp at p1 p2 p3 p4 p5 p6 p7 p8
  have c2 : W.cell? ⟨rtb, 2, none⟩ = some (.int .i64 (p.R j).ph) := by
    have h1 := (HMW.out.rx j HJ.out).c.cell.2.2.1
    rw [HEQ.out.2.2.1] at h1
    exact h1
  have cl : rtb < W.heap.size := by
    have h1 := (HMW.out.rx j HJ.out).c.lt
    rw [HEQ.out.2.2.1] at h1
    exact h1
  obtain ⟨ph, hph⟩ : ∃ q, q = (p.R j).ph := ⟨_, rfl⟩
  rw [← hph] at c2
  have HPH : Hid ((p.T j).ph = ph) := Lib.hid (by rw [hph]; exact (HVV.out.v j HJ.out).same.ph.symm)
  clear hph
  by_cases hp : ph = 0
  · have HC : Hid (Calls Tryz.prog 27 #[.pointer (some ⟨tb, 0, none⟩), .pointer (some ⟨rtb, 0, none⟩), .agg #[.int .i64 3, .int .i64 x.tt, .int .i64 x.k.kind, .int .i64 x.k.a, .int .i64 x.k.b, .string x.k.s, .string x.val, .int .u64 x.last, .int .i64 x.ep]] W (DoPost w0 W m N)) := Lib.hid (by
      have h9 := l20mark_any HMW.out HVV.out HJ.out HNN.out (HPH.out.trans hp) HOK.out HKD.out
      rw [HKD.out, HEQ.out.1, HEQ.out.2.2.1] at h9
      exact h9)
    subst hp
    go_wp2_with (go_at_call 27; refine HC.out.mono ?_; rintro e V ⟨rfl, hR⟩; have HRR := Lib.hid hR; clear hR)
    go_ret
    exact DoPost.from HBW.out ⟨rfl, HRR.out⟩
  · have t1 : (ph == 0) = false := by simpa using hp
    have t2 : (ph != 0) = true := by simpa using hp
    clear hp
    go_wp2_with fail
    go_ret
    exact DoPost.none HMW.out HVV.out HPW.out

set_option maxRecDepth 100000 in
set_option maxHeartbeats 8000000 in
theorem does_back (h : M3 w0 w m p) (hV : V3 m p N) (hj : j < 3) (hN : N ≤ 900) (hx : x.Ok) (hkind : x.kind = 4) :
    Calls Tryz.prog 7 #[.pointer (some ⟨(m.a j).m.tb, 0, none⟩), .pointer (some ⟨(m.b j).m.tb, 0, none⟩), .agg #[.int .i64 x.kind, .int .i64 x.tt, .int .i64 x.k.kind, .int .i64 x.k.a, .int .i64 x.k.b, .string x.k.s, .string x.val, .int .u64 x.last, .int .i64 x.ep]] w (DoPost w0 w m N) := by
  have HKD := Lib.hid hkind
  have HOK := Lib.hid hx
  have HBW : Hid (Below w.heap.size w (w.alloc (.cells #[.int .i64 x.kind, .int .i64 x.tt, .int .i64 x.k.kind, .int .i64 x.k.a, .int .i64 x.k.b, .string x.k.s, .string x.val, .int .u64 x.last, .int .i64 x.ep] 49))) := Lib.hid (below_box _ _)
  obtain ⟨W, hW⟩ : ∃ W, W = w.alloc (.cells #[.int .i64 x.kind, .int .i64 x.tt, .int .i64 x.k.kind, .int .i64 x.k.a, .int .i64 x.k.b, .string x.k.s, .string x.val, .int .u64 x.last, .int .i64 x.ep] 49) := ⟨_, rfl⟩
  obtain ⟨ab, hab⟩ : ∃ b, b = w.heap.size := ⟨_, rfl⟩
  obtain ⟨tb, htb⟩ : ∃ b, b = (m.a j).m.tb := ⟨_, rfl⟩
  obtain ⟨sb, hsb⟩ : ∃ b, b = (m.a j).m.sb := ⟨_, rfl⟩
  obtain ⟨rtb, hrtb⟩ : ∃ b, b = (m.b j).m.tb := ⟨_, rfl⟩
  obtain ⟨rsb, hrsb⟩ : ∃ b, b = (m.b j).m.sb := ⟨_, rfl⟩
  have hbW : Below w.heap.size w W := by rw [hW]; exact below_box _ _
  have HMW : Hid (M3 w0 W m p) := Lib.hid (h.below hbW)
  have HAW : Hid (AcAt ab x W m) := Lib.hid ⟨by rw [hW, hab]; exact heap_new w _, fun c hc => by have := h.lt hc; omega⟩
  have HPW : Hid (Kp w W m m) := Lib.hid (Kp.below hbW m)
  have HEQ : Hid (EqA m j tb sb rtb rsb) := Lib.hid ⟨htb.symm, hsb.symm, hrtb.symm, hrsb.symm⟩
  have HSS := Lib.hid (fun u m' p' (hM : M3 w0 u m' p') (hE : EqA m' j tb sb rtb rsb) (hA : AcAt ab x u m') => sets_cells hj hM hE hA)
  have HVV := Lib.hid hV
  have HJ := Lib.hid hj
  have HKO := Lib.hid hx.k
  have HNN := Lib.hid hN
  have HWW := Lib.hid hW
  have HAA := Lib.hid hab
  rw [← htb, ← hrtb]
  have p0 := cell_of_blk HAW.out.1 0
  have pl := (Array.getElem?_eq_some_iff.1 HAW.out.1).1
  simp at p0
  rw [hkind] at p0 ⊢
  rw [hkind] at HWW
  rw [← hW] at HBW
  clear h hV hj hN hx hkind hW hab htb hsb hrtb hrsb hbW
  go_enter Tryz.func7, Tryz.ntmps7
  go_upto_region 1 with fail
  rw [← HWW.out, ← HAA.out]
  have p1 := cell_of_blk HAW.out.1 1
  have p2 := cell_of_blk HAW.out.1 2
  have p3 := cell_of_blk HAW.out.1 3
  have p4 := cell_of_blk HAW.out.1 4
  have p5 := cell_of_blk HAW.out.1 5
  have p6 := cell_of_blk HAW.out.1 6
  have p7 := cell_of_blk HAW.out.1 7
  have p8 := cell_of_blk HAW.out.1 8
  simp at p1 p2 p3 p4 p5 p6 p7 p8
  have c2 : W.cell? ⟨rtb, 2, none⟩ = some (.int .i64 (p.R j).ph) := by
    have h1 := (HMW.out.rx j HJ.out).c.cell.2.2.1
    rw [HEQ.out.2.2.1] at h1
    exact h1
  have cl : rtb < W.heap.size := by
    have h1 := (HMW.out.rx j HJ.out).c.lt
    rw [HEQ.out.2.2.1] at h1
    exact h1
  obtain ⟨ph, hph⟩ : ∃ q, q = (p.R j).ph := ⟨_, rfl⟩
  rw [← hph] at c2
  have HPH : Hid ((p.T j).ph = ph) := Lib.hid (by rw [hph]; exact (HVV.out.v j HJ.out).same.ph.symm)
  clear hph
  by_cases hp : ph = 0
  · have HC : Hid (Calls Tryz.prog 27 #[.pointer (some ⟨tb, 0, none⟩), .pointer (some ⟨rtb, 0, none⟩), .agg #[.int .i64 4, .int .i64 x.tt, .int .i64 x.k.kind, .int .i64 x.k.a, .int .i64 x.k.b, .string x.k.s, .string x.val, .int .u64 x.last, .int .i64 x.ep]] W (DoPost w0 W m N)) := Lib.hid (by
      have h9 := l20back_any HMW.out HVV.out HJ.out HNN.out (HPH.out.trans hp) HOK.out HKD.out
      rw [HKD.out, HEQ.out.1, HEQ.out.2.2.1] at h9
      exact h9)
    subst hp
    go_wp2_with (go_at_call 27; refine HC.out.mono ?_; rintro e V ⟨rfl, hR⟩; have HRR := Lib.hid hR; clear hR)
    go_ret
    exact DoPost.from HBW.out ⟨rfl, HRR.out⟩
  · have t1 : (ph == 0) = false := by simpa using hp
    have t2 : (ph != 0) = true := by simpa using hp
    clear hp
    go_wp2_with fail
    go_ret
    exact DoPost.none HMW.out HVV.out HPW.out

set_option maxRecDepth 100000 in
set_option maxHeartbeats 8000000 in
theorem does_else (h : M3 w0 w m p) (hV : V3 m p N) (hj : j < 3) (hN : N ≤ 900) (hx : x.Ok) (hno : x.kind ≠ 0 ∧ x.kind ≠ 1 ∧ x.kind ≠ 2 ∧ x.kind ≠ 3 ∧ x.kind ≠ 4 ∧ x.kind ≠ 5 ∧ x.kind ≠ 6 ∧ x.kind ≠ 7) :
    Calls Tryz.prog 7 #[.pointer (some ⟨(m.a j).m.tb, 0, none⟩), .pointer (some ⟨(m.b j).m.tb, 0, none⟩), .agg #[.int .i64 x.kind, .int .i64 x.tt, .int .i64 x.k.kind, .int .i64 x.k.a, .int .i64 x.k.b, .string x.k.s, .string x.val, .int .u64 x.last, .int .i64 x.ep]] w (DoPost w0 w m N) := by
  have HNO := Lib.hid hno
  clear hno
  obtain ⟨W, hW⟩ : ∃ W, W = w.alloc (.cells #[.int .i64 x.kind, .int .i64 x.tt, .int .i64 x.k.kind, .int .i64 x.k.a, .int .i64 x.k.b, .string x.k.s, .string x.val, .int .u64 x.last, .int .i64 x.ep] 49) := ⟨_, rfl⟩
  obtain ⟨ab, hab⟩ : ∃ b, b = w.heap.size := ⟨_, rfl⟩
  obtain ⟨tb, htb⟩ : ∃ b, b = (m.a j).m.tb := ⟨_, rfl⟩
  obtain ⟨sb, hsb⟩ : ∃ b, b = (m.a j).m.sb := ⟨_, rfl⟩
  obtain ⟨rtb, hrtb⟩ : ∃ b, b = (m.b j).m.tb := ⟨_, rfl⟩
  obtain ⟨rsb, hrsb⟩ : ∃ b, b = (m.b j).m.sb := ⟨_, rfl⟩
  have hbW : Below w.heap.size w W := by rw [hW]; exact below_box _ _
  have HMW : Hid (M3 w0 W m p) := Lib.hid (h.below hbW)
  have HAW : Hid (AcAt ab x W m) := Lib.hid ⟨by rw [hW, hab]; exact heap_new w _, fun c hc => by have := h.lt hc; omega⟩
  have HPW : Hid (Kp w W m m) := Lib.hid (Kp.below hbW m)
  have HEQ : Hid (EqA m j tb sb rtb rsb) := Lib.hid ⟨htb.symm, hsb.symm, hrtb.symm, hrsb.symm⟩
  have HSS := Lib.hid (fun u m' p' (hM : M3 w0 u m' p') (hE : EqA m' j tb sb rtb rsb) (hA : AcAt ab x u m') => sets_cells hj hM hE hA)
  have HVV := Lib.hid hV
  have HJ := Lib.hid hj
  have HKO := Lib.hid hx.k
  have HNN := Lib.hid hN
  have HWW := Lib.hid hW
  have HAA := Lib.hid hab
  rw [← htb, ← hrtb]
  have p0 := cell_of_blk HAW.out.1 0
  have pl := (Array.getElem?_eq_some_iff.1 HAW.out.1).1
  simp at p0
  clear h hV hj hN hx hW hab htb hsb hrtb hrsb hbW
  go_enter Tryz.func7, Tryz.ntmps7
  go_upto_region 1 with fail
  rw [← HWW.out, ← HAA.out]
  obtain ⟨kd, hkd⟩ : ∃ q, q = x.kind := ⟨_, rfl⟩
  have hno := HNO.out
  rw [← hkd] at p0 hno
  obtain ⟨n0, n1, n2, n3, n4, n5, n6, n7⟩ := hno
  have t0 : (kd == 0) = false := by simpa using n0
  have t1 : (kd == 1) = false := by simpa using n1
  have t2 : (kd == 2) = false := by simpa using n2
  have t3 : (kd == 3) = false := by simpa using n3
  have t4 : (kd == 4) = false := by simpa using n4
  have t5 : (kd == 5) = false := by simpa using n5
  have t6 : (kd == 6) = false := by simpa using n6
  have t7 : (kd == 7) = false := by simpa using n7
  clear hkd n0 n1 n2 n3 n4 n5 n6 n7
  go_wp2_with fail
  go_ret
  exact DoPost.none HMW.out HVV.out HPW.out

theorem does20_any (h : M3 w0 w m p) (hV : V3 m p N) (hj : j < 3) (hN : N ≤ 900) (hx : x.Ok) (hval : x.val.size ≤ 200) :
    Calls Tryz.prog 7 #[.pointer (some ⟨(m.a j).m.tb, 0, none⟩), .pointer (some ⟨(m.b j).m.tb, 0, none⟩), .agg #[.int .i64 x.kind, .int .i64 x.tt, .int .i64 x.k.kind, .int .i64 x.k.a, .int .i64 x.k.b, .string x.k.s, .string x.val, .int .u64 x.last, .int .i64 x.ep]] w (DoPost w0 w m N) := by
  by_cases k0 : x.kind = 0
  · exact does_fetch h hV hj hN hx k0
  by_cases k1 : x.kind = 1
  · exact does_put h hV hj hN hx k1 hval
  by_cases k2 : x.kind = 2
  · exact does_drop h hV hj hN hx k2
  by_cases k3 : x.kind = 3
  · exact does_mark h hV hj hN hx k3
  by_cases k4 : x.kind = 4
  · exact does_back h hV hj hN hx k4
  by_cases k5 : x.kind = 5
  · exact does_commit h hV hj hN hx k5
  by_cases k6 : x.kind = 6
  · exact does_step h hV hj hN hx k6
  by_cases k7 : x.kind = 7
  · exact does_abort h hV hj hN hx k7
  exact does_else h hV hj hN hx ⟨k0, k1, k2, k3, k4, k5, k6, k7⟩
end
end Go.Proofs.YtkhkdedjffkhdaaGreat
namespace Go.Proofs.YtkhkdedjffkhdaaGreat
open Go.RowKit Go.Maps

section
variable {w0 w u u' w' : World} {m m' : W3} {p p' : S3} {j N : Nat} {e : Ending} {k : Ky}
/-- a row of keys -/
def KsPost (l : List Ky) (u : World) (e : Ending) (u' : World) : Prop := ∃ a c, e = .returned (.slice a l.length c) ∧ kK.V u' a l ∧ Below u.heap.size u u'
theorem ks_own {l : List Ky} {v : Value} (ho : kK.Own u' u.heap.size v l) (hb : Below u.heap.size u u') : KsPost l u (.returned v) u' := by
  obtain ⟨a, c, rfl⟩ := ho.shape
  exact ⟨a, c, rfl, ho.toV, hb⟩
theorem V3.cn (h : V3 m p N) : m.s.cnt ≤ 19 := by have := h.g.cnt; have := h.g.room; omega
theorem keys_p (h : M3 w0 u m p) (hV : V3 m p N) : Calls Tryz.prog 10 #[.pointer (some ⟨m.s.sb, 0, none⟩)] u (KsPost (keysL hasC p.L) u) := by
  refine (keys_g m.s m.s.sb u h.st rfl (by have := hV.cn; omega)).mono ?_
  rintro e w' ⟨v, ks, rfl, h1, _, h2, h3, h4⟩
  rw [← hV.g.sr.keys h1 h2]
  exact ks_own h3 h4
theorem keys_r (h : M3 w0 u m p) (hV : V3 m p N) : Calls Tryz.prog 11 #[.pointer (some ⟨m.rb, 0, none⟩), .int .i64 1, .int .i64 0] u (KsPost (keysL hasC p.L) u) := by
  obtain ⟨aa, cap, _, h2⟩ := row_rv h.rs
  refine (rkeys1_any m.rb cap m.room aa p.L 0 u h2 (fun q hq => (hV.g.keys q hq).s)).mono ?_
  rintro e w' ⟨v, rfl, h3, h4⟩
  exact ks_own h3 h4
theorem held_p (h : M3 w0 u m p) (hj : j < 3) (hV : V3 m p N) : Calls Tryz.prog 16 #[.pointer (some ⟨(m.a j).m.tb, 0, none⟩)] u (KsPost (keysL (heldC (j : Int)) p.L) u) := by
  refine (ocheld_any (h.oca hj) (by have := hV.cn; omega)).mono ?_
  rintro e w' ⟨v, ks, rfl, h1, _, h2, h3, h4⟩
  rw [(hV.v j hj).who] at h2
  rw [← hV.g.sr.keys h1 h2]
  exact ks_own h3 h4
theorem held_r (h : M3 w0 u m p) (hV : V3 m p N) : Calls Tryz.prog 11 #[.pointer (some ⟨m.rb, 0, none⟩), .int .i64 0, .int .i64 (j : Int)] u (KsPost (keysL (heldC (j : Int)) p.L) u) := by
  obtain ⟨aa, cap, _, h2⟩ := row_rv h.rs
  refine (rkeys0_any m.rb cap m.room aa p.L (j : Int) u h2 (fun q hq => (hV.g.keys q hq).s)).mono ?_
  rintro e w' ⟨v, rfl, h3, h4⟩
  exact ks_own h3 h4
theorem ks_len (hV : V3 m p N) (q : Cl → Bool) : (keysL q p.L).length ≤ 2000000 := by have h1 := keysL_len q p.L; have h2 := hV.g.len; omega
theorem ws_ok {W : List Wr} {a : Option Addr} (h : kW.V u a W) (hk : ∀ x ∈ W, x.k.Ok ∧ TxOk x.tx) : WsV u a W :=
  ws_of_row h (fun x hx => ⟨(hk x hx).1, by have h9 : x.val.size ≤ 200 := (hk x hx).2.1; unfold maxLen; omega⟩)
/-- what Record tells -/
def RePost (T : Tn) (u : World) (e : Ending) (u' : World) : Prop := ∃ a c, e = .returned (.agg #[.int .u64 T.st, .slice a T.W.length c]) ∧ WsV u' a T.W ∧ Below u.heap.size u u'
theorem record_p (h : M3 w0 u m p) (hj : j < 3) (hV : V3 m p N) (hN : N ≤ 1000) : Calls Tryz.prog 12 #[.pointer (some ⟨(m.a j).m.tb, 0, none⟩)] u (RePost (p.T j) u) := by
  have hv := hV.v j hj
  refine (ocrecord_any (h.tx j hj).t (by have := hv.wl; omega)).mono ?_
  rintro e w' ⟨a, c, rfl, h1, h2⟩
  exact ⟨a, c, rfl, ws_ok h1.toV hv.wk, h2⟩
/-- the reference's cells -/
theorem ref_cells (h : M3 w0 u m p) (hj : j < 3) (hV : V3 m p N) : u.cell? ⟨(m.b j).m.tb, 2, none⟩ = some (.int .i64 (p.T j).ph) ∧ u.cell? ⟨(m.b j).m.tb, 5, none⟩ = some (.slice (m.b j).m.wa (p.T j).W.length (m.b j).m.wc) ∧ u.cell? ⟨(m.b j).m.tb, 7, none⟩ = some (.int .u64 (p.T j).st) ∧ u.cell? ⟨(m.b j).m.tb, 9, none⟩ = some (.int .i64 (p.T j).n) ∧ (m.b j).m.tb < u.heap.size ∧ WsV u (m.b j).m.wa (p.T j).W := by
  have hs := (hV.v j hj).same
  obtain ⟨_, _, c2, _, _, c5, _, c7, _, c9, cl⟩ := (h.rx j hj).c.cell
  have hw := (h.rx j hj).c.wo.toV
  rw [hs.ph] at c2
  rw [hs.W] at c5 hw
  rw [hs.st] at c7
  rw [hs.n] at c9
  exact ⟨c2, c5, c7, c9, cl, ws_ok hw (hV.v j hj).wk⟩
theorem store_cell (h : M3 w0 u m p) : u.cell? ⟨m.s.sb, 0, none⟩ = some (.pointer (some ⟨m.s.ab, 0, none⟩)) ∧ m.s.sb < u.heap.size := ⟨cell_of_blk h.st.blk 0, (Array.getElem?_eq_some_iff.1 h.st.blk).1⟩
theorem rstore_cell (h : M3 w0 u m p) : ∃ a c, m.v = .slice a p.L.length c ∧ u.cell? ⟨m.rb, 1, none⟩ = some (.slice a p.L.length c) ∧ m.rb < u.heap.size := by
  obtain ⟨a, c, e⟩ := h.rs.o.shape
  refine ⟨a, c, e, ?_, h.rs.lt⟩
  rw [cell_of_blk h.rs.blk, e]
  rfl
/-- a call with no store -/
theorem ocnew_nil (who : Int) (w : World) : Calls Tryz.prog 6 #[.pointer none, .int .i64 who] w fun e w' => e = .returned (.tuple #[.pointer none, .int .i64 1]) ∧ w = w' := by
  go_enter Tryz.func6, Tryz.ntmps6
  go_wp2_with fail
  go_ret2
  exact ⟨rfl, rfl⟩
/-- rows of pointers -/
theorem infoPt : (Tryz.prog.info? 28).map (fun i => (i.zero, i.size, i.bytes)) = some (some (.pointer none), 1, 8) := by kernel_rfl
theorem infoPr : (Tryz.prog.info? 37).map (fun i => (i.zero, i.size, i.bytes)) = some (some (.pointer none), 1, 8) := by kernel_rfl
def kPt : RowK Tryz.prog Nat where
  t := 35
  e := 28
  size := 1
  bytes := 8
  z := .pointer none
  enc := fun b => [.pointer (some ⟨b, 0, none⟩)]
  ht := Tryz.underlying35
  info := infoPt
  hz := rfl
  pos := by decide
  small := by decide
  len := fun _ => rfl
  one := fun x u hu => by
    rw [List.mem_singleton.1 hu]
    rfl
def kPr : RowK Tryz.prog Nat where
  t := 36
  e := 37
  size := 1
  bytes := 8
  z := .pointer none
  enc := fun b => [.pointer (some ⟨b, 0, none⟩)]
  ht := Tryz.underlying36
  info := infoPr
  hz := rfl
  pos := by decide
  small := by decide
  len := fun _ => rfl
  one := fun x u hu => by
    rw [List.mem_singleton.1 hu]
    rfl
/-- whose a block is, as far as there are transactions -/
def ownI (m : W3) (i k : Nat) (tv rv : Value) : Co → Nat → Prop
  | .st => m.s.fp
  | .tx j => fun x => j < i ∧ (m.a j).fp x
  | .rs => RF m.rb m.v
  | .rx j => fun x => j < k ∧ (m.b j).fp x
  | .pt => fun x => tv.ownBlock = some x ∨ rv.ownBlock = some x
def P0 : Ps := ⟨0, 0, 0, fun _ => none, fun _ => none, fun _ => none⟩
structure N3 (w0 w : World) (i k : Nat) (m : W3) (tv rv : Value) (tl rl : List Nat) : Prop where
  tx : ∀ j, j < i → OcM w (m.a j) (Tn.new j) P0
  st : StC w m.s
  cb : ∀ j, j < i → m.s.sb = (m.a j).m.cb
  rx : ∀ j, j < k → RqM w (m.b j) (Rn.new j) []
  rs : RO w m.rb 0 m.room m.v []
  rcb : ∀ j, j < k → (m.b j).m.cb = m.rb
  ot : kPt.Own w 0 tv tl
  orr : kPr.Own w 0 rv rl
  tc : ∀ j x, tl[j]? = some x → j < i ∧ x = (m.a j).m.tb
  rc : ∀ j x, rl[j]? = some x → j < k ∧ x = (m.b j).m.tb
  ap : ∀ c d x, c ≠ d → ownI m i k tv rv c x → ¬ ownI m i k tv rv d x
  new : ∀ c x, ownI m i k tv rv c x → w0.heap.size ≤ x
variable {i : Nat} {k : Nat} {tv rv tv' rv' : Value} {tl rl : List Nat}
theorem N3.lt (h : N3 w0 w i k m tv rv tl rl) {c : Co} {x : Nat} (hx : ownI m i k tv rv c x) : x < w.heap.size := by
  cases c with
  | st => exact h.st.lt hx
  | tx j => exact (h.tx j hx.1).lt hx.2
  | rs => exact rf_lt h.rs hx
  | rx j => exact (h.rx j hx.1).lt hx.2
  | pt =>
    rcases hx with e | e
    · exact (h.ot.lt x e).2
    · exact (h.orr.lt x e).2
/-- blocks of one kind have come -/
theorem ap_step {O O' : Co → Nat → Prop} {n : Nat} (ha : ∀ c d x, c ≠ d → O c x → ¬ O d x) (hl : ∀ c x, O c x → x < n) (c0 : Co) (hO : ∀ c x, O' c x → O c x ∨ (n ≤ x ∧ c = c0)) : ∀ c d x, c ≠ d → O' c x → ¬ O' d x := fun c d x hcd hc hd => by
  rcases hO c x hc with e1 | e1
  · rcases hO d x hd with e2 | e2
    · exact ha c d x hcd e1 e2
    · have := hl c x e1; omega
  · rcases hO d x hd with e2 | e2
    · have := hl d x e2; omega
    · exact hcd (e1.2.trans e2.2.symm)
theorem N3.below (h : N3 w0 w i k m tv rv tl rl) (hb : Below w.heap.size w w') : N3 w0 w' i k m tv rv tl rl :=
  ⟨fun j hj => (h.tx j hj).below hb, h.st.stay hb, h.cb, fun j hj => (h.rx j hj).below hb, h.rs.below hb, h.rcb, h.ot.below hb, h.orr.below hb, h.tc, h.rc, h.ap, h.new⟩
theorem N3.addT (h : N3 w0 w i k m tv rv tl rl) (hw : w0.heap.size ≤ w.heap.size) {a : Ta} (hA : OcA w' a (Tn.new i) P0 m.s) (hf : ∀ x, a.fp x → w.heap.size ≤ x) (hb : Below w.heap.size w w') : N3 w0 w' (i + 1) k { m with a := updN m.a i a } tv rv tl rl := by
  have h' := h.below hb
  have hO : ∀ c x, ownI { m with a := updN m.a i a } (i + 1) k tv rv c x → ownI m i k tv rv c x ∨ (w.heap.size ≤ x ∧ c = .tx i) := fun c x hx => by
    cases c with
    | st => exact .inl hx
    | tx j =>
      by_cases e : j = i
      · subst e
        have h9 := hx.2
        rw [show ({ m with a := updN m.a j a } : W3).a j = a from updN_same _ _ _] at h9
        exact .inr ⟨hf x h9, rfl⟩
      · have h9 := hx.2
        rw [show ({ m with a := updN m.a i a } : W3).a j = m.a j from updN_other _ _ e] at h9
        exact .inl ⟨by have := hx.1; omega, h9⟩
    | rs => exact .inl hx
    | rx j => exact .inl hx
    | pt => exact .inl hx
  refine ⟨fun j hj => ?_, h'.st, fun j hj => ?_, h'.rx, h'.rs, h'.rcb, h'.ot, h'.orr, fun j x hx => ?_, h'.rc, ap_step h.ap (fun c x => h.lt) (.tx i) hO, fun c x hx => ?_⟩
  · show OcM w' (updN m.a i a j) (Tn.new j) P0
    by_cases e : j = i
    · subst e
      rw [updN_same]
      exact hA.mm
    · rw [updN_other _ _ e]
      exact h'.tx j (by omega)
  · show m.s.sb = (updN m.a i a j).m.cb
    by_cases e : j = i
    · subst e
      rw [updN_same]
      exact hA.cb
    · rw [updN_other _ _ e]
      exact h.cb j (by omega)
  · have h9 := h.tc j x hx
    refine ⟨by omega, ?_⟩
    show x = (updN m.a i a j).m.tb
    rw [updN_other _ _ (by omega)]
    exact h9.2
  · rcases hO c x hx with e | e
    · exact h.new c x e
    · omega
theorem N3.addR (h : N3 w0 w i k m tv rv tl rl) (hw : w0.heap.size ≤ w.heap.size) {b : Ra} (hA : RqM w' b (Rn.new k) []) (hcb : b.m.cb = m.rb) (hf : ∀ x, b.fp x → w.heap.size ≤ x) (hb : Below w.heap.size w w') : N3 w0 w' i (k + 1) { m with b := updN m.b k b } tv rv tl rl := by
  have h' := h.below hb
  have hO : ∀ c x, ownI { m with b := updN m.b k b } i (k + 1) tv rv c x → ownI m i k tv rv c x ∨ (w.heap.size ≤ x ∧ c = .rx k) := fun c x hx => by
    cases c with
    | st => exact .inl hx
    | rx j =>
      by_cases e : j = k
      · subst e
        have h9 := hx.2
        rw [show ({ m with b := updN m.b j b } : W3).b j = b from updN_same _ _ _] at h9
        exact .inr ⟨hf x h9, rfl⟩
      · have h9 := hx.2
        rw [show ({ m with b := updN m.b k b } : W3).b j = m.b j from updN_other _ _ e] at h9
        exact .inl ⟨by have := hx.1; omega, h9⟩
    | rs => exact .inl hx
    | tx j => exact .inl hx
    | pt => exact .inl hx
  refine ⟨h'.tx, h'.st, h'.cb, fun j hj => ?_, h'.rs, fun j hj => ?_, h'.ot, h'.orr, h'.tc, fun j x hx => ?_, ap_step h.ap (fun c x => h.lt) (.rx k) hO, fun c x hx => ?_⟩
  · show RqM w' (updN m.b k b j) (Rn.new j) []
    by_cases e : j = k
    · subst e
      rw [updN_same]
      exact hA
    · rw [updN_other _ _ e]
      exact h'.rx j (by omega)
  · show (updN m.b k b j).m.cb = m.rb
    by_cases e : j = k
    · subst e
      rw [updN_same]
      exact hcb
    · rw [updN_other _ _ e]
      exact h.rcb j (by omega)
  · have h9 := h.rc j x hx
    refine ⟨by omega, ?_⟩
    show x = (updN m.b k b j).m.tb
    rw [updN_other _ _ (by omega)]
    exact h9.2
  · rcases hO c x hx with e | e
    · exact h.new c x e
    · omega
theorem N3.appT (h : N3 w0 w i k m tv rv tl rl) (hw : w0.heap.size ≤ w.heap.size) {x : Nat} (hx : tl.length < i ∧ x = (m.a tl.length).m.tb) (hA : kPt.App w 0 tv (tl ++ [x]) tv' w') : N3 w0 w' i k m tv' rv (tl ++ [x]) rl := by
  obtain ⟨o1, g1, g2⟩ := hA
  have hc : Chg w w' (fun y => ownI m i k tv rv .pt y ∧ tv.ownBlock = some y) := (Chg.refl w _).grown g1 (fun y hy _ => ⟨.inl hy, hy⟩)
  have hno : ∀ c, c ≠ .pt → ∀ y, ownI m i k tv rv c y → ¬ (ownI m i k tv rv .pt y ∧ tv.ownBlock = some y) := fun c hc y hy e => h.ap c .pt y hc hy e.1
  have hO : ∀ c y, ownI m i k tv' rv c y → ownI m i k tv rv c y ∨ (w.heap.size ≤ y ∧ c = .pt) := fun c y hy => by
    cases c with
    | pt =>
      rcases hy with e | e
      · rcases g2 with g2 | g2
        · exact .inl (.inl (by rw [← g2]; exact e))
        · rw [g2] at e
          injection e with e
          exact .inr ⟨by omega, rfl⟩
      · exact .inl (.inr e)
    | st => exact .inl hy
    | tx j => exact .inl hy
    | rs => exact .inl hy
    | rx j => exact .inl hy
  refine ⟨fun j hj => (h.tx j hj).keep hc (fun y hy => hno (.tx j) (by intro e; cases e) y ⟨hj, hy⟩), h.st.keep (fun y hy => hc.block y (h.st.lt hy) (hno .st (by intro e; cases e) y hy)), h.cb, fun j hj => (h.rx j hj).keep hc (fun y hy => hno (.rx j) (by intro e; cases e) y ⟨hj, hy⟩), ro_keep h.rs hc (fun y hy => hno .rs (by intro e; cases e) y hy), h.rcb, o1, RowK.Own.chg h.orr hc (fun y hy e => ?_), fun j y hj => ?_, h.rc, ap_step h.ap (fun c x => h.lt) .pt hO, fun c y hy => ?_⟩
  · exact (own_ty2 h.ot e.2).ne (own_ty2 h.orr hy) (by decide)
  · by_cases e : j < tl.length
    · rw [List.getElem?_append_left e] at hj
      exact h.tc j y hj
    · have e2 : j = tl.length := by
        have := (List.getElem?_eq_some_iff.1 hj).1
        simp at this
        omega
      subst e2
      rw [List.getElem?_append_right (Nat.le_refl _)] at hj
      simp at hj
      rw [← hj]
      exact hx
  · rcases hO c y hy with e | e
    · exact h.new c y e
    · omega
theorem N3.appR (h : N3 w0 w i k m tv rv tl rl) (hw : w0.heap.size ≤ w.heap.size) {x : Nat} (hx : rl.length < k ∧ x = (m.b rl.length).m.tb) (hA : kPr.App w 0 rv (rl ++ [x]) rv' w') : N3 w0 w' i k m tv rv' tl (rl ++ [x]) := by
  obtain ⟨o1, g1, g2⟩ := hA
  have hc : Chg w w' (fun y => ownI m i k tv rv .pt y ∧ rv.ownBlock = some y) := (Chg.refl w _).grown g1 (fun y hy _ => ⟨.inr hy, hy⟩)
  have hno : ∀ c, c ≠ .pt → ∀ y, ownI m i k tv rv c y → ¬ (ownI m i k tv rv .pt y ∧ rv.ownBlock = some y) := fun c hc y hy e => h.ap c .pt y hc hy e.1
  have hO : ∀ c y, ownI m i k tv rv' c y → ownI m i k tv rv c y ∨ (w.heap.size ≤ y ∧ c = .pt) := fun c y hy => by
    cases c with
    | pt =>
      rcases hy with e | e
      · exact .inl (.inl e)
      · rcases g2 with g2 | g2
        · exact .inl (.inr (by rw [← g2]; exact e))
        · rw [g2] at e
          injection e with e
          exact .inr ⟨by omega, rfl⟩
    | st => exact .inl hy
    | tx j => exact .inl hy
    | rs => exact .inl hy
    | rx j => exact .inl hy
  refine ⟨fun j hj => (h.tx j hj).keep hc (fun y hy => hno (.tx j) (by intro e; cases e) y ⟨hj, hy⟩), h.st.keep (fun y hy => hc.block y (h.st.lt hy) (hno .st (by intro e; cases e) y hy)), h.cb, fun j hj => (h.rx j hj).keep hc (fun y hy => hno (.rx j) (by intro e; cases e) y ⟨hj, hy⟩), ro_keep h.rs hc (fun y hy => hno .rs (by intro e; cases e) y hy), h.rcb, RowK.Own.chg h.ot hc (fun y hy e => ?_), o1, h.tc, fun j y hj => ?_, ap_step h.ap (fun c x => h.lt) .pt hO, fun c y hy => ?_⟩
  · exact (own_ty2 h.orr e.2).ne (own_ty2 h.ot hy) (by decide)
  · by_cases e : j < rl.length
    · rw [List.getElem?_append_left e] at hj
      exact h.rc j y hj
    · have e2 : j = rl.length := by
        have := (List.getElem?_eq_some_iff.1 hj).1
        simp at this
        omega
      subst e2
      rw [List.getElem?_append_right (Nat.le_refl _)] at hj
      simp at hj
      rw [← hj]
      exact hx
  · rcases hO c y hy with e | e
    · exact h.new c y e
    · omega
/-- a reference's transaction is laid -/
theorem ref_new (hb : Below w.heap.size w w') {tb sb cb who : Nat} (h1 : w'.heap[tb]? = some (.cells #[.pointer (some ⟨cb, 0, none⟩), .int .i64 who, .int .i64 0, .int .i64 0, .pointer (some ⟨sb, 0, none⟩), .slice none 0 0, .slice none 0 0, .int .u64 0, .int .u64 0, .int .i64 0] 45 (0, 0))) (h2 : w'.heap[sb]? = some (.cells #[.slice none 0 0] 41 (0, 0))) (h3 : w.heap.size ≤ tb) (h4 : w.heap.size ≤ sb) :
    RqM w' ⟨⟨tb, cb, sb, none, 0, none, 0⟩, none, 0⟩ (Rn.new who) [] ∧ ∀ x, Ra.fp ⟨⟨tb, cb, sb, none, 0, none, 0⟩, none, 0⟩ x → w.heap.size ≤ x := by
  refine ⟨⟨⟨h1, RowK.Own.nil kW _ _, RowK.Own.nil kX _ _⟩, ⟨h2, RowK.Own.nil kX _ _, (by intro e; cases e), Nat.zero_le _⟩, fun x hx => by cases hx⟩, fun x hx => ?_⟩
  rcases hx with e | e | e | e | e
  · rw [e]; exact h3
  · rw [e]; exact h4
  · cases e
  · cases e
  · cases e
def S0 : S3 := ⟨fun j => Tn.new j, fun _ => P0, fun j => Rn.new j, fun _ => [], []⟩
/-- all three are there -/
theorem N3.m3 (h : N3 w0 w 3 3 m tv rv tl rl) (ht : tl.length = 3) (hr : rl.length = 3) : ∃ tp rp tc rc, tv = .slice (some ⟨tp, 0, none⟩) 3 tc ∧ rv = .slice (some ⟨rp, 0, none⟩) 3 rc ∧ M3 w0 w { m with tp := tp, rp := rp } S0 := by
  obtain ⟨tp, tc, rfl, _, _, hat⟩ := h.ot.at' (fun e => by rw [e] at ht; cases ht)
  obtain ⟨rp, rc, rfl, _, _, har⟩ := h.orr.at' (fun e => by rw [e] at hr; cases hr)
  refine ⟨tp, rp, tc, rc, by rw [ht], by rw [hr], ?_⟩
  have hO : ∀ c x, ({ m with tp := tp, rp := rp } : W3).own c x → ownI m 3 3 (.slice (some ⟨tp, 0, none⟩) tl.length tc) (.slice (some ⟨rp, 0, none⟩) rl.length rc) c x := fun c x hx => by
    cases c with
    | pt =>
      rcases hx with e | e
      · exact .inl (by rw [e]; rfl)
      · exact .inr (by rw [e]; rfl)
    | st => exact hx
    | tx j => exact hx
    | rs => exact hx
    | rx j => exact hx
  refine ⟨h.tx, h.st, h.cb, h.rx, h.rs, h.rcb, fun c d x hcd hc hd => h.ap c d x hcd (hO c x hc) (hO d x hd), fun c x hx => h.new c x (hO c x hx), fun j hj => ?_, fun j hj => ?_, ⟨hat.lt, har.lt⟩⟩
  · obtain ⟨x, hx⟩ : ∃ x, tl[j]? = some x := ⟨_, List.getElem?_eq_getElem (by omega)⟩
    have h9 := hat.cells j x hx 0 _ rfl
    rw [(h.tc j x hx).2] at h9
    simpa [kPt] using h9
  · obtain ⟨x, hx⟩ : ∃ x, rl[j]? = some x := ⟨_, List.getElem?_eq_getElem (by omega)⟩
    have h9 := har.cells j x hx 0 _ rfl
    rw [(h.rc j x hx).2] at h9
    simpa [kPr] using h9
theorem V3.start (hg : m.s.g = fun _ => none) (hn : m.s.cnt = 0) (hc : m.s.c = 0) (hr : m.s.ar.room = m.room) (hm : m.room ≤ 19) : V3 m S0 0 where
  room := hr
  g := ⟨⟨by rw [hg]; funext k; rfl, hn, List.nodup_nil⟩, fun k y h => (by rw [hg] at h; cases h), by rw [hn]; exact Nat.zero_le _, hm, by rw [hc]; exact Nat.zero_le _⟩
  v := fun j _ => Tv.start _ j 0
end
end Go.Proofs.YtkhkdedjffkhdaaGreat
