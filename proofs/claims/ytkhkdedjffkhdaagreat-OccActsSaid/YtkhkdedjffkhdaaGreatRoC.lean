/- The reference's transaction: Fetch. Conditions: the contract's own premises. The reference's transaction: Commit. Conditions: the contract's own premises. The reference's transaction: Step, where it locks. Conditions: the contract's own premises. The reference's transaction: Step, where it takes a stamp; where there is none. Conditions: each contract's own premises. The reference's transaction: Step, where it checks. Conditions: the contract's own premises. The reference's transaction: Step, where it installs. Conditions: the contract's own premises. -/
import Derived.Test.YtkhkdedjffkhdaaGreatRoB
set_option linter.unusedVariables false
set_option linter.unusedSimpArgs false
namespace Go.Proofs.YtkhkdedjffkhdaaGreat
open Go.RowKit Go.Maps

section
variable {w w' : World} {a a' : Ra} {R R' : Rn} {X X' : List Rx} {rb room : Nat} {v v' : Value} {L L' : List (Ky × Cl)} {k : Ky}
theorem RqM.sbne (h : RqM w a R X) {j : Nat} (hj : j = a.m.tb ∨ ownB a.m.wa j ∨ ownB a.m.ra j ∨ ownB a.sa j) : j ≠ a.m.sb := fun e => by
  subst e
  have ht : Ty w a.m.sb 41 := ⟨_, _, h.s.blk⟩
  rcases hj with hj | hj | hj | hj
  · have h2 : Ty w a.m.sb 45 := by rw [hj]; exact ⟨_, _, h.c.blk⟩
    exact ht.ne h2 (by decide)
  · exact ht.ne (own_ty2 h.c.wo (ownB_iff.2 hj)) (by decide)
  · exact ht.ne (own_ty2 h.c.ro (ownB_iff.2 hj)) (by decide)
  · exact ht.ne (own_ty2 h.s.o (ownB_iff.2 hj)) (by decide)
/-- the sets have a new row -/
theorem RqA.seen {sa' : Option Addr} {sc' : Nat} (h : RqA w a R X rb room v L) (hs : SrV w' a.m.sb sa' sc' X') (hf : ∀ j, ownB sa' j → w.heap.size ≤ j) (hc : Chg w w' (fun j => j = a.m.sb)) :
    RqA w' ⟨a.m, sa', sc'⟩ R X' rb room v L ∧ RqT w w' a ⟨a.m, sa', sc'⟩ rb v v :=
  ⟨⟨⟨⟨(hc.block _ h.mm.c.lt (h.mm.sbne (.inl rfl))).trans h.mm.c.blk,
      RowK.Own.chg h.mm.c.wo hc (fun j hj => h.mm.sbne (.inr (.inl (ownB_iff.1 hj)))),
      RowK.Own.chg h.mm.c.ro hc (fun j hj => h.mm.sbne (.inr (.inr (.inl (ownB_iff.1 hj)))))⟩, hs, fun j hj hj2 => by
        have := hf j hj2
        have := h.mm.lt (.inr (.inr (.inr (.inl hj))))
        omega⟩,
     ro_keep h.st hc (fun j hj e => h.mm.apart h.st (.inr (.inl e)) hj), h.cb⟩,
   ⟨hc.mono (fun _ _ e => .inl (.inr (.inl e))), fun j hj => by
      rcases hj with e | e | e | e | e
      · exact .inl (.inl e)
      · exact .inl (.inr (.inl e))
      · exact .inl (.inr (.inr (.inl e)))
      · exact .inl (.inr (.inr (.inr (.inl e))))
      · exact .inr (hf j e), fun _ h => .inl h, rfl, rfl, rfl⟩⟩
/-- the sets' row is written in place -/
theorem RqA.wrote (h : RqA w a R X rb room v L) (hs : SrV w' a.m.sb a.sa a.sc X') (hc : Chg w w' (fun j => ownB a.sa j)) :
    RqA w' a R X' rb room v L ∧ RqT w w' a a rb v v :=
  ⟨⟨⟨⟨(hc.block _ h.mm.c.lt (fun e => h.mm.tbne (.inr (.inr (.inr e))) rfl)).trans h.mm.c.blk,
      RowK.Own.chg h.mm.c.wo hc (fun j hj e => (own_ty2 h.mm.c.wo hj).ne (own_ty2 h.mm.s.o (ownB_iff.2 e)) (by decide)),
      RowK.Own.chg h.mm.c.ro hc (fun j hj e => h.mm.ap j (ownB_iff.1 hj) e)⟩, hs, h.mm.ap⟩,
     ro_keep h.st hc (fun j hj e => h.mm.apart h.st (.inr (.inr (.inr (.inr e)))) hj), h.cb⟩,
   ⟨hc.mono (fun _ _ e => .inl (.inr (.inr (.inr (.inr e))))), fun _ h => .inl h, fun _ h => .inl h, rfl, rfl, rfl⟩⟩
theorem RnC.setN (h : RnC w a.m R) (n : Nat) : RnC (w.setCell ⟨a.m.tb, 9, none⟩ (.int .i64 n)) a.m { R with n := n } ∧ Chg w (w.setCell ⟨a.m.tb, 9, none⟩ (.int .i64 n)) (fun j => j = a.m.tb) := by
  have hc : Chg w (w.setCell ⟨a.m.tb, 9, none⟩ (.int .i64 n)) (fun j => j = a.m.tb) := (Chg.refl w (fun j => j = a.m.tb)).setCell (p := ⟨a.m.tb, 9, none⟩) (fun _ => rfl) _
  refine ⟨h.upd hc ?_ rfl rfl, hc⟩
  rw [blk_setCell h.blk _]
  simp [Rm.cells]
/-- what Fetch leaves -/
def FeR (w : World) (a : Ra) (R : Rn) (X : List Rx) (rb room : Nat) (v : Value) (L : List (Ky × Cl)) (k : Ky) (o : Option Cl) (e : Ending) (w' : World) : Prop :=
  (R.ph ≠ 0 ∧ e = .returned (.int .i64 200) ∧ Below w.heap.size w w') ∨
  (R.ph = 0 ∧ (∃ x ∈ X, x.k = k) ∧ e = .returned (.int .i64 31) ∧ Below w.heap.size w w') ∨
  (R.ph = 0 ∧ (∀ x ∈ X, x.k ≠ k) ∧ lkOf o = true ∧ e = .returned (.int .i64 60) ∧ Below w.heap.size w w') ∨
  (R.ph = 0 ∧ (∀ x ∈ X, x.k ≠ k) ∧ lkOf o = false ∧ e = .returned (.int .i64 0) ∧ ∃ n, AtX X k n ∧ RqP w a { R with most := max R.most (snOf o).word, n := R.n + 1 } (insX X n (Rx.of k (snOf o))) rb room v L w')
set_option maxRecDepth 100000 in
set_option maxHeartbeats 4000000 in
theorem r20Fetch_any (h : RqA w a R X rb room v L) (hX : X.length < 1000000) (hok : ∀ x ∈ X, x.k.Ok) (hn : R.n ≤ 1000000) (hval : (snOf (lookL L k)).val.size = 0 ∨ (snOf (lookL L k)).has = true) :
    Calls Tryz.prog 26 #[.pointer (some ⟨a.m.tb, 0, none⟩), .agg #[.int .i64 k.kind, .int .i64 k.a, .int .i64 k.b, .string k.s]] w (FeR w a R X rb room v L k (lookL L k)) := by
  obtain ⟨W, hW⟩ : ∃ W, W = w.alloc (.cells #[.int .i64 k.kind, .int .i64 k.a, .int .i64 k.b, .string k.s] 47) := ⟨_, rfl⟩
  obtain ⟨kb, hkb⟩ : ∃ b, b = w.heap.size := ⟨_, rfl⟩
  have e1 : W.heap[kb]? = some (.cells #[.int .i64 k.kind, .int .i64 k.a, .int .i64 k.b, .string k.s] 47 (0, 0)) := by rw [hW, hkb]; exact heap_new w _
  have hBW : Below w.heap.size w W := by rw [hW]; exact below_box _ _
  obtain ⟨o, ho⟩ : ∃ o, o = lookL L k := ⟨_, rfl⟩
  obtain ⟨tb, htb⟩ : ∃ b, b = a.m.tb := ⟨_, rfl⟩
  obtain ⟨sb, hsb⟩ : ∃ b, b = a.m.sb := ⟨_, rfl⟩
  obtain ⟨ph, hph⟩ : ∃ p, p = R.ph := ⟨_, rfl⟩
  have HFC : Hid (∀ u, Below W.heap.size W u → u.cell? ⟨kb, 0, none⟩ = some (.int .i64 k.kind) ∧ u.cell? ⟨kb, 1, none⟩ = some (.int .i64 k.a) ∧ u.cell? ⟨kb, 2, none⟩ = some (.int .i64 k.b) ∧ u.cell? ⟨kb, 3, none⟩ = some (.string k.s) ∧ kb < u.heap.size ∧ u.cell? ⟨tb, 0, none⟩ = some (.pointer (some ⟨rb, 0, none⟩)) ∧ u.cell? ⟨tb, 2, none⟩ = some (.int .i64 ph) ∧ u.cell? ⟨tb, 4, none⟩ = some (.pointer (some ⟨sb, 0, none⟩)) ∧ tb < u.heap.size) := Lib.hid (fun u hu => by
    have g1 := (hu.block _ (Array.getElem?_eq_some_iff.1 e1).1).trans e1
    obtain ⟨c0, c1, c2, c3, c4, _, _, _, _, _, cl⟩ := (h.mm.c.below (below_then hBW hu)).cell
    rw [htb, hsb, hph, ← h.cb]
    exact ⟨by rw [cell_of_blk g1]; rfl, by rw [cell_of_blk g1]; rfl, by rw [cell_of_blk g1]; rfl, by rw [cell_of_blk g1]; rfl, (Array.getElem?_eq_some_iff.1 g1).1, c0, c2, c4, cl⟩)
  have HFI : Hid (∀ u, Below W.heap.size W u → Calls Tryz.prog 54 #[.pointer (some ⟨sb, 0, none⟩), .agg #[.int .i64 k.kind, .int .i64 k.a, .int .i64 k.b, .string k.s]] u fun e w' => ∃ fv : Int, e = .returned (.int .i64 fv) ∧ (decide ((0 : Int) ≤ fv) = true ∧ (∃ x ∈ X, x.k = k) ∨ decide ((0 : Int) ≤ fv) = false ∧ (∀ x ∈ X, x.k ≠ k)) ∧ Below u.heap.size u w') := Lib.hid (fun u hu => by
    rw [hsb]
    refine (r13Find_any (h.mm.s.below (below_then hBW hu)).x k).mono ?_
    rintro e w' ⟨fv, rfl, hf, b1⟩
    refine ⟨fv, rfl, ?_, b1⟩
    rcases hf with ⟨rfl, hno⟩ | ⟨j, x, rfl, hx, hxk⟩
    · exact .inr ⟨rfl, hno⟩
    · exact .inl ⟨decide_eq_true (by omega), x, List.mem_of_getElem? hx, hxk⟩)
  have HRD : Hid (∀ u, Below W.heap.size W u → Calls Tryz.prog 55 #[.pointer (some ⟨rb, 0, none⟩), .agg #[.int .i64 k.kind, .int .i64 k.a, .int .i64 k.b, .string k.s]] u fun e w' => e = .returned (readV o) ∧ Below u.heap.size u w') := Lib.hid (fun u hu => by
    obtain ⟨aa, cap, _, h2⟩ := row_rv (h.st.below (below_then hBW hu))
    rw [ho]
    exact r9read_any rb cap room aa L k u h2)
  have HSE : Hid (∀ u, Below W.heap.size W u → (∀ x ∈ X, x.k ≠ k) → Calls Tryz.prog 56 #[.pointer (some ⟨sb, 0, none⟩), .agg #[.int .i64 k.kind, .int .i64 k.a, .int .i64 k.b, .string k.s], .agg #[.int .u64 (snOf o).word, .string (snOf o).val, .bool (snOf o).has]] u fun e w' => e = .returned (.int .i64 0) ∧ ∃ n sa' sc', AtX X k n ∧ RqA w' ⟨a.m, sa', sc'⟩ R (insX X n (Rx.of k (snOf o))) rb room v L ∧ RqT w w' a ⟨a.m, sa', sc'⟩ rb v v ∧ Chg u w' (fun j => j = sb)) := Lib.hid (fun u hu hg => by
    have hA := h.below (below_then hBW hu)
    rw [hsb, ho]
    refine (r13See_v hA.mm.s hX hok k (snOf (lookL L k))).mono ?_
    intro e w' hp
    unfold SeeV at hp
    rw [if_neg (fun hh => by rcases hval with h0 | h0; exact hh.1 h0; rw [h0] at hh; cases hh.2)] at hp
    rcases hp with ⟨⟨x, hx, hxk⟩, _⟩ | ⟨_, he, n, sa', sc', h1, h2, h3, h4⟩
    · exact absurd hxk (hg x hx)
    · have hR := hA.seen h2 h3 h4
      exact ⟨he, n, sa', sc', h1, hR.1, (RqT.below (below_then hBW hu) a rb v).trans hR.2, h4⟩)
  have HN := Lib.hid hn
  have HE1 := Lib.hid e1
  have HB := Lib.hid hBW
  have HW := Lib.hid hW
  have HK := Lib.hid hkb
  have HTB : Hid (tb = a.m.tb ∧ sb = a.m.sb) := Lib.hid ⟨htb, hsb⟩
  have HTY : Hid (∀ u, Below W.heap.size W u → kb ≠ sb ∧ tb ≠ sb ∧ (∀ xb, Ty u xb 96 → xb ≠ sb) ∧ u.heap[tb]? = some (.cells (a.m.cells R) 45 (0, 0))) := Lib.hid (fun u hu => by
    have hA := h.below (below_then hBW hu)
    have hs : Ty u sb 41 := by rw [hsb]; exact ⟨_, _, hA.mm.s.blk⟩
    have ht : u.heap[tb]? = some (.cells (a.m.cells R) 45 (0, 0)) := by rw [htb]; exact hA.mm.c.blk
    refine ⟨fun e => ?_, fun e => ?_, fun xb hx e => ?_, ht⟩
    · rw [← e] at hs
      exact hs.ne ⟨_, _, (hu.block _ (Array.getElem?_eq_some_iff.1 e1).1).trans e1⟩ (by decide)
    · rw [← e] at hs
      exact hs.ne ⟨_, _, ht⟩ (by decide)
    · rw [← e] at hs
      exact hs.ne hx (by decide))
  rw [← ho, ← htb]
  obtain ⟨x0, x1, x2, x3, xl, c0, c2, c4, cl⟩ := HFC.out W (Below.refl _ _)
  have HPH := Lib.hid hph
  clear h hX hok hn hval hBW hW hkb e1 ho htb hsb hph
  by_cases hp0 : ph = 0
  case neg =>
    have t1 : (ph == 0) = false := by simpa using hp0
    have t1' : (ph != 0) = true := by simpa using hp0
    have HP0 := Lib.hid hp0
    clear hp0
    go_enter Tryz.func26, Tryz.ntmps26
    go_upto_region 1 with fail
    rw [← HW.out, ← HK.out]
    go_wp2_with fail
    go_ret
    exact .inl ⟨by rw [← HPH.out]; exact HP0.out, rfl, HB.out⟩
  subst hp0
  go_enter Tryz.func26, Tryz.ntmps26
  go_upto_region 1 with fail
  rw [← HW.out, ← HK.out]
  go_upto_region 3 with fail
  have HS3 : Hid (∀ u, Below W.heap.size W u → Below W.heap.size W u ∧ u.cell? ⟨kb, 0, none⟩ = some (.int .i64 k.kind) ∧ u.cell? ⟨kb, 1, none⟩ = some (.int .i64 k.a) ∧ u.cell? ⟨kb, 2, none⟩ = some (.int .i64 k.b) ∧ u.cell? ⟨kb, 3, none⟩ = some (.string k.s) ∧ kb < u.heap.size ∧ u.cell? ⟨tb, 4, none⟩ = some (.pointer (some ⟨sb, 0, none⟩)) ∧ tb < u.heap.size) := Lib.hid (fun u hu => by
    obtain ⟨x0, x1, x2, x3, xl, c0, c2, c4, cl⟩ := HFC.out u hu
    exact ⟨hu, x0, x1, x2, x3, xl, c4, cl⟩)
  by_cases hin : ∃ x ∈ X, x.k = k
  case pos =>
    have HFY : Hid (∀ u, Below W.heap.size W u → Calls Tryz.prog 54 #[.pointer (some ⟨sb, 0, none⟩), .agg #[.int .i64 k.kind, .int .i64 k.a, .int .i64 k.b, .string k.s]] u fun e w' => ∃ fv : Int, e = .returned (.int .i64 fv) ∧ decide ((0 : Int) ≤ fv) = true ∧ Below u.heap.size u w') := Lib.hid (fun u hu => (HFI.out u hu).mono (fun e w' hp => by
      obtain ⟨fv, he, hf, hb⟩ := hp
      rcases hf with ⟨h1, _⟩ | ⟨_, h2⟩
      · exact ⟨fv, he, h1, hb⟩
      · obtain ⟨x, hx, hxk⟩ := hin
        exact absurd hxk (h2 x hx)))
    have HIN := Lib.hid hin
    clear hin
    go_region_held3 (fun u => Below W.heap.size W u ∧ u.cell? ⟨kb, 0, none⟩ = some (.int .i64 k.kind) ∧ u.cell? ⟨kb, 1, none⟩ = some (.int .i64 k.a) ∧ u.cell? ⟨kb, 2, none⟩ = some (.int .i64 k.b) ∧ u.cell? ⟨kb, 3, none⟩ = some (.string k.s) ∧ kb < u.heap.size ∧ u.cell? ⟨tb, 4, none⟩ = some (.pointer (some ⟨sb, 0, none⟩)) ∧ tb < u.heap.size)
      (first | exact HS3.out _ (Below.refl _ _).drew | exact HS3.out _ HBC.out)
      ((go_at_call 54; (refine (HFY.out _ (by go_split_ands; assumption)).mono ?_); rintro e u ⟨fv, rfl, t3, hbc⟩; have HBC := Lib.hid (below_then (show Below W.heap.size W _ by go_split_ands; assumption) hbc); clear hbc))
    clear x0 x1 x2 x3 xl c0 c2 c4 cl
    all_goals (
      go_wp2_with fail
      go_ret
      exact .inr (.inl ⟨HPH.out.symm, HIN.out, rfl, below_then HB.out HBC.out⟩))
  case neg =>
  have HNO : Hid (∀ x ∈ X, x.k ≠ k) := Lib.hid (fun x hx e => hin ⟨x, hx, e⟩)
  have HFN : Hid (∀ u, Below W.heap.size W u → Calls Tryz.prog 54 #[.pointer (some ⟨sb, 0, none⟩), .agg #[.int .i64 k.kind, .int .i64 k.a, .int .i64 k.b, .string k.s]] u fun e w' => ∃ fv : Int, e = .returned (.int .i64 fv) ∧ decide ((0 : Int) ≤ fv) = false ∧ Below u.heap.size u w') := Lib.hid (fun u hu => (HFI.out u hu).mono (fun e w' hp => by
    obtain ⟨fv, he, hf, hb⟩ := hp
    rcases hf with ⟨_, h1⟩ | ⟨h2, _⟩
    · exact absurd h1 hin
    · exact ⟨fv, he, h2, hb⟩))
  clear hin
  go_region_held3 (fun u => Below W.heap.size W u ∧ u.cell? ⟨kb, 0, none⟩ = some (.int .i64 k.kind) ∧ u.cell? ⟨kb, 1, none⟩ = some (.int .i64 k.a) ∧ u.cell? ⟨kb, 2, none⟩ = some (.int .i64 k.b) ∧ u.cell? ⟨kb, 3, none⟩ = some (.string k.s) ∧ kb < u.heap.size ∧ u.cell? ⟨tb, 4, none⟩ = some (.pointer (some ⟨sb, 0, none⟩)) ∧ tb < u.heap.size)
    (first | exact HS3.out _ (Below.refl _ _).drew | exact HS3.out _ HBC.out)
    ((go_at_call 54; (refine (HFN.out _ (by go_split_ands; assumption)).mono ?_); rintro e u ⟨fv, rfl, t3, hbc⟩; have HBC := Lib.hid (below_then (show Below W.heap.size W _ by go_split_ands; assumption) hbc); clear hbc))
  clear x0 x1 x2 x3 xl c0 c2 c4 cl
  have HU := HBC
  clear HBC
  obtain ⟨x0, x1, x2, x3, xl, c0, c2, c4, cl⟩ := HFC.out u HU.out
  go_upto_region 5 with fail
  obtain ⟨code, rw0, rv0, rh0, hrv, hfr, hbu⟩ : ∃ (code : Int) (rw0 : Nat) (rv0 : ByteArray) (rh0 : Bool), readV o = .tuple #[.agg #[.int .u64 rw0, .string rv0, .bool rh0], .int .i64 code] ∧ (lkOf o = false → code = 0 ∧ rw0 = (snOf o).word ∧ rv0 = (snOf o).val ∧ rh0 = (snOf o).has) ∧ (lkOf o = true → code = 60) := by
    cases hl : lkOf o with
    | true => exact ⟨60, 0, ⟨#[]⟩, false, readV_busy hl, (fun e => by cases e), fun _ => rfl⟩
    | false => exact ⟨0, _, _, _, readV_free hl, fun _ => ⟨rfl, rfl, rfl, rfl⟩, (fun e => by cases e)⟩
  rw [hrv] at HRD
  have HRC : Hid ((lkOf o = false → code = 0 ∧ rw0 = (snOf o).word ∧ rv0 = (snOf o).val ∧ rh0 = (snOf o).has) ∧ (lkOf o = true → code = 60)) := Lib.hid ⟨hfr, hbu⟩
  clear hrv hfr hbu HS3
  have HS6 : Hid (∀ v, Below u.heap.size u v → Below u.heap.size u v ∧ v.cell? ⟨kb, 0, none⟩ = some (.int .i64 k.kind) ∧ v.cell? ⟨kb, 1, none⟩ = some (.int .i64 k.a) ∧ v.cell? ⟨kb, 2, none⟩ = some (.int .i64 k.b) ∧ v.cell? ⟨kb, 3, none⟩ = some (.string k.s) ∧ kb < v.heap.size ∧ v.cell? ⟨tb, 0, none⟩ = some (.pointer (some ⟨rb, 0, none⟩)) ∧ tb < v.heap.size) := Lib.hid (fun v hv => by
    obtain ⟨x0, x1, x2, x3, xl, c0, c2, c4, cl⟩ := HFC.out v (below_then HU.out hv)
    exact ⟨hv, x0, x1, x2, x3, xl, c0, cl⟩)
  go_cut [5, 6] from 19 to 27 (fun s7 s8 wc => ∃ (xb : Nat) (v : World), v = wc ∧ s7 = .pointer (some ⟨xb, 0, none⟩) ∧ s8 = .int .i64 code ∧ Hid (Below u.heap.size u v ∧ v.heap[xb]? = some (.cells #[.int .u64 rw0, .string rv0, .bool rh0] 96 (0, 0)) ∧ u.heap.size ≤ xb))
  case first =>
    go_region_held3 (fun v => Below u.heap.size u v ∧ v.cell? ⟨kb, 0, none⟩ = some (.int .i64 k.kind) ∧ v.cell? ⟨kb, 1, none⟩ = some (.int .i64 k.a) ∧ v.cell? ⟨kb, 2, none⟩ = some (.int .i64 k.b) ∧ v.cell? ⟨kb, 3, none⟩ = some (.string k.s) ∧ kb < v.heap.size ∧ v.cell? ⟨tb, 0, none⟩ = some (.pointer (some ⟨rb, 0, none⟩)) ∧ tb < v.heap.size)
      (first | exact HS6.out _ (Below.refl _ _).drew | exact HS6.out _ HBC.out | exact HS6.out _ (below_then HBC.out (below_box _ _)) | exact HS6.out _ (below_box _ _).drew | exact HS6.out _ (box3 (Nat.le_refl _) HBC.out hbv _ _ _ rfl).1)
      ((go_at_call 55; (refine (HRD.out _ (below_then HU.out (by go_split_ands; assumption))).mono ?_); rintro e wc ⟨rfl, hbc⟩; have HBC := Lib.hid (below_then (show Below u.heap.size u _ by go_split_ands; assumption) hbc); first | (have hbv : wc.heap[u.heap.size]? = some (.cells #[.int .u64 0, .string ⟨#[]⟩, .bool false] 96 (0, 0)) := (hbc.block _ (by simp)).trans (heap_new u _); have z0 := cell_of_blk hbv 0; have z1 := cell_of_blk hbv 1; have z2 := cell_of_blk hbv 2; have y0 := frozen_of_blk hbv 0; have y1 := frozen_of_blk hbv 1; have y2 := frozen_of_blk hbv 2; simp at z0 z1 z2) | skip))
    all_goals
      go_wp2_with fail
      go_meet
      first
        | exact ⟨_, _, rfl, rfl, rfl, Lib.hid ⟨below_then HBC.out (below_box _ _), heap_new _ _, HBC.out.size⟩⟩
        | exact ⟨_, _, rfl, rfl, rfl, Lib.hid ⟨(box3 (Nat.le_refl _) HBC.out hbv _ _ _ rfl).1, (box3 (Nat.le_refl _) HBC.out hbv _ _ _ rfl).2, Nat.le_refl _⟩⟩
  case rest =>
  obtain ⟨xb, v1, rfl, rfl, rfl, HV⟩ := hcut
  have HBV : Hid (Below W.heap.size W v1) := Lib.hid (below_then HU.out HV.out.1)
  clear x0 x1 x2 x3 xl c0 c2 c4 cl
  cases hl : lkOf o
  case true =>
    obtain rfl : code = 60 := HRC.out.2 hl
    have HL := Lib.hid hl
    clear hl
    go_wp2_with fail
    go_ret
    exact .inr (.inr (.inl ⟨HPH.out.symm, HNO.out, HL.out, rfl, below_then HB.out HBV.out⟩))
  obtain ⟨rfl, rfl, rfl, rfl⟩ := HRC.out.1 hl
  have HL := Lib.hid hl
  clear hl
  go_upto_region 8 with fail
  have HBLK : Hid (∀ v', Chg v1 v' (fun j => j = sb) → v'.heap[kb]? = some (.cells #[.int .i64 k.kind, .int .i64 k.a, .int .i64 k.b, .string k.s] 47 (0, 0)) ∧ v'.heap[tb]? = some (.cells (a.m.cells R) 45 (0, 0)) ∧ v'.heap[xb]? = some (.cells #[.int .u64 (snOf o).word, .string (snOf o).val, .bool (snOf o).has] 96 (0, 0))) := Lib.hid (fun v' hc => by
    have k1 := (HBV.out.block kb (Array.getElem?_eq_some_iff.1 HE1.out).1).trans HE1.out
    have k3 := HV.out.2.1
    obtain ⟨n1, n2, n3, k2⟩ := HTY.out v1 HBV.out
    exact ⟨(hc.block _ (Array.getElem?_eq_some_iff.1 k1).1 n1).trans k1, (hc.block _ (Array.getElem?_eq_some_iff.1 k2).1 n2).trans k2, (hc.block _ (Array.getElem?_eq_some_iff.1 k3).1 (n3 xb ⟨_, _, k3⟩)).trans k3⟩)
  have HS9 : Hid (∀ v', Chg v1 v' (fun j => j = sb) → v'.cell? ⟨kb, 0, none⟩ = some (.int .i64 k.kind) ∧ v'.cell? ⟨kb, 1, none⟩ = some (.int .i64 k.a) ∧ v'.cell? ⟨kb, 2, none⟩ = some (.int .i64 k.b) ∧ v'.cell? ⟨kb, 3, none⟩ = some (.string k.s) ∧ kb < v'.heap.size ∧ v'.cell? ⟨tb, 4, none⟩ = some (.pointer (some ⟨sb, 0, none⟩)) ∧ tb < v'.heap.size ∧ v'.cell? ⟨xb, 0, none⟩ = some (.int .u64 (snOf o).word) ∧ v'.cell? ⟨xb, 1, none⟩ = some (.string (snOf o).val) ∧ v'.cell? ⟨xb, 2, none⟩ = some (.bool (snOf o).has) ∧ xb < v'.heap.size) := Lib.hid (fun v' hc => by
    obtain ⟨k1, k2, k3⟩ := HBLK.out v' hc
    exact ⟨by rw [cell_of_blk k1]; rfl, by rw [cell_of_blk k1]; rfl, by rw [cell_of_blk k1]; rfl, by rw [cell_of_blk k1]; rfl, (Array.getElem?_eq_some_iff.1 k1).1, by rw [cell_of_blk k2, HTB.out.2]; rfl, (Array.getElem?_eq_some_iff.1 k2).1, by rw [cell_of_blk k3]; rfl, by rw [cell_of_blk k3]; rfl, by rw [cell_of_blk k3]; rfl, (Array.getElem?_eq_some_iff.1 k3).1⟩)
  go_region_held3 (fun v' => v'.cell? ⟨kb, 0, none⟩ = some (.int .i64 k.kind) ∧ v'.cell? ⟨kb, 1, none⟩ = some (.int .i64 k.a) ∧ v'.cell? ⟨kb, 2, none⟩ = some (.int .i64 k.b) ∧ v'.cell? ⟨kb, 3, none⟩ = some (.string k.s) ∧ kb < v'.heap.size ∧ v'.cell? ⟨tb, 4, none⟩ = some (.pointer (some ⟨sb, 0, none⟩)) ∧ tb < v'.heap.size ∧ v'.cell? ⟨xb, 0, none⟩ = some (.int .u64 (snOf o).word) ∧ v'.cell? ⟨xb, 1, none⟩ = some (.string (snOf o).val) ∧ v'.cell? ⟨xb, 2, none⟩ = some (.bool (snOf o).has) ∧ xb < v'.heap.size)
    (first | exact HS9.out _ (Chg.refl _ _).drew | exact HS9.out _ HC9.out)
    ((go_at_call 56; (refine (HSE.out _ (below_then HBV.out (Below.refl _ _).drew) HNO.out).mono ?_); rintro e v9 ⟨rfl, n, sa9, sc9, hn', hx', ht', hc'⟩; have HC9 : Hid (Chg v1 v9 (fun j => j = sb)) := Lib.hid ((Chg.refl v1 _).drew.trans hc' (fun _ _ e => e)); have HX9 := Lib.hid (And.intro hn' (And.intro hx' ht')); clear hn' hx' ht' hc'))
  have b9 := HBLK.out v9 HC9.out
  have cl := (Array.getElem?_eq_some_iff.1 b9.2.1).1
  have z0 : v9.cell? ⟨xb, 0, none⟩ = some (.int .u64 (snOf o).word) := by rw [cell_of_blk b9.2.2]; rfl
  have zl := (Array.getElem?_eq_some_iff.1 b9.2.2).1
  have HTOP : Hid (Calls Tryz.prog 57 #[.pointer (some ⟨tb, 0, none⟩), .int .u64 (snOf o).word] v9 (RnPost v9 a.m { R with most := max R.most (snOf o).word })) := Lib.hid (by
    rw [HTB.out.1]; exact r20top_any HX9.out.2.1.mm.c (snOf o).word)
  clear b9
  go_upto_region 10 with (go_at_call 57; refine HTOP.out.mono ?_; rintro e u2 ⟨rfl, hc2, hg2⟩; have HT2 := Lib.hid (HX9.out.2.1.own hc2 hg2); clear hc2 hg2)
  obtain ⟨n0, hn0⟩ : ∃ x, x = R.n := ⟨_, rfl⟩
  have c9 := HT2.out.1.mm.c.cell.2.2.2.2.2.2.2.2.2.1
  have f9 := frozen_of_blk HT2.out.1.mm.c.blk 9
  have cl2 := HT2.out.1.mm.c.lt
  have wn : IntKind.i64.wrap ((n0 : Int) + 1) = (n0 : Int) + 1 := IntWalk.i64_in _ (by have := HN.out; omega)
  have HN0 : Hid (n0 = R.n) := Lib.hid hn0
  simp only [← hn0] at c9
  rw [← HTB.out.1] at c9 f9 cl2
  clear hn0 cl z0 zl
  go_wp2_with fail
  go_ret
  have hF := HT2.out.1.mm.c.setN (n0 + 1)
  have hO := HT2.out.1.own hF.1 hF.2
  rw [HN0.out] at hO
  simp only [← HTB.out.1] at hO
  have hO2 : RqP w a { R with most := max R.most (snOf o).word, n := R.n + 1 } (insX X n (Rx.of k (snOf o))) rb room v L (u2.setCell ⟨tb, 9, none⟩ (.int .i64 ((n0 : Int) + 1))) := by
    rw [show ((n0 : Int) + 1) = ((R.n + 1 : Nat) : Int) by rw [HN0.out]; rfl]
    exact ⟨_, _, hO.1, (HX9.out.2.2.trans HT2.out.2).trans hO.2⟩
  exact .inr (.inr (.inr ⟨HPH.out.symm, HNO.out, HL.out, rfl, n, HX9.out.1, hO2⟩))
end
end Go.Proofs.YtkhkdedjffkhdaaGreat
namespace Go.Proofs.YtkhkdedjffkhdaaGreat
open Go.RowKit Go.Maps

section
variable {w w1 w' : World} {a a' : Ra} {R R' : Rn} {X X' : List Rx} {rb room : Nat} {v v' : Value} {L L' : List (Ky × Cl)} {k : Ky}
/-- its own cells have changed, with other rows -/
theorem RnC.upd2 {m m' : Rm} (h : RnC w m R) (hc : Chg w w' (fun j => j = m.tb)) (htb : m'.tb = m.tb) (hb : w'.heap[m.tb]? = some (.cells (m'.cells R') 45 (0, 0))) (hw : kW.Own w 0 (.slice m'.wa R'.W.length m'.wc) R'.W) (hr : kX.Own w 0 (.slice m'.ra R'.R.length m'.rc) R'.R) : RnC w' m' R' := by
  have ht : Ty w m.tb 45 := ⟨_, _, h.blk⟩
  refine ⟨by rw [htb]; exact hb, ?_, ?_⟩
  · refine RowK.Own.chg hw hc (fun j hj e => ?_)
    have e2 : j = m.tb := e
    subst e2
    exact ht.ne (own_ty2 hw hj) (by decide)
  · refine RowK.Own.chg hr hc (fun j hj e => ?_)
    have e2 : j = m.tb := e
    subst e2
    exact ht.ne (own_ty2 hr hj) (by decide)
/-- new writes are laid in -/
theorem RqA.setW {wa : Option Addr} {wc : Nat} {W : List Wr} (h : RqA w a R X rb room v L) (hb : Below w.heap.size w w1) (hw : kW.Own w1 w.heap.size (.slice wa W.length wc) W) :
    RqA (w1.setCell ⟨a.m.tb, 5, none⟩ (.slice wa W.length wc)) ⟨{ a.m with wa := wa, wc := wc }, a.sa, a.sc⟩ { R with W := W } X rb room v L ∧ RqT w (w1.setCell ⟨a.m.tb, 5, none⟩ (.slice wa W.length wc)) a ⟨{ a.m with wa := wa, wc := wc }, a.sa, a.sc⟩ rb v v := by
  have h1 := h.below hb
  have hc : Chg w1 (w1.setCell ⟨a.m.tb, 5, none⟩ (.slice wa W.length wc)) (fun j => j = a.m.tb) := (Chg.refl w1 (fun j => j = a.m.tb)).setCell (p := ⟨a.m.tb, 5, none⟩) (fun _ => rfl) _
  have hO := h1.own (R' := R) (w' := w1.setCell ⟨a.m.tb, 5, none⟩ (.slice wa W.length wc))
  refine ⟨⟨⟨h1.mm.c.upd2 hc rfl ?_ (hw.mono (Nat.zero_le _)) h1.mm.c.ro, h1.mm.s.chg hc (h1.mm.tbne (.inl rfl)) (fun j hj => h1.mm.tbne (.inr (.inr (.inr hj)))), h1.mm.ap⟩, ro_keep h1.st hc (fun j hj e => h1.mm.apart h1.st (.inl e) hj), h1.cb⟩,
    ⟨((Chg.of_below hb _).trans hc (fun _ _ e => .inl (.inl e))), fun j hj => ?_, fun _ h => .inl h, rfl, rfl, rfl⟩⟩
  · rw [blk_setCell h1.mm.c.blk _]
    simp [Rm.cells]
  · rcases hj with e | e | e | e | e
    · exact .inl (.inl e)
    · exact .inl (.inr (.inl e))
    · exact .inr (hw.lt j (ownB_iff.2 e)).1
    · exact .inl (.inr (.inr (.inr (.inl e))))
    · exact .inl (.inr (.inr (.inr (.inr e))))
/-- new rows are laid in -/
theorem RqA.setR {ra : Option Addr} {rc : Nat} {Z : List Rx} (h : RqA w a R X rb room v L) (hb : Below w.heap.size w w1) (hr : kX.Own w1 w.heap.size (.slice ra Z.length rc) Z) :
    RqA (w1.setCell ⟨a.m.tb, 6, none⟩ (.slice ra Z.length rc)) ⟨{ a.m with ra := ra, rc := rc }, a.sa, a.sc⟩ { R with R := Z } X rb room v L ∧ RqT w (w1.setCell ⟨a.m.tb, 6, none⟩ (.slice ra Z.length rc)) a ⟨{ a.m with ra := ra, rc := rc }, a.sa, a.sc⟩ rb v v := by
  have h1 := h.below hb
  have hc : Chg w1 (w1.setCell ⟨a.m.tb, 6, none⟩ (.slice ra Z.length rc)) (fun j => j = a.m.tb) := (Chg.refl w1 (fun j => j = a.m.tb)).setCell (p := ⟨a.m.tb, 6, none⟩) (fun _ => rfl) _
  refine ⟨⟨⟨h1.mm.c.upd2 hc rfl ?_ h1.mm.c.wo (hr.mono (Nat.zero_le _)), h1.mm.s.chg hc (h1.mm.tbne (.inl rfl)) (fun j hj => h1.mm.tbne (.inr (.inr (.inr hj)))), fun j hj hj2 => ?_⟩, ro_keep h1.st hc (fun j hj e => h1.mm.apart h1.st (.inl e) hj), h1.cb⟩,
    ⟨((Chg.of_below hb _).trans hc (fun _ _ e => .inl (.inl e))), fun j hj => ?_, fun _ h => .inl h, rfl, rfl, rfl⟩⟩
  · rw [blk_setCell h1.mm.c.blk _]
    simp [Rm.cells]
  · have := (hr.lt j (ownB_iff.2 hj)).1
    have := h.mm.lt (.inr (.inr (.inr (.inr hj2))))
    omega
  · rcases hj with e | e | e | e | e
    · exact .inl (.inl e)
    · exact .inl (.inr (.inl e))
    · exact .inl (.inr (.inr (.inl e)))
    · exact .inr (hr.lt j (ownB_iff.2 e)).1
    · exact .inl (.inr (.inr (.inr (.inr e))))
/-- an empty made row, and what is appended to it -/
theorem emp_app {u w8 : World} {v8 : Value} {Z : List Rx} (hA : kX.App (u.alloc (.cells #[] 133)) u.heap.size (.slice (some ⟨u.heap.size, 0, none⟩) 0 0) ([] ++ Z) v8 w8) : ∃ a8 c8, v8 = .slice a8 Z.length c8 ∧ kX.Own w8 u.heap.size (.slice a8 Z.length c8) Z ∧ Below u.heap.size u w8 := by
  obtain ⟨o1, g1, _⟩ := hA
  have o1 : kX.Own w8 u.heap.size v8 Z := o1
  obtain ⟨a8, c8, rfl⟩ := o1.shape
  refine ⟨a8, c8, rfl, o1, ?_⟩
  have hE : kX.Own (u.alloc (.cells #[] 133)) u.heap.size (.slice (some ⟨u.heap.size, 0, none⟩) 0 0) [] := RowK.Own.new (k := kX) (l := []) (heap_new u _) (Nat.le_refl _) rfl (by decide)
  exact (below_box u _).trans (below_grownX hE g1 (below_box u (.cells #[] 133)).size)
/-- what Commit leaves -/
def CoR (w : World) (a : Ra) (R : Rn) (X : List Rx) (rb room : Nat) (v : Value) (L : List (Ky × Cl)) (e : Ending) (w' : World) : Prop :=
  (R.ph ≠ 0 ∧ e = .returned (.int .i64 200) ∧ Below w.heap.size w w') ∨
  (R.ph = 0 ∧ e = .returned (.int .i64 0) ∧ RqP w a (skipR { R with W := outX X, R := X, ph := 1, i := 0 }) X rb room v L w')
set_option maxRecDepth 100000 in
set_option maxHeartbeats 4000000 in
theorem r20Commit_any (h : RqA w a R X rb room v L) : Calls Tryz.prog 28 #[.pointer (some ⟨a.m.tb, 0, none⟩)] w (CoR w a R X rb room v L) := by
  obtain ⟨tb, htb⟩ : ∃ b, b = a.m.tb := ⟨_, rfl⟩
  obtain ⟨sb, hsb⟩ : ∃ b, b = a.m.sb := ⟨_, rfl⟩
  obtain ⟨ph, hph⟩ : ∃ p, p = R.ph := ⟨_, rfl⟩
  obtain ⟨c0, c1, c2, c3, c4, c5, c6, c7, c8, c9, cl⟩ := h.mm.c.cell
  have f5 := frozen_of_blk h.mm.c.blk 5
  rw [← htb] at c2 c4 c5 cl f5
  rw [← hph] at c2
  rw [← hsb] at c4
  have HPH := Lib.hid hph
  have HH := Lib.hid h
  have HTB : Hid (tb = a.m.tb ∧ sb = a.m.sb) := Lib.hid ⟨htb, hsb⟩
  have HWR : Hid (Calls Tryz.prog 65 #[.pointer (some ⟨sb, 0, none⟩)] w (Out13 w X)) := Lib.hid (by rw [hsb]; exact r13Writes_any h.mm.s.x)
  have HXN := Lib.hid h.mm.s.n
  rw [← htb]
  clear c0 c1 c3 c6 c7 c8 c9 htb hsb hph
  by_cases hp0 : ph = 0
  case neg =>
    have t1 : (ph == 0) = false := by simpa using hp0
    have t1' : (ph != 0) = true := by simpa using hp0
    have HP0 := Lib.hid hp0
    clear hp0 h
    go_enter Tryz.func28, Tryz.ntmps28
    go_wp2_with fail
    go_ret
    exact .inl ⟨by rw [← HPH.out]; exact HP0.out, rfl, Below.refl _ _⟩
  subst hp0
  clear h
  go_enter Tryz.func28, Tryz.ntmps28
  go_upto_region 4 with (go_at_call 65; refine HWR.out.mono ?_; rintro e w1 ⟨v1, rfl, ho, hb⟩; obtain ⟨wa, wc, hv1⟩ := ho.shape; obtain ⟨nW, hnW⟩ : ∃ n, n = (outX X).length := ⟨_, rfl⟩; rw [← hnW] at hv1; subst hv1; have HNW := Lib.hid hnW; have HO := Lib.hid ho; have HB := Lib.hid hb; have hbk := (HH.out.below hb).mm.c.blk; have y5 := cell_of_blk hbk 5; have g5 := frozen_of_blk hbk 5; have gl := (Array.getElem?_eq_some_iff.1 hbk).1; rw [← HTB.out.1] at y5 g5 gl; simp [Rm.cells] at y5; clear hbk ho hb hnW)
  clear c2 c4 c5 cl f5 y5 g5 gl
  have hSW : RqA (w1.setCell ⟨tb, 5, none⟩ (.slice wa nW wc)) ⟨{ a.m with wa := wa, wc := wc }, a.sa, a.sc⟩ { R with W := outX X } X rb room v L ∧ RqT w (w1.setCell ⟨tb, 5, none⟩ (.slice wa nW wc)) a ⟨{ a.m with wa := wa, wc := wc }, a.sa, a.sc⟩ rb v v := by
    have ho := HO.out
    rw [HNW.out] at ho ⊢
    rw [HTB.out.1]
    exact HH.out.setW HB.out ho
  obtain ⟨V, hV⟩ : ∃ V, V = w1.setCell ⟨tb, 5, none⟩ (.slice wa nW wc) := ⟨_, rfl⟩
  rw [← hV] at hSW ⊢
  have HSW := Lib.hid hSW
  clear hV hSW
  obtain ⟨c0, c1, c2, c3, c4, c5, c6, c7, c8, c9, cl⟩ := HSW.out.1.mm.c.cell
  obtain ⟨nX, hnX⟩ : ∃ n, n = X.length := ⟨_, rfl⟩
  have d0 := cell_of_blk HSW.out.1.mm.s.blk 0
  have dl := HSW.out.1.mm.s.lt
  simp only [← HTB.out.1, ← HTB.out.2] at c4 cl d0 dl
  simp [← hnX] at d0
  have HNX := Lib.hid hnX
  have HXV : Hid (kX.V (V.alloc (.cells #[] 133)) a.sa X ∧ (a.sa = none → a.sc = 0) ∧ X.length ≤ 1000000) := Lib.hid ⟨(HSW.out.1.mm.s.o.alloc _).toV, fun e => by have h := HSW.out.1.mm.s.o; rw [show (⟨{ a.m with wa := wa, wc := wc }, a.sa, a.sc⟩ : Ra).sa = none from e] at h; exact RowK.Own.noneCap h, HXN.out⟩
  have HEM : Hid (kX.Own (V.alloc (.cells #[] 133)) V.heap.size (.slice (some ⟨V.heap.size, 0, none⟩) 0 0) [] ∧ V.heap.size ≤ (V.alloc (.cells #[] 133)).heap.size) := Lib.hid ⟨RowK.Own.new (k := kX) (l := []) (heap_new V _) (Nat.le_refl _) rfl (by decide), (below_box V _).size⟩
  clear c0 c1 c2 c3 c5 c6 c7 c8 c9 hnX
  go_upto_region 5 with (at_builtin; refine RowK.wpList_app (k := kX) (B := V.heap.size) (l := []) rfl (.tmp 17) (.tmp 24) rfl rfl HEM.out.1 a.sa nX X a.sc rfl HNX.out.symm HXV.out.1 HXV.out.2.1 (by have := HXV.out.2.2; simp; omega) HEM.out.2 ?_; intro v8 w8 hA; obtain ⟨a8, c8, hv8, ho8, hb8⟩ := emp_app hA; rw [← HNX.out] at hv8; subst hv8; have HO8 := Lib.hid ho8; have HB8 := Lib.hid hb8; have hbk := (HSW.out.1.below hb8).mm.c.blk; have y6 := cell_of_blk hbk 6; have g6 := frozen_of_blk hbk 6; have gl := (Array.getElem?_eq_some_iff.1 hbk).1; simp only [← HTB.out.1] at y6 g6 gl; simp [Rm.cells] at y6; clear hbk ho8 hb8 hA)
  clear c4 cl d0 dl y6 g6 gl
  have hSR : RqA (w8.setCell ⟨tb, 6, none⟩ (.slice a8 nX c8)) ⟨{ a.m with wa := wa, wc := wc, ra := a8, rc := c8 }, a.sa, a.sc⟩ { R with W := outX X, R := X } X rb room v L ∧ RqT V (w8.setCell ⟨tb, 6, none⟩ (.slice a8 nX c8)) ⟨{ a.m with wa := wa, wc := wc }, a.sa, a.sc⟩ ⟨{ a.m with wa := wa, wc := wc, ra := a8, rc := c8 }, a.sa, a.sc⟩ rb v v := by
    have ho := HO8.out
    rw [HNX.out, HTB.out.1]
    exact HSW.out.1.setR HB8.out ho
  obtain ⟨V2, hV2⟩ : ∃ V, V = w8.setCell ⟨tb, 6, none⟩ (.slice a8 nX c8) := ⟨_, rfl⟩
  rw [← hV2] at hSR ⊢
  obtain ⟨a2, ha2⟩ : ∃ x : Ra, x = ⟨{ a.m with wa := wa, wc := wc, ra := a8, rc := c8 }, a.sa, a.sc⟩ := ⟨_, rfl⟩
  have HT2 : Hid (a2.m.tb = tb) := Lib.hid (by rw [ha2, HTB.out.1])
  rw [← ha2] at hSR
  have HSR := Lib.hid hSR
  clear hV2 hSR ha2
  have b2 := HSR.out.1.mm.c.blk
  have k2 := cell_of_blk b2 2
  have k3 := cell_of_blk b2 3
  have f2 := frozen_of_blk b2 2
  have f3 := frozen_of_blk b2 3
  have kl := (Array.getElem?_eq_some_iff.1 b2).1
  simp only [HT2.out] at k2 k3 f2 f3 kl
  simp [Rm.cells] at k2 k3
  clear b2
  go_upto_region 7 with fail
  have hP := HSR.out.1.own (HSR.out.1.mm.c.setPh 1).1 (HSR.out.1.mm.c.setPh 1).2
  have hI := hP.1.own (hP.1.mm.c.setI 0).1 (hP.1.mm.c.setI 0).2
  rw [HT2.out] at hP hI
  obtain ⟨V3, hV3⟩ : ∃ V, V = (V2.setCell ⟨tb, 2, none⟩ (.int .i64 1)).setCell ⟨tb, 3, none⟩ (.int .i64 (0 : Nat)) := ⟨_, rfl⟩
  rw [← hV3] at hI
  have HI : Hid (RqA V3 a2 { R with W := outX X, R := X, ph := 1, i := 0 } X rb room v L ∧ RqT w V3 a a2 rb v v) := Lib.hid ⟨hI.1, (HSW.out.2.trans HSR.out.2).trans (hP.2.trans hI.2)⟩
  have hV4 : (V2.setCell ⟨tb, 2, none⟩ (.int .i64 1)).setCell ⟨tb, 3, none⟩ (.int .i64 0) = V3 := by rw [hV3]; rfl
  rw [hV4]
  have HSK : Hid (Calls Tryz.prog 66 #[.pointer (some ⟨tb, 0, none⟩)] V3 (RnPost V3 a2.m (skipR { R with W := outX X, R := X, ph := 1, i := 0 }))) := Lib.hid (by
    rw [← HT2.out]
    exact r20skip_any HI.out.1.mm.c)
  clear hP hI hV3 hV4 k2 k3 f2 f3 kl
  go_wp2_with (go_at_call 66; refine HSK.out.mono ?_; rintro e u2 ⟨rfl, hc2, hg2⟩; have HT3 := Lib.hid (HI.out.1.own hc2 hg2); clear hc2 hg2)
  go_ret
  exact .inr ⟨HPH.out.symm, rfl, _, _, HT3.out.1, HI.out.2.trans HT3.out.2⟩
end
end Go.Proofs.YtkhkdedjffkhdaaGreat
namespace Go.Proofs.YtkhkdedjffkhdaaGreat
open Go.RowKit Go.Maps

section
variable {w w1 w2 w' : World} {a a' : Ra} {R R' : Rn} {X X' : List Rx} {rb room : Nat} {v v' v2 : Value} {L L' L2 : List (Ky × Cl)} {k : Ky}
theorem RqP.from (ht : RqT w w2 a a rb v v2) (hp : RqP w2 a R' X rb room v2 L' w') : RqP w a R' X rb room v L' w' := by
  obtain ⟨a', v', h1, h2⟩ := hp
  exact ⟨a', v', h1, ht.trans h2⟩
/-- the step's number and the count of steps are written -/
theorem RqA.step1 (h : RqA w a R X rb room v L) (i n : Nat) : RqA ((w.setCell ⟨a.m.tb, 3, none⟩ (.int .i64 i)).setCell ⟨a.m.tb, 9, none⟩ (.int .i64 n)) a { R with i := i, n := n } X rb room v L ∧ RqT w ((w.setCell ⟨a.m.tb, 3, none⟩ (.int .i64 i)).setCell ⟨a.m.tb, 9, none⟩ (.int .i64 n)) a a rb v v := by
  have h1 := h.own (h.mm.c.setI i).1 (h.mm.c.setI i).2
  have h2 := h1.1.own (h1.1.mm.c.setN n).1 (h1.1.mm.c.setN n).2
  exact ⟨h2.1, h1.2.trans h2.2⟩
/-- what a step leaves -/
def StR (w : World) (a : Ra) (X : List Rx) (rb room : Nat) (v : Value) (code : Int) (R : Rn) (L : List (Ky × Cl)) (e : Ending) (w' : World) : Prop :=
  e = .returned (.int .i64 code) ∧ RqP w a R X rb room v L w'
theorem lockL_cases (room : Nat) (L : List (Ky × Cl)) (k : Ky) (who : Int) : ((lockL room L k who).2.1 = 0) ∨ ((lockL room L k who).2.1 = 50 ∧ (lockL room L k who).2.2 = L) ∨ ((lockL room L k who).2.1 = 60 ∧ (lockL room L k who).2.2 = L) := by
  unfold lockL
  cases lookL L k with
  | none =>
    by_cases h : room ≤ L.length
    · simp [h]
    · simp [h]
  | some x =>
    cases h : x.lk
    · simp [h]
    · simp [h]
theorem RnC.rowW {m : Rm} (h : RnC w m R) {x : Wr} {i : Nat} (hx : R.W[i]? = some x) : ∃ b, m.wa = some ⟨b, 0, none⟩ ∧ kW.At w b 0 R.W := by
  obtain ⟨b, c, e, _, _, hat⟩ := h.wo.at' (fun e => by rw [e] at hx; simp at hx)
  injection e with e1
  exact ⟨b, e1, hat⟩
theorem RnC.rowR {m : Rm} (h : RnC w m R) {x : Rx} {i : Nat} (hx : R.R[i]? = some x) : ∃ b, m.ra = some ⟨b, 0, none⟩ ∧ kX.At w b 0 R.R := by
  obtain ⟨b, c, e, _, _, hat⟩ := h.ro.at' (fun e => by rw [e] at hx; simp at hx)
  injection e with e1
  exact ⟨b, e1, hat⟩
def LkR (w : World) (a : Ra) (R : Rn) (X : List Rx) (rb room : Nat) (v : Value) (L : List (Ky × Cl)) (k : Ky) (e : Ending) (w' : World) : Prop :=
  ((lockL room L k R.who).2.1 = 0 ∧ StR w a X rb room v 0 (skipR { R with most := max R.most (lockL room L k R.who).1, i := R.i + 1, n := R.n + 1 }) (lockL room L k R.who).2.2 e w') ∨
  ((lockL room L k R.who).2.1 = 50 ∧ StR w a X rb room v 50 { R with ph := 6 } (ovL L R.who) e w') ∨
  ((lockL room L k R.who).2.1 = 60 ∧ StR w a X rb room v 60 R L e w')
set_option maxRecDepth 100000 in
set_option maxHeartbeats 4000000 in
theorem r20step_lock (h : RqA w a R X rb room v L) (last : Nat) (ep : Int) (hp : R.ph = 1) {x : Wr} (hx : R.W[R.i]? = some x) (hi : R.i ≤ 1000000) (hn : R.n ≤ 1000000) (hok : ∀ q ∈ L, q.1.Ok) (hl : L.length ≤ 1000) :
    Calls Tryz.prog 29 #[.pointer (some ⟨a.m.tb, 0, none⟩), .int .u64 last, .int .i64 ep] w (LkR w a R X rb room v L x.k) := by
  obtain ⟨c0, c1, c2, c3, c4, c5, c6, c7, c8, c9, cl⟩ := h.mm.c.cell
  obtain ⟨b, hwa, hat⟩ := h.mm.c.rowW hx
  obtain ⟨tb, htb⟩ : ∃ b, b = a.m.tb := ⟨_, rfl⟩
  obtain ⟨who, hwho⟩ : ∃ b, b = R.who := ⟨_, rfl⟩
  obtain ⟨i, hi0⟩ : ∃ b, b = R.i := ⟨_, rfl⟩
  obtain ⟨nW, hnW⟩ : ∃ b, b = R.W.length := ⟨_, rfl⟩
  have hin : (i : Int) < (nW : Int) := by have := (List.getElem?_eq_some_iff.1 hx).1; omega
  have hin0 : decide ((i : Int) < 0) = false := decide_eq_false (by omega)
  obtain ⟨s, c, L', hlk⟩ : ∃ s c L', lockL room L x.k R.who = (s, c, L') := ⟨_, _, _, rfl⟩
  have HLK : Hid (Calls Tryz.prog 67 #[.pointer (some ⟨rb, 0, none⟩), .agg #[.int .i64 x.k.kind, .int .i64 x.k.a, .int .i64 x.k.b, .string x.k.s], .int .i64 who] w.drew (fun e w' => e = .returned (.tuple #[.int .u64 s, .int .i64 c]) ∧ RPost w.drew rb 0 room v L' w')) := Lib.hid (by
    have h9 := rlock_any rb 0 room v L x.k R.who w.drew (h.below (Below.refl _ _).drew).st (Nat.zero_le _) (by omega)
    unfold RLk at h9
    rw [hlk] at h9
    rw [hwho]
    exact h9)
  have HCS : Hid (c = 0 ∨ (c = 50 ∧ L' = L) ∨ (c = 60 ∧ L' = L)) := Lib.hid (by
    have h9 := lockL_cases room L x.k R.who
    rw [hlk] at h9
    exact h9)
  have HPO : Hid (∀ e w', ((c = 0 ∧ StR w a X rb room v 0 (skipR { R with most := max R.most s, i := R.i + 1, n := R.n + 1 }) L' e w') ∨ (c = 50 ∧ StR w a X rb room v 50 { R with ph := 6 } (ovL L R.who) e w') ∨ (c = 60 ∧ StR w a X rb room v 60 R L e w')) → LkR w a R X rb room v L x.k e w') := Lib.hid (fun e w' h9 => by
    unfold LkR
    rw [hlk]
    exact h9)
  have HA := Lib.hid h
  have HE : Hid (tb = a.m.tb ∧ nW = R.W.length ∧ who = R.who ∧ i = R.i ∧ R.W[R.i]? = some x ∧ a.m.cb = rb) := Lib.hid ⟨htb, hnW, hwho, hi0, hx, h.cb⟩
  have HWA : Hid (a.m.wa = some ⟨b, 0, none⟩) := Lib.hid hwa
  have HN : Hid (R.n ≤ 1000000 ∧ R.i ≤ 1000000 ∧ (∀ q ∈ L, q.1.Ok) ∧ L.length ≤ 1000) := Lib.hid ⟨hn, hi, hok, hl⟩
  have HS0 : Hid (∀ u, RqM u a R X → u.cell? ⟨tb, 0, none⟩ = some (.pointer (some ⟨rb, 0, none⟩)) ∧ u.cell? ⟨tb, 1, none⟩ = some (.int .i64 who) ∧ u.cell? ⟨tb, 5, none⟩ = some (.slice (some ⟨b, 0, none⟩) nW a.m.wc) ∧ u.cell? ⟨tb, 3, none⟩ = some (.int .i64 i) ∧ tb < u.heap.size ∧ u.cell? ⟨b, i * 6, none⟩ = some (.int .i64 x.k.kind) ∧ u.cell? ⟨b, i * 6 + 1, none⟩ = some (.int .i64 x.k.a) ∧ u.cell? ⟨b, i * 6 + 2, none⟩ = some (.int .i64 x.k.b) ∧ u.cell? ⟨b, i * 6 + 3, none⟩ = some (.string x.k.s) ∧ b < u.heap.size) := Lib.hid (fun u hu => by
    obtain ⟨k0, k1, _, k3, _, k5, _, _, _, _, kl⟩ := hu.c.cell
    obtain ⟨b', hb', hat'⟩ := hu.c.rowW HE.out.2.2.2.2.1
    obtain rfl : b' = b := by rw [HWA.out] at hb'; injection hb' with hb'; injection hb' with hb'; exact hb'.symm
    obtain ⟨g0, g1, g2, g3, _, _⟩ := kW_cells hat' HE.out.2.2.2.2.1
    rw [HWA.out, ← HE.out.2.1] at k5
    rw [← HE.out.1] at k0 k1 k3 k5 kl
    rw [HE.out.2.2.2.2.2] at k0
    rw [← HE.out.2.2.1] at k1
    rw [← HE.out.2.2.2.1] at k3 g0 g1 g2 g3
    simp only [Nat.zero_add] at g0 g1 g2 g3
    exact ⟨k0, k1, k5, k3, kl, g0, g1, g2, g3, hat'.lt⟩)
  rw [← htb] at c2 cl ⊢
  rw [hp] at c2
  obtain ⟨k0, k1, k5, k3, kl, g0, g1, g2, g3, gl⟩ := HS0.out w h.mm
  clear h hp hx hi hn hok hl hwa hat htb hwho hi0 hnW c0 c1 c3 c4 c5 c6 c7 c8 c9 hlk kl
  go_enter Tryz.func29, Tryz.ntmps29
  go_upto_region 2 with fail
  go_region_held3 (fun u => u.cell? ⟨tb, 0, none⟩ = some (.pointer (some ⟨rb, 0, none⟩)) ∧ u.cell? ⟨tb, 1, none⟩ = some (.int .i64 who) ∧ u.cell? ⟨tb, 5, none⟩ = some (.slice (some ⟨b, 0, none⟩) nW a.m.wc) ∧ u.cell? ⟨tb, 3, none⟩ = some (.int .i64 i) ∧ tb < u.heap.size ∧ u.cell? ⟨b, i * 6, none⟩ = some (.int .i64 x.k.kind) ∧ u.cell? ⟨b, i * 6 + 1, none⟩ = some (.int .i64 x.k.a) ∧ u.cell? ⟨b, i * 6 + 2, none⟩ = some (.int .i64 x.k.b) ∧ u.cell? ⟨b, i * 6 + 3, none⟩ = some (.string x.k.s) ∧ b < u.heap.size)
    (first | exact HS0.out _ (HA.out.mm.below (Below.refl _ _).drew) | exact HS0.out _ HA2.out.1.mm)
    ((go_at_call 67; refine HLK.out.mono ?_; rintro e w2 ⟨rfl, hp⟩; obtain ⟨v2, hv2⟩ := (HA.out.below (Below.refl _ _).drew).store hp; have HA2 : Hid (RqA w2 a R X rb room v2 L' ∧ RqT w w2 a a rb v v2) := Lib.hid ⟨hv2.1, (RqT.below (Below.refl _ _).drew a rb v).trans hv2.2⟩; clear hp hv2))
  all_goals (
    clear k0 k1 k5 k3 g0 g1 g2 g3 gl c2 cl
    rcases HCS.out with rfl | ⟨rfl, hLL⟩ | ⟨rfl, hLL⟩
    · have HTOP : Hid (Calls Tryz.prog 57 #[.pointer (some ⟨tb, 0, none⟩), .int .u64 s] w2 (RnPost w2 a.m { R with most := max R.most s })) := Lib.hid (by
        rw [HE.out.1]; exact r20top_any HA2.out.1.mm.c s)
      go_upto_region 8 with (go_at_call 57; refine HTOP.out.mono ?_; rintro e u2 ⟨rfl, hc2, hg2⟩; have hO := HA2.out.1.own hc2 hg2; have HT2 := Lib.hid (And.intro hO.1 (HA2.out.2.trans hO.2)); clear hc2 hg2 hO)
      obtain ⟨n0, hn0⟩ : ∃ x, x = R.n := ⟨_, rfl⟩
      obtain ⟨_, _, c2, c3, _, _, _, _, _, c9, cl⟩ := HT2.out.1.mm.c.cell
      have f9 := frozen_of_blk HT2.out.1.mm.c.blk 9
      have f3 := frozen_of_blk HT2.out.1.mm.c.blk 3
      have wn : IntKind.i64.wrap ((n0 : Int) + 1) = (n0 : Int) + 1 := IntWalk.i64_in _ (by have := HN.out; omega)
      have wi : IntKind.i64.wrap ((i : Int) + 1) = (i : Int) + 1 := IntWalk.i64_in _ (by have := HN.out; have := HE.out; omega)
      simp only [← hn0, ← HE.out.1, ← HE.out.2.2.2.1] at c3 c9 cl f9 f3
      have HN0 : Hid (n0 = R.n) := Lib.hid hn0
      clear hn0 c2
      go_upto_region 30 with fail
      have hS := HT2.out.1.step1 (i + 1) (n0 + 1)
      rw [← HE.out.1, HN0.out, HE.out.2.2.2.1] at hS
      have hV : (u2.setCell ⟨tb, 3, none⟩ (.int .i64 ((i : Int) + 1))).setCell ⟨tb, 9, none⟩ (.int .i64 ((n0 : Int) + 1)) = (u2.setCell ⟨tb, 3, none⟩ (.int .i64 (R.i + 1 : Nat))).setCell ⟨tb, 9, none⟩ (.int .i64 (R.n + 1 : Nat)) := by rw [HN0.out, HE.out.2.2.2.1]; rfl
      rw [hV]
      obtain ⟨V, hV2⟩ : ∃ V, V = (u2.setCell ⟨tb, 3, none⟩ (.int .i64 (R.i + 1 : Nat))).setCell ⟨tb, 9, none⟩ (.int .i64 (R.n + 1 : Nat)) := ⟨_, rfl⟩
      rw [← hV2] at hS ⊢
      have HV : Hid (RqA V a { R with most := max R.most s, i := R.i + 1, n := R.n + 1 } X rb room v2 L' ∧ RqT w V a a rb v v2) := Lib.hid ⟨hS.1, HT2.out.2.trans hS.2⟩
      have HSK : Hid (Calls Tryz.prog 66 #[.pointer (some ⟨tb, 0, none⟩)] V (RnPost V a.m (skipR { R with most := max R.most s, i := R.i + 1, n := R.n + 1 }))) := Lib.hid (by
        rw [HE.out.1]; exact r20skip_any HV.out.1.mm.c)
      clear hS hV hV2 c3 c9 cl f9 f3
      go_wp2_with (go_at_call 66; refine HSK.out.mono ?_; rintro e u3 ⟨rfl, hc2, hg2⟩; have hO := HV.out.1.own hc2 hg2; have HT3 := Lib.hid (And.intro hO.1 (HV.out.2.trans hO.2)); clear hc2 hg2 hO)
      go_ret
      exact HPO.out _ _ (.inl ⟨(by first | rfl | trivial), rfl, _, _, HT3.out⟩)
    · have HOV : Hid (Calls Tryz.prog 68 #[.pointer (some ⟨tb, 0, none⟩)] w2 (OvR w2 a R X rb room v2 L)) := Lib.hid (by
        have h9 := HA2.out.1
        rw [hLL] at h9
        rw [HE.out.1]
        exact r20over_any h9 HN.out.2.2.1 HN.out.2.2.2)
      clear hLL
      go_wp2_with (go_at_call 68; refine HOV.out.mono ?_; rintro e w3 ⟨rfl, hp2⟩; have HP2 := Lib.hid (RqP.from HA2.out.2 hp2); clear hp2)
      go_ret
      exact HPO.out _ _ (.inr (.inl ⟨(by first | rfl | trivial), rfl, HP2.out⟩))
    · have HP3 : Hid (RqP w a R X rb room v L w2) := Lib.hid (by
        have h9 := HA2.out
        rw [hLL] at h9
        exact ⟨_, _, h9⟩)
      clear hLL
      go_wp2_with fail
      go_ret
      exact HPO.out _ _ (.inr (.inr ⟨(by first | rfl | trivial), rfl, HP3.out⟩)))
end
end Go.Proofs.YtkhkdedjffkhdaaGreat
namespace Go.Proofs.YtkhkdedjffkhdaaGreat
open Go.RowKit Go.Maps

section
variable {w w1 w2 w' : World} {a a' : Ra} {R R' : Rn} {X X' : List Rx} {rb room : Nat} {v v' v2 : Value} {L L' L2 : List (Ky × Cl)} {k : Ky}
theorem RnC.setSt {m : Rm} (h : RnC w m R) (st : Nat) : RnC (w.setCell ⟨m.tb, 7, none⟩ (.int .u64 st)) m { R with st := st } ∧ Chg w (w.setCell ⟨m.tb, 7, none⟩ (.int .u64 st)) (fun j => j = m.tb) := by
  have hc : Chg w (w.setCell ⟨m.tb, 7, none⟩ (.int .u64 st)) (fun j => j = m.tb) := (Chg.refl w (fun j => j = m.tb)).setCell (p := ⟨m.tb, 7, none⟩) (fun _ => rfl) _
  refine ⟨h.upd hc ?_ rfl rfl, hc⟩
  rw [blk_setCell h.blk _]
  simp [Rm.cells]
theorem RqA.step3 (h : RqA w a R X rb room v L) (st n : Nat) : RqA ((((w.setCell ⟨a.m.tb, 7, none⟩ (.int .u64 st)).setCell ⟨a.m.tb, 2, none⟩ (.int .i64 3)).setCell ⟨a.m.tb, 3, none⟩ (.int .i64 (0 : Nat))).setCell ⟨a.m.tb, 9, none⟩ (.int .i64 n)) a { R with st := st, ph := 3, i := 0, n := n } X rb room v L ∧ RqT w ((((w.setCell ⟨a.m.tb, 7, none⟩ (.int .u64 st)).setCell ⟨a.m.tb, 2, none⟩ (.int .i64 3)).setCell ⟨a.m.tb, 3, none⟩ (.int .i64 (0 : Nat))).setCell ⟨a.m.tb, 9, none⟩ (.int .i64 n)) a a rb v v := by
  have h1 := h.own (h.mm.c.setSt st).1 (h.mm.c.setSt st).2
  have h2 := h1.1.own (h1.1.mm.c.setPh 3).1 (h1.1.mm.c.setPh 3).2
  have h3 := h2.1.step1 0 n
  exact ⟨h3.1, (h1.2.trans h2.2).trans h3.2⟩
def TkR (w : World) (a : Ra) (R : Rn) (X : List Rx) (rb room : Nat) (v : Value) (L : List (Ky × Cl)) (mx : Nat) (q : Nat × Int) (e : Ending) (w' : World) : Prop :=
  (q.2 = 0 ∧ StR w a X rb room v 0 (skipR { R with most := mx, st := q.1, ph := 3, i := 0, n := R.n + 1 }) L e w') ∨
  (q.2 ≠ 0 ∧ StR w a X rb room v q.2 { R with most := mx, ph := 6 } (ovL L R.who) e w')
set_option maxRecDepth 100000 in
set_option maxHeartbeats 4000000 in
theorem r20step_take (h : RqA w a R X rb room v L) (last : Nat) (ep : Int) (hlast : last < 18446744073709551616) (hp : R.ph = 2) (hm : Sm R.most) (hn : R.n ≤ 1000000) (hok : ∀ q ∈ L, q.1.Ok) (hl : L.length ≤ 1000) :
    Calls Tryz.prog 29 #[.pointer (some ⟨a.m.tb, 0, none⟩), .int .u64 last, .int .i64 ep] w (TkR w a R X rb room v L (max R.most (mo last)) (nextW (max R.most (mo last)) ep)) := by
  obtain ⟨c0, c1, c2, c3, c4, c5, c6, c7, c8, c9, cl⟩ := h.mm.c.cell
  obtain ⟨tb, htb⟩ : ∃ b, b = a.m.tb := ⟨_, rfl⟩
  obtain ⟨l0, hl0⟩ : ∃ b, b = mo last := ⟨_, rfl⟩
  obtain ⟨mx, hmx⟩ : ∃ b, b = max R.most (mo last) := ⟨_, rfl⟩
  obtain ⟨st, code, hq⟩ : ∃ st code, nextW mx ep = (st, code) := ⟨_, _, rfl⟩
  have hlt : mo last < 4611686018427387904 := mo_lt last
  have hrem : (last : Int).tmod 4611686018427387904 = (l0 : Int) := by
    rw [Int.tmod_eq_emod_of_nonneg (by omega), hl0]
    unfold mo
    omega
  have wl : IntKind.u64.wrap (l0 : Int) = (l0 : Int) := IntWalk.u64_in _ (by rw [hl0]; omega)
  have hmx2 : mx < 4611686018427387904 := by rw [hmx]; unfold Sm at hm; omega
  have HNX : Hid (∀ u : World, Calls Tryz.prog 69 #[.int .u64 mx, .int .i64 ep] u fun r w' => r = .returned (.tuple #[.int .u64 st, .int .i64 code]) ∧ Below u.heap.size u w') := Lib.hid (fun u => by
    have h9 := r4next_any mx ep u hmx2
    rw [hq] at h9
    exact h9)
  have HTOP : Hid (Calls Tryz.prog 57 #[.pointer (some ⟨tb, 0, none⟩), .int .u64 l0] w (RnPost w a.m { R with most := mx })) := Lib.hid (by
    rw [htb, hl0, hmx]; exact r20top_any h.mm.c (mo last))
  have HA := Lib.hid h
  have HE : Hid (tb = a.m.tb) := Lib.hid htb
  have HN : Hid (R.n ≤ 1000000 ∧ (∀ q ∈ L, q.1.Ok) ∧ L.length ≤ 1000) := Lib.hid ⟨hn, hok, hl⟩
  rw [← hmx, hq]
  rw [← htb] at c2 cl ⊢
  rw [hp] at c2
  clear h hp hn hok hl htb hl0 hmx hq hlt hmx2 hm c0 c1 c3 c4 c5 c6 c7 c8 c9 hlast
  go_enter Tryz.func29, Tryz.ntmps29
  go_upto_region 11 with (go_at_call 57; refine HTOP.out.mono ?_; rintro e u2 ⟨rfl, hc2, hg2⟩; have hO := HA.out.own hc2 hg2; have HT2 := Lib.hid hO; clear hc2 hg2 hO)
  obtain ⟨_, _, k2, _, _, _, _, _, k8, _, kl⟩ := HT2.out.1.mm.c.cell
  simp only [← HE.out] at k2 k8 kl
  clear c2 cl k2
  go_upto_region 12 with (go_at_call 69; refine (HNX.out _).mono ?_; rintro e u3 ⟨rfl, hb⟩; have HT3 := Lib.hid (And.intro (HT2.out.1.below hb) (HT2.out.2.trans (RqT.below hb a rb v))); clear hb)
  by_cases hc : code = 0
  · subst hc
    obtain ⟨n0, hn0⟩ : ∃ x, x = R.n := ⟨_, rfl⟩
    obtain ⟨_, _, c2, c3, _, _, _, c7, _, c9, cl⟩ := HT3.out.1.mm.c.cell
    have f9 := frozen_of_blk HT3.out.1.mm.c.blk 9
    have f3 := frozen_of_blk HT3.out.1.mm.c.blk 3
    have f2 := frozen_of_blk HT3.out.1.mm.c.blk 2
    have f7 := frozen_of_blk HT3.out.1.mm.c.blk 7
    have wn : IntKind.i64.wrap ((n0 : Int) + 1) = (n0 : Int) + 1 := IntWalk.i64_in _ (by have := HN.out; omega)
    simp only [← hn0, ← HE.out] at c2 c3 c7 c9 cl f9 f3 f2 f7
    have HN0 : Hid (n0 = R.n) := Lib.hid hn0
    clear hn0 k8 kl
    go_upto_region 30 with fail
    have hS := HT3.out.1.step3 st (n0 + 1)
    rw [← HE.out, HN0.out] at hS
    have hV : (((u3.setCell ⟨tb, 7, none⟩ (.int .u64 st)).setCell ⟨tb, 2, none⟩ (.int .i64 3)).setCell ⟨tb, 3, none⟩ (.int .i64 0)).setCell ⟨tb, 9, none⟩ (.int .i64 ((n0 : Int) + 1)) = (((u3.setCell ⟨tb, 7, none⟩ (.int .u64 st)).setCell ⟨tb, 2, none⟩ (.int .i64 3)).setCell ⟨tb, 3, none⟩ (.int .i64 (0 : Nat))).setCell ⟨tb, 9, none⟩ (.int .i64 (R.n + 1 : Nat)) := by rw [HN0.out]; rfl
    rw [hV]
    obtain ⟨V, hV2⟩ : ∃ V, V = (((u3.setCell ⟨tb, 7, none⟩ (.int .u64 st)).setCell ⟨tb, 2, none⟩ (.int .i64 3)).setCell ⟨tb, 3, none⟩ (.int .i64 (0 : Nat))).setCell ⟨tb, 9, none⟩ (.int .i64 (R.n + 1 : Nat)) := ⟨_, rfl⟩
    rw [← hV2] at hS ⊢
    have HV : Hid (RqA V a { R with most := mx, st := st, ph := 3, i := 0, n := R.n + 1 } X rb room v L ∧ RqT w V a a rb v v) := Lib.hid ⟨hS.1, HT3.out.2.trans hS.2⟩
    have HSK : Hid (Calls Tryz.prog 66 #[.pointer (some ⟨tb, 0, none⟩)] V (RnPost V a.m (skipR { R with most := mx, st := st, ph := 3, i := 0, n := R.n + 1 }))) := Lib.hid (by
      rw [HE.out]; exact r20skip_any HV.out.1.mm.c)
    clear hS hV hV2 c2 c3 c7 c9 cl f9 f3 f2 f7
    go_wp2_with (go_at_call 66; refine HSK.out.mono ?_; rintro e u4 ⟨rfl, hc2, hg2⟩; have hO := HV.out.1.own hc2 hg2; have HT4 := Lib.hid (And.intro hO.1 (HV.out.2.trans hO.2)); clear hc2 hg2 hO)
    go_ret
    exact .inl ⟨rfl, rfl, _, _, HT4.out⟩
  · have t1 : (code == 0) = false := by simpa using hc
    have t2 : (code != 0) = true := by simpa using hc
    have HC := Lib.hid hc
    have HOV : Hid (Calls Tryz.prog 68 #[.pointer (some ⟨tb, 0, none⟩)] u3 (OvR u3 a { R with most := mx } X rb room v L)) := Lib.hid (by
      rw [HE.out]
      exact r20over_any HT3.out.1 HN.out.2.1 HN.out.2.2)
    clear hc k8 kl
    go_wp2_with (go_at_call 68; refine HOV.out.mono ?_; rintro e w3 ⟨rfl, hp2⟩; have HP2 := Lib.hid (RqP.from HT3.out.2 hp2); clear hp2)
    go_ret
    exact .inr ⟨HC.out, rfl, HP2.out⟩
set_option maxRecDepth 100000 in
theorem r20step_late (h : RqA w a R X rb room v L) (last : Nat) (ep : Int) (h1 : R.ph ≠ 1) (h2 : R.ph ≠ 2) (h3 : R.ph ≠ 3) (h4 : R.ph ≠ 4) :
    Calls Tryz.prog 29 #[.pointer (some ⟨a.m.tb, 0, none⟩), .int .u64 last, .int .i64 ep] w fun e w' => e = .returned (.int .i64 200) ∧ w = w' := by
  obtain ⟨c0, c1, c2, c3, c4, c5, c6, c7, c8, c9, cl⟩ := h.mm.c.cell
  obtain ⟨ph, hph⟩ : ∃ b, b = R.ph := ⟨_, rfl⟩
  rw [← hph] at c2 h1 h2 h3 h4
  have t1 : (ph == 1) = false := by simpa using h1
  have t2 : (ph == 2) = false := by simpa using h2
  have t3 : (ph == 3) = false := by simpa using h3
  have t4 : (ph == 4) = false := by simpa using h4
  clear h hph h1 h2 h3 h4 c0 c1 c3 c4 c5 c6 c7 c8 c9
  go_enter Tryz.func29, Tryz.ntmps29
  go_wp2_with fail
  go_ret
  exact ⟨rfl, rfl⟩
set_option maxRecDepth 100000 in
theorem r20abort_late (h : RqA w a R X rb room v L) (hp : 4 ≤ R.ph) : Calls Tryz.prog 31 #[.pointer (some ⟨a.m.tb, 0, none⟩)] w fun e w' => e = .returned (.int .i64 200) ∧ w = w' := by
  obtain ⟨c0, c1, c2, c3, c4, c5, c6, c7, c8, c9, cl⟩ := h.mm.c.cell
  obtain ⟨ph, hph⟩ : ∃ p, p = R.ph := ⟨_, rfl⟩
  rw [← hph] at c2 hp
  have t1 : decide (4 ≤ ph) = true := decide_eq_true hp
  have t2 : decide (ph < 4) = false := decide_eq_false (by omega)
  clear h hph c0 c1 c3 c4 c5 c6 c7 c8 c9
  go_enter Tryz.func31, Tryz.ntmps31
  go_wp2_with fail
  go_ret
  exact ⟨rfl, rfl⟩
set_option maxRecDepth 100000 in
theorem r20abort_ok (h : RqA w a R X rb room v L) (hp : R.ph < 4) (hok : ∀ q ∈ L, q.1.Ok) (hl : L.length ≤ 1000) : Calls Tryz.prog 31 #[.pointer (some ⟨a.m.tb, 0, none⟩)] w (StR w a X rb room v 0 { R with ph := 6 } (ovL L R.who)) := by
  obtain ⟨c0, c1, c2, c3, c4, c5, c6, c7, c8, c9, cl⟩ := h.mm.c.cell
  have HOV := Lib.hid (r20over_any h hok hl)
  obtain ⟨ph, hph⟩ : ∃ p, p = R.ph := ⟨_, rfl⟩
  rw [← hph] at c2 hp
  have t1 : decide (4 ≤ ph) = false := decide_eq_false (by omega)
  have t2 : decide (ph < 4) = true := decide_eq_true hp
  clear h hph c0 c1 c3 c4 c5 c6 c7 c8 c9 hok hl
  go_enter Tryz.func31, Tryz.ntmps31
  go_wp2_with (go_at_call 68; refine HOV.out.mono ?_; rintro e w3 ⟨rfl, hp2⟩; have HP2 := Lib.hid hp2; clear hp2)
  go_ret
  exact ⟨rfl, HP2.out⟩
end
end Go.Proofs.YtkhkdedjffkhdaaGreat
namespace Go.Proofs.YtkhkdedjffkhdaaGreat
open Go.RowKit Go.Maps

section
variable {w w1 w2 w' : World} {a a' : Ra} {R R' : Rn} {X X' : List Rx} {rb room : Nat} {v v' v2 : Value} {L L' L2 : List (Ky × Cl)} {k : Ky}
theorem there_new {w : World} {g : Nat} {x : Rx} (h : ∃ c : Array Value, c.size = 21 ∧ w.heap[g]? = some (.cells c 133 (0, 0))) : w.there g 0 x.cells.toArray.size := fun j hj => by
  obtain ⟨c, hs, hb⟩ := h
  have hj2 : j < 21 := hj
  refine ⟨?_, frozen_of_blk hb _⟩
  rw [cell_of_blk hb, Array.getElem?_eq_getElem (by omega)]
  rfl
theorem all_new' {w : World} {g : Nat} {t : TypeId} {c : Array Value} (cs : List Value) (hs : c.size = cs.length) (hb : w.heap[g]? = some (.cells c t (0, 0))) : (w.setCells g 0 cs).heap[g]? = some (.cells cs.toArray t (0, 0)) := by
  obtain ⟨c', h1, h2, h3⟩ := blk_setCells cs 0 w c hb
  have e : c' = cs.toArray := by
    apply Array.ext_getElem?
    intro j
    rw [h3 j]
    by_cases e : j < cs.length
    · rw [if_pos ⟨Nat.zero_le _, by omega, by omega⟩, Nat.sub_zero]
      simp
    · rw [if_neg (by omega), Array.getElem?_eq_none (by omega), Array.getElem?_eq_none (by simp; omega)]
  rw [h1, e]
theorem all_new {w : World} {g : Nat} {x : Rx} (h : ∃ c : Array Value, c.size = 21 ∧ w.heap[g]? = some (.cells c 133 (0, 0))) : (w.setCells g 0 x.cells.toArray.toList).heap[g]? = some (.cells x.cells.toArray 133 (0, 0)) := by
  obtain ⟨c, hs, hb⟩ := h
  exact all_new' x.cells hs hb
def ChR (w : World) (a : Ra) (R : Rn) (X : List Rx) (rb room : Nat) (v : Value) (L : List (Ky × Cl)) (q : Bool) (e : Ending) (w' : World) : Prop :=
  (q = true ∧ StR w a X rb room v 0 (skipR { R with i := R.i + 1, n := R.n + 1 }) L e w') ∨
  (q = false ∧ StR w a X rb room v 201 { R with ph := 6 } (ovL L R.who) e w')
set_option maxRecDepth 100000 in
set_option maxHeartbeats 4000000 in
theorem r20step_check (h : RqA w a R X rb room v L) (last : Nat) (ep : Int) (hp : R.ph = 3) {x : Rx} (hx : R.R[R.i]? = some x) (hi : R.i ≤ 1000000) (hn : R.n ≤ 1000000) (hok : ∀ q ∈ L, q.1.Ok) (hl : L.length ≤ 1000) :
    Calls Tryz.prog 29 #[.pointer (some ⟨a.m.tb, 0, none⟩), .int .u64 last, .int .i64 ep] w (ChR w a R X rb room v L (stillV (lookL L x.k) R.who x.s.word x.s.has)) := by
  obtain ⟨c0, c1, c2, c3, c4, c5, c6, c7, c8, c9, cl⟩ := h.mm.c.cell
  obtain ⟨b, hra, hat⟩ := h.mm.c.rowR hx
  obtain ⟨tb, htb⟩ : ∃ b, b = a.m.tb := ⟨_, rfl⟩
  obtain ⟨who, hwho⟩ : ∃ b, b = R.who := ⟨_, rfl⟩
  obtain ⟨i, hi0⟩ : ∃ b, b = R.i := ⟨_, rfl⟩
  obtain ⟨nR, hnR⟩ : ∃ b, b = R.R.length := ⟨_, rfl⟩
  obtain ⟨q, hq⟩ : ∃ q, q = stillV (lookL L x.k) R.who x.s.word x.s.has := ⟨_, rfl⟩
  have hin : (i : Int) < (nR : Int) := by have := (List.getElem?_eq_some_iff.1 hx).1; omega
  have hin0 : decide ((i : Int) < 0) = false := decide_eq_false (by omega)
  have hrg : w.rangeAt b (i * 21) x.cells := by
    have := hat.range hx
    rw [Nat.zero_add, ← hi0] at this
    exact this
  have dl := hat.lt
  have HST : Hid (∀ u, Below w.heap.size w u → Calls Tryz.prog 70 #[.pointer (some ⟨rb, 0, none⟩), .agg #[.int .i64 x.k.kind, .int .i64 x.k.a, .int .i64 x.k.b, .string x.k.s], .int .i64 who, .agg #[.int .u64 x.s.word, .string x.s.val, .bool x.s.has]] u fun e w' => e = .returned (.bool q) ∧ Below u.heap.size u w') := Lib.hid (fun u hu => by
    obtain ⟨aa, cap, _, h2⟩ := row_rv (h.st.below hu)
    rw [hq, hwho]
    exact r9still_any rb cap room aa L x.k R.who x.s.word x.s.val x.s.has u h2)
  have HTC : Hid (∀ u, Below w.heap.size w u → u.cell? ⟨tb, 0, none⟩ = some (.pointer (some ⟨rb, 0, none⟩)) ∧ u.cell? ⟨tb, 1, none⟩ = some (.int .i64 who) ∧ tb < u.heap.size) := Lib.hid (fun u hu => by
    obtain ⟨k0, k1, _, _, _, _, _, _, _, _, kl⟩ := (h.mm.c.below hu).cell
    rw [htb, hwho, ← h.cb]
    exact ⟨k0, k1, kl⟩)
  have HA := Lib.hid h
  have HE : Hid (tb = a.m.tb ∧ i = R.i) := Lib.hid ⟨htb, hi0⟩
  have HN : Hid (R.n ≤ 1000000 ∧ R.i ≤ 1000000 ∧ (∀ q ∈ L, q.1.Ok) ∧ L.length ≤ 1000) := Lib.hid ⟨hn, hi, hok, hl⟩
  rw [← hq]
  rw [hra, ← hnR] at c6
  rw [← hi0] at c3
  rw [hp] at c2
  rw [← htb] at c2 c3 c6 cl ⊢
  have HSS : Hid (∀ u, Below w.heap.size w u → (u.cell? ⟨tb, 3, none⟩ = some (.int .i64 i) ∧ u.cell? ⟨tb, 6, none⟩ = some (.slice (some ⟨b, 0, none⟩) nR a.m.rc) ∧ tb < u.heap.size) ∧ u.rangeAt b (i * 21) x.cells) := Lib.hid (fun u hu => ⟨⟨(World.cell?_of_block (a := ⟨tb, 3, none⟩) (hu.block tb cl)).trans c3, (World.cell?_of_block (a := ⟨tb, 6, none⟩) (hu.block tb cl)).trans c6, Nat.lt_of_lt_of_le cl hu.size⟩, fun j y hy => (World.cell?_of_block (a := ⟨b, _, none⟩) (hu.block b dl)).trans (hrg j y hy)⟩)
  clear h hp hx hi hn hok hl hra hat htb hwho hi0 hnR hq c0 c1 c4 c5 c7 c8 c9 hrg dl c3 c6
  go_enter Tryz.func29, Tryz.ntmps29
  go_upto_region 19 with fail
  go_cut [11] from 96 to 105 (fun s11 wc => ∃ (kb : Nat) (u : World), u = wc ∧ s11 = .pointer (some ⟨kb, 0, none⟩) ∧ Hid (Below w.heap.size w u ∧ u.heap[kb]? = some (.cells x.cells.toArray 133 (0, 0)) ∧ w.heap.size ≤ kb))
  case first =>
    refine wp_region_held_drew (S := (fun u : World => (u.cell? ⟨tb, 3, none⟩ = some (.int .i64 i) ∧ u.cell? ⟨tb, 6, none⟩ = some (.slice (some ⟨b, 0, none⟩) nR a.m.rc) ∧ tb < u.heap.size) ∧ u.rangeAt b (i * 21) x.cells)) (by kernel_rfl) (HSS.out _ (below_drewN (Below.refl _ _) 1)) (fun hHeld => ?_)
    obtain ⟨X1, hGen⟩ : ∃ u, u = World.drew w := ⟨_, rfl⟩
    rw [← hGen] at hHeld ⊢
    have HX1 : Hid (Below w.heap.size w X1) := Lib.hid (by rw [hGen]; exact below_drewN (Below.refl _ _) 1)
    clear hGen
    refine wpAnyH_take (i := 0) (oi := ⟨some 96, _, _, _, _, _⟩) (v := ?vvrs1) rfl (by kernel_rfl) (by kernel_rfl) (by kernel_rfl) (fun _ _ _ h => h) (Or.inl ⟨by rfl, ?yyrs1⟩) hHeld ?rrrs1
    case yyrs1 => (intro wq hSw; (try dsimp only at hSw); go_simp; first | done | with_reducible rfl)
    simp only [Act.put, List.setIfInBounds_toArray, List.set_cons_zero, List.set_cons_succ]
    refine wpAnyH_take (i := 1) (oi := ⟨some 97, _, _, _, _, _⟩) (v := ?vvrs2) rfl (by kernel_rfl) (by kernel_rfl) (by kernel_rfl) (fun _ _ _ h => h) (Or.inl ⟨by rfl, ?yyrs2⟩) hHeld ?rrrs2
    case yyrs2 => (intro wq hSw; (try dsimp only at hSw); go_simp; first | done | with_reducible rfl)
    simp only [Act.put, List.setIfInBounds_toArray, List.set_cons_zero, List.set_cons_succ]
    refine wpAnyH_take (i := 2) (oi := ⟨some 98, _, _, _, _, _⟩) (v := ?vvrs3) rfl (by kernel_rfl) (by kernel_rfl) (by kernel_rfl) (fun _ _ _ h => h) (Or.inl ⟨by rfl, ?yyrs3⟩) hHeld ?rrrs3
    case yyrs3 => (intro wq hSw; (try dsimp only at hSw); go_simp; first | done | with_reducible rfl)
    simp only [Act.put, List.setIfInBounds_toArray, List.set_cons_zero, List.set_cons_succ]
    refine wpAnyH_take (i := 3) (oi := ⟨some 99, _, _, _, _, _⟩) (v := ?vvrs4) rfl (by kernel_rfl) (by kernel_rfl) (by kernel_rfl) (fun _ _ _ h => h) (Or.inl ⟨by rfl, ?yyrs4⟩) hHeld ?rrrs4
    case yyrs4 => (intro wq hSw; (try dsimp only at hSw); go_simp; first | done | with_reducible rfl)
    simp only [Act.put, List.setIfInBounds_toArray, List.set_cons_zero, List.set_cons_succ]
    refine wpAnyH_take (i := 4) (oi := ⟨some 100, _, _, _, _, _⟩) (v := ?vvrs5) rfl (by kernel_rfl) (by kernel_rfl) (by kernel_rfl) (fun _ _ _ h => h) (Or.inl ⟨by rfl, ?yyrs5⟩) hHeld ?rrrs5
    case yyrs5 => (intro wq hSw; (try dsimp only at hSw); go_simp; first | done | with_reducible rfl)
    simp only [Act.put, List.setIfInBounds_toArray, List.set_cons_zero, List.set_cons_succ]
    refine wpAnyH_take (i := 5) (oi := ⟨some 101, _, _, _, _, _⟩) (v := ?vvrs6) rfl (by kernel_rfl) (by kernel_rfl) (by kernel_rfl) (fun _ _ _ h => h) (Or.inl ⟨by rfl, ?yyrs6⟩) hHeld ?rrrs6
    case yyrs6 => (intro wq hSw; (try dsimp only at hSw); go_simp; first | done | with_reducible rfl)
    simp only [Act.put, List.setIfInBounds_toArray, List.set_cons_zero, List.set_cons_succ]
    refine wpAnyH_take (i := 6) (oi := ⟨some 102, _, _, _, _, _⟩) (v := ?vvrs7) rfl (by kernel_rfl) (by kernel_rfl) (by kernel_rfl) (fun _ _ _ h => h) (Or.inl ⟨by rfl, ?yyrs7⟩) hHeld ?rrrs7
    case yyrs7 => (intro wq hSw; (try dsimp only at hSw); go_simp; first | done | with_reducible rfl)
    simp only [Act.put, List.setIfInBounds_toArray, List.set_cons_zero, List.set_cons_succ]
    refine wpAnyH_take (i := 7) (oi := ⟨some 103, _, _, _, _, _⟩) (v := ?vvrs8) rfl (by kernel_rfl) (by kernel_rfl) (by kernel_rfl) (fun _ _ _ h => h) (Or.inl ⟨by rfl, ?yyrs8⟩) hHeld ?rrrs8
    case yyrs8 => (intro wq hSw; (try dsimp only at hSw); go_simp; first | done | with_reducible rfl)
    simp only [Act.put, List.setIfInBounds_toArray, List.set_cons_zero, List.set_cons_succ]
    refine wpAnyH_take (i := 8) (oi := ⟨some 104, _, _, _, _, _⟩) (v := ?vvrs9) rfl (by kernel_rfl) (by kernel_rfl) (by kernel_rfl) (fun _ _ _ h => h) (Or.inl ⟨by rfl, ?yyrs9⟩) hHeld ?rrrs9
    case yyrs9 => (intro wq hSw; (try dsimp only at hSw); go_simp; first | done | with_reducible rfl)
    simp only [Act.put, List.setIfInBounds_toArray, List.set_cons_zero, List.set_cons_succ]
    refine wpAnyH_take (i := 9) (oi := ⟨some 105, _, _, _, _, _⟩) (v := .agg x.cells.toArray) rfl (by kernel_rfl) (by kernel_rfl) (by kernel_rfl) (fun _ _ _ h => h) (yieldsIf_load_mid (by kernel_rfl) 133 (.tmp 104) rfl b (i * 21) rfl x.cells _ (fun _ h => h.2) Tryz.underlying133 rfl sizeRx) hHeld ?_
    simp only [Act.put, List.setIfInBounds_toArray, List.set_cons_zero, List.set_cons_succ]
    refine wpAnyH_ready (rs := [10]) (by kernel_rfl) (by simp) ?_
    refine AllReadyH.cons (o := ⟨some 11, _, _, _, _, _⟩) rfl (fun K hK => ?_) AllReadyH.nil
    go_simp
    obtain ⟨nA, hn⟩ : ∃ u, u = X1.alloc (.cells #[.int .i64 0, .int .i64 0, .int .i64 0, .string ⟨#[]⟩, .int .u64 0, .string ⟨#[]⟩, .bool false, .bool false, .bool false, .int .i64 0, .int .i64 0, .int .i64 0, .string ⟨#[]⟩, .string ⟨#[]⟩, .bool false, .int .i64 0, .int .i64 0, .int .i64 0, .string ⟨#[]⟩, .string ⟨#[]⟩, .bool false] 133) := ⟨_, rfl⟩
    obtain ⟨gA, hg⟩ : ∃ g, g = X1.heap.size := ⟨_, rfl⟩
    rw [← hn, ← hg]
    have HBA : Hid (Below w.heap.size w nA) := Lib.hid (by rw [hn]; exact below_then HX1.out (below_box _ _))
    have EA : Hid (∃ c : Array Value, c.size = 21 ∧ nA.heap[gA]? = some (.cells c 133 (0, 0))) := Lib.hid ⟨_, rfl, by rw [hn, hg]; exact heap_new _ _⟩
    have LA : Hid (w.heap.size ≤ gA) := Lib.hid (by rw [hg]; exact HX1.out.size)
    clear hn hg
    try dsimp only
    refine hK.out _ _ ?ssrs10 (fun hHeld => ?_)
    case ssrs10 => (exact HSS.out _ HBA.out)
    clear hK K
    try simp only [Act.put, List.setIfInBounds_toArray, List.set_cons_zero, List.set_cons_succ]
    refine wpAnyH_ready (rs := [11]) (by kernel_rfl) (by simp) ?_
    refine AllReadyH.cons (o := ⟨none, _, _, _, _, _⟩) rfl (fun K hK => ?_) AllReadyH.nil
    refine wp_store_mid 133 (.tmp 11) (.tmp 105) rfl gA 0 x.cells.toArray rfl rfl (there_new EA.out) sizeRx2 (oneRx x) ?_
    obtain ⟨U, hU⟩ : ∃ u, u = nA.setCells gA 0 x.cells.toArray.toList := ⟨_, rfl⟩
    rw [← hU]
    have HBU : Hid (Below w.heap.size w U) := Lib.hid (by rw [hU]; exact chg_fresh (RowK.chg_setCells gA _ 0 nA) HBA.out (Nat.le_refl _) (fun j hj => by have e : j = gA := hj; rw [e]; exact LA.out))
    have EU : Hid (U.heap[gA]? = some (.cells x.cells.toArray 133 (0, 0))) := Lib.hid (by rw [hU]; exact all_new EA.out)
    clear hU
    try dsimp only
    refine hK.out _ _ ?ssrs11 (fun hHeld => ?_)
    case ssrs11 => (exact HSS.out _ HBU.out)
    clear hK K
    try simp only [Act.put, List.setIfInBounds_toArray, List.set_cons_zero, List.set_cons_succ]
    refine wpAnyH_done (by kernel_rfl) ?_ _
    clear hHeld
    go_wp2_with fail
    go_meet
    exact ⟨_, _, rfl, rfl, Lib.hid ⟨HBU.out, EU.out, LA.out⟩⟩
  case rest =>
  obtain ⟨kb, u, rfl, rfl, HU⟩ := hcut
  clear c2 cl
  have HS : Hid (∀ v, Below u.heap.size u v → Below u.heap.size u v ∧ (v.cell? ⟨kb, 0, none⟩ = some (.int .i64 x.k.kind) ∧ v.cell? ⟨kb, 1, none⟩ = some (.int .i64 x.k.a) ∧ v.cell? ⟨kb, 2, none⟩ = some (.int .i64 x.k.b) ∧ v.cell? ⟨kb, 3, none⟩ = some (.string x.k.s) ∧ v.cell? ⟨kb, 4, none⟩ = some (.int .u64 x.s.word) ∧ v.cell? ⟨kb, 5, none⟩ = some (.string x.s.val) ∧ v.cell? ⟨kb, 6, none⟩ = some (.bool x.s.has) ∧ kb < v.heap.size) ∧ v.cell? ⟨tb, 0, none⟩ = some (.pointer (some ⟨rb, 0, none⟩)) ∧ v.cell? ⟨tb, 1, none⟩ = some (.int .i64 who) ∧ tb < v.heap.size) := Lib.hid (fun v hv => by
    obtain ⟨j0, j1, jl⟩ := HTC.out v (below_then HU.out.1 hv)
    have g1 := (hv.block _ (Array.getElem?_eq_some_iff.1 HU.out.2.1).1).trans HU.out.2.1
    exact ⟨hv, ⟨by rw [cell_of_blk g1]; rfl, by rw [cell_of_blk g1]; rfl, by rw [cell_of_blk g1]; rfl, by rw [cell_of_blk g1]; rfl, by rw [cell_of_blk g1]; rfl, by rw [cell_of_blk g1]; rfl, by rw [cell_of_blk g1]; rfl, (Array.getElem?_eq_some_iff.1 g1).1⟩, j0, j1, jl⟩)
  go_upto_region 20 with fail
  go_region_held3 (fun v => Below u.heap.size u v ∧ (v.cell? ⟨kb, 0, none⟩ = some (.int .i64 x.k.kind) ∧ v.cell? ⟨kb, 1, none⟩ = some (.int .i64 x.k.a) ∧ v.cell? ⟨kb, 2, none⟩ = some (.int .i64 x.k.b) ∧ v.cell? ⟨kb, 3, none⟩ = some (.string x.k.s) ∧ v.cell? ⟨kb, 4, none⟩ = some (.int .u64 x.s.word) ∧ v.cell? ⟨kb, 5, none⟩ = some (.string x.s.val) ∧ v.cell? ⟨kb, 6, none⟩ = some (.bool x.s.has) ∧ kb < v.heap.size) ∧ v.cell? ⟨tb, 0, none⟩ = some (.pointer (some ⟨rb, 0, none⟩)) ∧ v.cell? ⟨tb, 1, none⟩ = some (.int .i64 who) ∧ tb < v.heap.size)
    (first | exact HS.out _ (Below.refl _ _).drew | exact HS.out _ HBC.out)
    ((go_at_call 70; (refine (HST.out _ (below_then HU.out.1 (by go_split_ands; assumption))).mono ?_); rintro e u3 ⟨rfl, hbc⟩; have HBC := Lib.hid (below_then (show Below u.heap.size u _ by go_split_ands; assumption) hbc); clear hbc))
  all_goals (
    have HT3 : Hid (RqA u3 a R X rb room v L ∧ RqT w u3 a a rb v v) := Lib.hid ⟨HA.out.below (below_then HU.out.1 HBC.out), RqT.below (below_then HU.out.1 HBC.out) a rb v⟩
    cases q
    case false =>
      have HOV : Hid (Calls Tryz.prog 68 #[.pointer (some ⟨tb, 0, none⟩)] u3 (OvR u3 a R X rb room v L)) := Lib.hid (by
        rw [HE.out.1]
        exact r20over_any HT3.out.1 HN.out.2.2.1 HN.out.2.2.2)
      go_wp2_with (go_at_call 68; refine HOV.out.mono ?_; rintro e w3 ⟨rfl, hp2⟩; have HP2 := Lib.hid (RqP.from HT3.out.2 hp2); clear hp2)
      go_ret
      exact .inr ⟨rfl, rfl, HP2.out⟩
    case true =>
      obtain ⟨n0, hn0⟩ : ∃ x, x = R.n := ⟨_, rfl⟩
      obtain ⟨_, _, c2, c3, _, _, _, _, _, c9, cl⟩ := HT3.out.1.mm.c.cell
      have f9 := frozen_of_blk HT3.out.1.mm.c.blk 9
      have f3 := frozen_of_blk HT3.out.1.mm.c.blk 3
      have wn : IntKind.i64.wrap ((n0 : Int) + 1) = (n0 : Int) + 1 := IntWalk.i64_in _ (by have := HN.out; omega)
      have wi : IntKind.i64.wrap ((i : Int) + 1) = (i : Int) + 1 := IntWalk.i64_in _ (by have := HN.out; have := HE.out; omega)
      simp only [← hn0, ← HE.out.1, ← HE.out.2] at c3 c9 cl f9 f3
      have HN0 : Hid (n0 = R.n) := Lib.hid hn0
      clear hn0 c2
      go_upto_region 30 with fail
      have hS := HT3.out.1.step1 (i + 1) (n0 + 1)
      rw [← HE.out.1, HN0.out, HE.out.2] at hS
      have hV : (u3.setCell ⟨tb, 3, none⟩ (.int .i64 ((i : Int) + 1))).setCell ⟨tb, 9, none⟩ (.int .i64 ((n0 : Int) + 1)) = (u3.setCell ⟨tb, 3, none⟩ (.int .i64 (R.i + 1 : Nat))).setCell ⟨tb, 9, none⟩ (.int .i64 (R.n + 1 : Nat)) := by rw [HN0.out, HE.out.2]; rfl
      rw [hV]
      obtain ⟨V, hV2⟩ : ∃ V, V = (u3.setCell ⟨tb, 3, none⟩ (.int .i64 (R.i + 1 : Nat))).setCell ⟨tb, 9, none⟩ (.int .i64 (R.n + 1 : Nat)) := ⟨_, rfl⟩
      rw [← hV2] at hS ⊢
      have HV : Hid (RqA V a { R with i := R.i + 1, n := R.n + 1 } X rb room v L ∧ RqT w V a a rb v v) := Lib.hid ⟨hS.1, HT3.out.2.trans hS.2⟩
      have HSK : Hid (Calls Tryz.prog 66 #[.pointer (some ⟨tb, 0, none⟩)] V (RnPost V a.m (skipR { R with i := R.i + 1, n := R.n + 1 }))) := Lib.hid (by
        rw [HE.out.1]; exact r20skip_any HV.out.1.mm.c)
      clear hS hV hV2 c3 c9 cl f9 f3
      go_wp2_with (go_at_call 66; refine HSK.out.mono ?_; rintro e u4 ⟨rfl, hc2, hg2⟩; have hO := HV.out.1.own hc2 hg2; have HT4 := Lib.hid (And.intro hO.1 (HV.out.2.trans hO.2)); clear hc2 hg2 hO)
      go_ret
      exact .inl ⟨rfl, rfl, _, _, HT4.out⟩)
end
end Go.Proofs.YtkhkdedjffkhdaaGreat
namespace Go.Proofs.YtkhkdedjffkhdaaGreat
open Go.RowKit Go.Maps

section
variable {w w1 w2 w' : World} {a a' : Ra} {R R' : Rn} {X X' : List Rx} {rb room : Nat} {v v' v2 : Value} {L L' L2 : List (Ky × Cl)} {k : Ky}
set_option maxRecDepth 100000 in
set_option maxHeartbeats 4000000 in
theorem r20step_install (h : RqA w a R X rb room v L) (last : Nat) (ep : Int) (hp : R.ph = 4) {x : Wr} (hx : (lastW R.W)[R.i]? = some x) (hi : R.i ≤ 1000000) (hn : R.n ≤ 1000000) (hlW : R.W.length ≤ 1000) :
    Calls Tryz.prog 29 #[.pointer (some ⟨a.m.tb, 0, none⟩), .int .u64 last, .int .i64 ep] w (StR w a X rb room v 0 (skipR { R with i := R.i + 1, n := R.n + 1 }) (instL L x.k R.who R.st x.val x.has).2) := by
  obtain ⟨c0, c1, c2, c3, c4, c5, c6, c7, c8, c9, cl⟩ := h.mm.c.cell
  obtain ⟨tb, htb⟩ : ∃ b, b = a.m.tb := ⟨_, rfl⟩
  obtain ⟨who, hwho⟩ : ∃ b, b = R.who := ⟨_, rfl⟩
  obtain ⟨i, hi0⟩ : ∃ b, b = R.i := ⟨_, rfl⟩
  obtain ⟨st, hst⟩ : ∃ b, b = R.st := ⟨_, rfl⟩
  obtain ⟨nW, hnW⟩ : ∃ b, b = R.W.length := ⟨_, rfl⟩
  obtain ⟨wa, hwa⟩ : ∃ b, b = a.m.wa := ⟨_, rfl⟩
  obtain ⟨wc, hwc⟩ : ∃ b, b = a.m.wc := ⟨_, rfl⟩
  obtain ⟨LW, hLW⟩ : ∃ l, l = lastW R.W := ⟨_, rfl⟩
  obtain ⟨L1, hL1⟩ : ∃ l, l = (instL L x.k R.who R.st x.val x.has).2 := ⟨_, rfl⟩
  rw [← hLW] at hx
  have hlen : LW.length = nW := by rw [hLW, hnW]; exact lastW_len _
  have hin : (i : Int) < (nW : Int) := by have := (List.getElem?_eq_some_iff.1 hx).1; omega
  have hin0 : decide ((i : Int) < 0) = false := decide_eq_false (by omega)
  have HIN : Hid (∀ u, Below w.heap.size w u → Calls Tryz.prog 72 #[.pointer (some ⟨rb, 0, none⟩), .agg #[.int .i64 x.k.kind, .int .i64 x.k.a, .int .i64 x.k.b, .string x.k.s], .int .i64 who, .int .u64 st, .agg #[.int .u64 0, .string x.val, .bool x.has]] u fun e w' => (∃ z : Int, e = .returned (.int .i64 z)) ∧ RPost u rb 0 room v L1 w') := Lib.hid (fun u hu => by
    rw [hwho, hst, hL1]
    refine (rinst_any rb 0 room v L x.k R.who R.st 0 x.val x.has u (h.st.below hu)).mono ?_
    intro e w' hp
    exact ⟨⟨_, hp.1⟩, hp.2⟩)
  have HOR : Hid (∀ u, Below w.heap.size w u → Calls Tryz.prog 71 #[.slice wa nW wc] u fun e w' => ∃ (b9 c9 : Nat), e = .returned (.slice (some ⟨b9, 0, none⟩) nW c9) ∧ kW.At w' b9 0 LW ∧ Below u.heap.size u w') := Lib.hid (fun u hu => by
    rw [hwa, hwc, hnW]
    refine (r20order_any a.m.wa a.m.wc R.W u (h.mm.c.below hu).wo.toV hlW).mono ?_
    rintro e w' ⟨v9, rfl, ho, hb⟩
    rw [← hLW] at ho
    obtain ⟨b9, c9, rfl, _, _, hat⟩ := ho.at' (fun e => by rw [e] at hx; simp at hx)
    exact ⟨b9, c9, by rw [hlen, hnW], hat, hb⟩)
  have HTC : Hid (∀ u, RqM u a R X → u.cell? ⟨tb, 0, none⟩ = some (.pointer (some ⟨rb, 0, none⟩)) ∧ u.cell? ⟨tb, 1, none⟩ = some (.int .i64 who) ∧ u.cell? ⟨tb, 3, none⟩ = some (.int .i64 i) ∧ u.cell? ⟨tb, 5, none⟩ = some (.slice wa nW wc) ∧ u.cell? ⟨tb, 7, none⟩ = some (.int .u64 st) ∧ tb < u.heap.size) := Lib.hid (fun u hu => by
    obtain ⟨k0, k1, _, k3, _, k5, _, k7, _, _, kl⟩ := hu.c.cell
    rw [htb, hwho, hi0, hst, hwa, hwc, hnW, ← h.cb]
    exact ⟨k0, k1, k3, k5, k7, kl⟩)
  have HA := Lib.hid h
  have HE : Hid (tb = a.m.tb ∧ i = R.i) := Lib.hid ⟨htb, hi0⟩
  have HN : Hid (R.n ≤ 1000000 ∧ R.i ≤ 1000000 ∧ LW.length = nW) := Lib.hid ⟨hn, hi, hlen⟩
  have HX := Lib.hid hx
  have HI0 := Lib.hid hi0
  rw [← hL1]
  rw [hp] at c2
  rw [← htb] at c2 cl ⊢
  obtain ⟨k0, k1, k3, k5, k7, kl⟩ := HTC.out w h.mm
  have HXI : Hid (LW[i]? = some x) := Lib.hid (by rw [hi0]; exact hx)
  clear h hp hx hi hn hlW htb hwho hi0 hst hnW hwa hwc hLW hL1 hlen c0 c1 c3 c4 c5 c6 c7 c8 c9 k0 k1 k7 kl
  go_enter Tryz.func29, Tryz.ntmps29
  go_upto_region 25 with fail
  have HS0 : Hid (∀ u, Below w.heap.size w u → Below w.heap.size w u ∧ u.cell? ⟨tb, 3, none⟩ = some (.int .i64 i) ∧ u.cell? ⟨tb, 5, none⟩ = some (.slice wa nW wc) ∧ tb < u.heap.size) := Lib.hid (fun u hu => by
    obtain ⟨_, _, k3, k5, _, kl⟩ := HTC.out u (HA.out.mm.below hu)
    exact ⟨hu, k3, k5, kl⟩)
  go_cut [12] from 134 to 144 (fun s12 wc => ∃ (kb : Nat) (u : World), u = wc ∧ s12 = .pointer (some ⟨kb, 0, none⟩) ∧ Hid (Below w.heap.size w u ∧ u.heap[kb]? = some (.cells #[.int .i64 x.k.kind, .int .i64 x.k.a, .int .i64 x.k.b, .string x.k.s, .string x.val, .bool x.has] 94 (0, 0)) ∧ w.heap.size ≤ kb))
  case first =>
    have HSS : Hid (∀ u, Below w.heap.size w u → u.cell? ⟨tb, 3, none⟩ = some (.int .i64 i) ∧ u.cell? ⟨tb, 5, none⟩ = some (.slice wa nW wc) ∧ tb < u.heap.size) := Lib.hid (fun u hu => (HS0.out u hu).2)
    refine wp_region_held_drew (S := (fun u : World => u.cell? ⟨tb, 3, none⟩ = some (.int .i64 i) ∧ u.cell? ⟨tb, 5, none⟩ = some (.slice wa nW wc) ∧ tb < u.heap.size)) (by kernel_rfl) (HSS.out _ (below_drewN (Below.refl _ _) 1)) (fun hHeld => ?_)
    obtain ⟨X1, hGen⟩ : ∃ u, u = World.drew w := ⟨_, rfl⟩
    rw [← hGen] at hHeld ⊢
    have HX1 : Hid (Below w.heap.size w X1) := Lib.hid (by rw [hGen]; exact below_drewN (Below.refl _ _) 1)
    clear hGen
    refine wpAnyH_take (i := 0) (oi := ⟨some 134, _, _, _, _, _⟩) (v := ?vvrq1) rfl (by kernel_rfl) (by kernel_rfl) (by kernel_rfl) (fun _ _ _ h => h) (Or.inl ⟨by rfl, ?yyrq1⟩) hHeld ?rrrq1
    case yyrq1 => (intro wq hSw; (try dsimp only at hSw); go_simp; first | done | with_reducible rfl)
    simp only [Act.put, List.setIfInBounds_toArray, List.set_cons_zero, List.set_cons_succ]
    refine wpAnyH_take (i := 1) (oi := ⟨some 135, _, _, _, _, _⟩) (v := ?vvrq2) rfl (by kernel_rfl) (by kernel_rfl) (by kernel_rfl) (fun _ _ _ h => h) (Or.inl ⟨by rfl, ?yyrq2⟩) hHeld ?rrrq2
    case yyrq2 => (intro wq hSw; (try dsimp only at hSw); go_simp; first | done | with_reducible rfl)
    simp only [Act.put, List.setIfInBounds_toArray, List.set_cons_zero, List.set_cons_succ]
    refine wpAnyH_take (i := 2) (oi := ⟨some 136, _, _, _, _, _⟩) (v := ?vvrq3) rfl (by kernel_rfl) (by kernel_rfl) (by kernel_rfl) (fun _ _ _ h => h) (Or.inl ⟨by rfl, ?yyrq3⟩) hHeld ?rrrq3
    case yyrq3 => (intro wq hSw; (try dsimp only at hSw); go_simp; first | done | with_reducible rfl)
    simp only [Act.put, List.setIfInBounds_toArray, List.set_cons_zero, List.set_cons_succ]
    refine wpAnyH_take (i := 3) (oi := ⟨some 137, _, _, _, _, _⟩) (v := ?vvrq4) rfl (by kernel_rfl) (by kernel_rfl) (by kernel_rfl) (fun _ _ _ h => h) (Or.inl ⟨by rfl, ?yyrq4⟩) hHeld ?rrrq4
    case yyrq4 => (intro wq hSw; (try dsimp only at hSw); go_simp; first | done | with_reducible rfl)
    simp only [Act.put, List.setIfInBounds_toArray, List.set_cons_zero, List.set_cons_succ]
    refine wpAnyH_take (i := 5) (oi := ⟨some 139, _, _, _, _, _⟩) (v := ?vvrq5) rfl (by kernel_rfl) (by kernel_rfl) (by kernel_rfl) (fun _ _ _ h => h) (Or.inl ⟨by rfl, ?yyrq5⟩) hHeld ?rrrq5
    case yyrq5 => (intro wq hSw; (try dsimp only at hSw); go_simp; first | done | with_reducible rfl)
    simp only [Act.put, List.setIfInBounds_toArray, List.set_cons_zero, List.set_cons_succ]
    refine wpAnyH_take (i := 6) (oi := ⟨some 140, _, _, _, _, _⟩) (v := ?vvrq6) rfl (by kernel_rfl) (by kernel_rfl) (by kernel_rfl) (fun _ _ _ h => h) (Or.inl ⟨by rfl, ?yyrq6⟩) hHeld ?rrrq6
    case yyrq6 => (intro wq hSw; (try dsimp only at hSw); go_simp; first | done | with_reducible rfl)
    simp only [Act.put, List.setIfInBounds_toArray, List.set_cons_zero, List.set_cons_succ]
    refine wpAnyH_take (i := 7) (oi := ⟨some 141, _, _, _, _, _⟩) (v := ?vvrq7) rfl (by kernel_rfl) (by kernel_rfl) (by kernel_rfl) (fun _ _ _ h => h) (Or.inl ⟨by rfl, ?yyrq7⟩) hHeld ?rrrq7
    case yyrq7 => (intro wq hSw; (try dsimp only at hSw); go_simp; first | done | with_reducible rfl)
    simp only [Act.put, List.setIfInBounds_toArray, List.set_cons_zero, List.set_cons_succ]
    refine wpAnyH_take (i := 8) (oi := ⟨some 142, _, _, _, _, _⟩) (v := ?vvrq8) rfl (by kernel_rfl) (by kernel_rfl) (by kernel_rfl) (fun _ _ _ h => h) (Or.inl ⟨by rfl, ?yyrq8⟩) hHeld ?rrrq8
    case yyrq8 => (intro wq hSw; (try dsimp only at hSw); go_simp; first | done | with_reducible rfl)
    simp only [Act.put, List.setIfInBounds_toArray, List.set_cons_zero, List.set_cons_succ]
    refine wpAnyH_ready (rs := [4, 11]) (by kernel_rfl) (by simp) ?_
    refine AllReadyH.cons (o := ⟨some 138, _, _, _, _, _⟩) rfl (fun K hK => ?_) (AllReadyH.cons (o := ⟨some 12, _, _, _, _, _⟩) rfl (fun K hK => ?_) AllReadyH.nil)
    · go_simp
      refine (HOR.out _ HX1.out).mono ?_
      rintro e oC ⟨b9, c9, rfl, hat9, hbc⟩
      have HBC : Hid (Below w.heap.size w oC) := Lib.hid (below_then HX1.out hbc)
      have HRC : Hid (kW.At oC b9 0 LW) := Lib.hid hat9
      clear hat9 hbc
      try dsimp only
      refine hK.out _ _ ?ssrq9 (fun hHeld => ?_)
      case ssrq9 => (exact HSS.out _ HBC.out)
      clear hK K
      try simp only [Act.put, List.setIfInBounds_toArray, List.set_cons_zero, List.set_cons_succ]
      refine wpAnyH_take (i := 9) (oi := ⟨some 143, _, _, _, _, _⟩) (v := ?vvrq10) rfl (by kernel_rfl) (by kernel_rfl) (by kernel_rfl) (fun _ _ _ h => h) (Or.inl ⟨by rfl, ?yyrq10⟩) hHeld ?rrrq10
      case yyrq10 => (intro wq hSw; (try dsimp only at hSw); go_simp; first | done | with_reducible rfl)
      simp only [Act.put, List.setIfInBounds_toArray, List.set_cons_zero, List.set_cons_succ]
      refine wpAnyH_ready (rs := [10, 11]) (by kernel_rfl) (by simp) ?_
      refine AllReadyH.cons (o := ⟨some 144, _, _, _, _, _⟩) rfl (fun K hK => ?_) (AllReadyH.cons (o := ⟨some 12, _, _, _, _, _⟩) rfl (fun K hK => ?_) AllReadyH.nil)
      · obtain ⟨d0, d1, d2, d3, d4, d5⟩ := kW_cells HRC.out HXI.out
        simp only [Nat.zero_add] at d0 d1 d2 d3 d4 d5
        have dl := HRC.out.lt
        go_simp
        clear d0 d1 d2 d3 d4 d5 dl
        try dsimp only
        refine hK.out _ _ ?ssrq11 (fun hHeld => ?_)
        case ssrq11 => (exact HSS.out _ HBC.out)
        clear hK K
        try simp only [Act.put, List.setIfInBounds_toArray, List.set_cons_zero, List.set_cons_succ]
        refine wpAnyH_ready (rs := [11]) (by kernel_rfl) (by simp) ?_
        refine AllReadyH.cons (o := ⟨some 12, _, _, _, _, _⟩) rfl (fun K hK => ?_) AllReadyH.nil
        go_simp
        obtain ⟨nA, hn⟩ : ∃ u, u = oC.alloc (.cells #[.int .i64 0, .int .i64 0, .int .i64 0, .string ⟨#[]⟩, .string ⟨#[]⟩, .bool false] 94) := ⟨_, rfl⟩
        obtain ⟨gA, hg⟩ : ∃ g, g = oC.heap.size := ⟨_, rfl⟩
        rw [← hn, ← hg]
        have HBA : Hid (Below w.heap.size w nA) := Lib.hid (by rw [hn]; exact below_then HBC.out (below_box _ _))
        have EA : Hid (nA.heap[gA]? = some (.cells #[.int .i64 0, .int .i64 0, .int .i64 0, .string ⟨#[]⟩, .string ⟨#[]⟩, .bool false] 94)) := Lib.hid (by rw [hn, hg]; exact heap_new _ _)
        have LA : Hid (w.heap.size ≤ gA) := Lib.hid (by rw [hg]; exact HBC.out.size)
        have HRA : Hid (kW.At nA b9 0 LW) := Lib.hid (HRC.out.below (by rw [hn]; exact below_box _ _))
        clear hn hg
        try dsimp only
        refine hK.out _ _ ?ssrq12 (fun hHeld => ?_)
        case ssrq12 => (exact HSS.out _ HBA.out)
        clear hK K
        try simp only [Act.put, List.setIfInBounds_toArray, List.set_cons_zero, List.set_cons_succ]
        refine wpAnyH_ready (rs := [12]) (by kernel_rfl) (by simp) ?_
        refine AllReadyH.cons (o := ⟨none, _, _, _, _, _⟩) rfl (fun K hK => ?_) AllReadyH.nil
        have z0 := cell_of_blk EA.out 0
        have z1 := cell_of_blk EA.out 1
        have z2 := cell_of_blk EA.out 2
        have z3 := cell_of_blk EA.out 3
        have z4 := cell_of_blk EA.out 4
        have z5 := cell_of_blk EA.out 5
        have y0 := frozen_of_blk EA.out 0
        have y1 := frozen_of_blk EA.out 1
        have y2 := frozen_of_blk EA.out 2
        have y3 := frozen_of_blk EA.out 3
        have y4 := frozen_of_blk EA.out 4
        have y5 := frozen_of_blk EA.out 5
        simp at z0 z1 z2 z3 z4 z5
        go_simp
        obtain ⟨U, hU⟩ : ∃ u, u = ((((((nA.setCell ⟨gA, 0, none⟩ (.int .i64 x.k.kind)).setCell ⟨gA, 1, none⟩ (.int .i64 x.k.a)).setCell ⟨gA, 2, none⟩ (.int .i64 x.k.b)).setCell ⟨gA, 3, none⟩ (.string x.k.s)).setCell ⟨gA, 4, none⟩ (.string x.val)).setCell ⟨gA, 5, none⟩ (.bool x.has)) := ⟨_, rfl⟩
        rw [← hU]
        have HBU : Hid (Below w.heap.size w U) := Lib.hid (by rw [hU]; exact ((((((HBA.out.setCell (p := ⟨gA, 0, none⟩) LA.out _).setCell (p := ⟨gA, 1, none⟩) LA.out _).setCell (p := ⟨gA, 2, none⟩) LA.out _).setCell (p := ⟨gA, 3, none⟩) LA.out _).setCell (p := ⟨gA, 4, none⟩) LA.out _).setCell (p := ⟨gA, 5, none⟩) LA.out _))
        have EU : Hid (U.heap[gA]? = some (.cells #[.int .i64 x.k.kind, .int .i64 x.k.a, .int .i64 x.k.b, .string x.k.s, .string x.val, .bool x.has] 94 (0, 0))) := Lib.hid (by rw [hU, blk_setCell (blk_setCell (blk_setCell (blk_setCell (blk_setCell (blk_setCell EA.out _) _) _) _) _) _]; rfl)
        clear hU z0 z1 z2 z3 z4 z5 y0 y1 y2 y3 y4 y5
        try dsimp only
        refine hK.out _ _ ?ssrq13 (fun hHeld => ?_)
        case ssrq13 => (exact HSS.out _ HBU.out)
        clear hK K
        try simp only [Act.put, List.setIfInBounds_toArray, List.set_cons_zero, List.set_cons_succ]
        refine wpAnyH_done (by kernel_rfl) ?_ _
        clear hHeld
        go_wp2_with fail
        go_meet
        exact ⟨_, _, rfl, rfl, Lib.hid ⟨HBU.out, EU.out, LA.out⟩⟩
      · go_simp
        obtain ⟨nA, hn⟩ : ∃ u, u = oC.alloc (.cells #[.int .i64 0, .int .i64 0, .int .i64 0, .string ⟨#[]⟩, .string ⟨#[]⟩, .bool false] 94) := ⟨_, rfl⟩
        obtain ⟨gA, hg⟩ : ∃ g, g = oC.heap.size := ⟨_, rfl⟩
        rw [← hn, ← hg]
        have HBA : Hid (Below w.heap.size w nA) := Lib.hid (by rw [hn]; exact below_then HBC.out (below_box _ _))
        have EA : Hid (nA.heap[gA]? = some (.cells #[.int .i64 0, .int .i64 0, .int .i64 0, .string ⟨#[]⟩, .string ⟨#[]⟩, .bool false] 94)) := Lib.hid (by rw [hn, hg]; exact heap_new _ _)
        have LA : Hid (w.heap.size ≤ gA) := Lib.hid (by rw [hg]; exact HBC.out.size)
        have HRA : Hid (kW.At nA b9 0 LW) := Lib.hid (HRC.out.below (by rw [hn]; exact below_box _ _))
        clear hn hg
        try dsimp only
        refine hK.out _ _ ?ssrq14 (fun hHeld => ?_)
        case ssrq14 => (exact HSS.out _ HBA.out)
        clear hK K
        try simp only [Act.put, List.setIfInBounds_toArray, List.set_cons_zero, List.set_cons_succ]
        refine wpAnyH_ready (rs := [10]) (by kernel_rfl) (by simp) ?_
        refine AllReadyH.cons (o := ⟨some 144, _, _, _, _, _⟩) rfl (fun K hK => ?_) AllReadyH.nil
        obtain ⟨d0, d1, d2, d3, d4, d5⟩ := kW_cells HRA.out HXI.out
        simp only [Nat.zero_add] at d0 d1 d2 d3 d4 d5
        have dl := HRA.out.lt
        go_simp
        clear d0 d1 d2 d3 d4 d5 dl
        try dsimp only
        refine hK.out _ _ ?ssrq15 (fun hHeld => ?_)
        case ssrq15 => (exact HSS.out _ HBA.out)
        clear hK K
        try simp only [Act.put, List.setIfInBounds_toArray, List.set_cons_zero, List.set_cons_succ]
        refine wpAnyH_ready (rs := [12]) (by kernel_rfl) (by simp) ?_
        refine AllReadyH.cons (o := ⟨none, _, _, _, _, _⟩) rfl (fun K hK => ?_) AllReadyH.nil
        have z0 := cell_of_blk EA.out 0
        have z1 := cell_of_blk EA.out 1
        have z2 := cell_of_blk EA.out 2
        have z3 := cell_of_blk EA.out 3
        have z4 := cell_of_blk EA.out 4
        have z5 := cell_of_blk EA.out 5
        have y0 := frozen_of_blk EA.out 0
        have y1 := frozen_of_blk EA.out 1
        have y2 := frozen_of_blk EA.out 2
        have y3 := frozen_of_blk EA.out 3
        have y4 := frozen_of_blk EA.out 4
        have y5 := frozen_of_blk EA.out 5
        simp at z0 z1 z2 z3 z4 z5
        go_simp
        obtain ⟨U, hU⟩ : ∃ u, u = ((((((nA.setCell ⟨gA, 0, none⟩ (.int .i64 x.k.kind)).setCell ⟨gA, 1, none⟩ (.int .i64 x.k.a)).setCell ⟨gA, 2, none⟩ (.int .i64 x.k.b)).setCell ⟨gA, 3, none⟩ (.string x.k.s)).setCell ⟨gA, 4, none⟩ (.string x.val)).setCell ⟨gA, 5, none⟩ (.bool x.has)) := ⟨_, rfl⟩
        rw [← hU]
        have HBU : Hid (Below w.heap.size w U) := Lib.hid (by rw [hU]; exact ((((((HBA.out.setCell (p := ⟨gA, 0, none⟩) LA.out _).setCell (p := ⟨gA, 1, none⟩) LA.out _).setCell (p := ⟨gA, 2, none⟩) LA.out _).setCell (p := ⟨gA, 3, none⟩) LA.out _).setCell (p := ⟨gA, 4, none⟩) LA.out _).setCell (p := ⟨gA, 5, none⟩) LA.out _))
        have EU : Hid (U.heap[gA]? = some (.cells #[.int .i64 x.k.kind, .int .i64 x.k.a, .int .i64 x.k.b, .string x.k.s, .string x.val, .bool x.has] 94 (0, 0))) := Lib.hid (by rw [hU, blk_setCell (blk_setCell (blk_setCell (blk_setCell (blk_setCell (blk_setCell EA.out _) _) _) _) _) _]; rfl)
        clear hU z0 z1 z2 z3 z4 z5 y0 y1 y2 y3 y4 y5
        try dsimp only
        refine hK.out _ _ ?ssrq16 (fun hHeld => ?_)
        case ssrq16 => (exact HSS.out _ HBU.out)
        clear hK K
        try simp only [Act.put, List.setIfInBounds_toArray, List.set_cons_zero, List.set_cons_succ]
        refine wpAnyH_done (by kernel_rfl) ?_ _
        clear hHeld
        go_wp2_with fail
        go_meet
        exact ⟨_, _, rfl, rfl, Lib.hid ⟨HBU.out, EU.out, LA.out⟩⟩
    · go_simp
      obtain ⟨nA, hn⟩ : ∃ u, u = X1.alloc (.cells #[.int .i64 0, .int .i64 0, .int .i64 0, .string ⟨#[]⟩, .string ⟨#[]⟩, .bool false] 94) := ⟨_, rfl⟩
      obtain ⟨gA, hg⟩ : ∃ g, g = X1.heap.size := ⟨_, rfl⟩
      rw [← hn, ← hg]
      have HBA : Hid (Below w.heap.size w nA) := Lib.hid (by rw [hn]; exact below_then HX1.out (below_box _ _))
      have EA : Hid (nA.heap[gA]? = some (.cells #[.int .i64 0, .int .i64 0, .int .i64 0, .string ⟨#[]⟩, .string ⟨#[]⟩, .bool false] 94)) := Lib.hid (by rw [hn, hg]; exact heap_new _ _)
      have LA : Hid (w.heap.size ≤ gA) := Lib.hid (by rw [hg]; exact HX1.out.size)
      clear hn hg
      try dsimp only
      refine hK.out _ _ ?ssrq17 (fun hHeld => ?_)
      case ssrq17 => (exact HSS.out _ HBA.out)
      clear hK K
      try simp only [Act.put, List.setIfInBounds_toArray, List.set_cons_zero, List.set_cons_succ]
      refine wpAnyH_ready (rs := [4]) (by kernel_rfl) (by simp) ?_
      refine AllReadyH.cons (o := ⟨some 138, _, _, _, _, _⟩) rfl (fun K hK => ?_) AllReadyH.nil
      go_simp
      refine (HOR.out _ HBA.out).mono ?_
      rintro e oC ⟨b9, c9, rfl, hat9, hbc⟩
      have HBC : Hid (Below w.heap.size w oC) := Lib.hid (below_then HBA.out hbc)
      have EC : Hid (oC.heap[gA]? = some (.cells #[.int .i64 0, .int .i64 0, .int .i64 0, .string ⟨#[]⟩, .string ⟨#[]⟩, .bool false] 94)) := Lib.hid ((hbc.block _ (Array.getElem?_eq_some_iff.1 EA.out).1).trans EA.out)
      have HRC : Hid (kW.At oC b9 0 LW) := Lib.hid hat9
      clear hat9 hbc
      try dsimp only
      refine hK.out _ _ ?ssrq18 (fun hHeld => ?_)
      case ssrq18 => (exact HSS.out _ HBC.out)
      clear hK K
      try simp only [Act.put, List.setIfInBounds_toArray, List.set_cons_zero, List.set_cons_succ]
      refine wpAnyH_take (i := 9) (oi := ⟨some 143, _, _, _, _, _⟩) (v := ?vvrq19) rfl (by kernel_rfl) (by kernel_rfl) (by kernel_rfl) (fun _ _ _ h => h) (Or.inl ⟨by rfl, ?yyrq19⟩) hHeld ?rrrq19
      case yyrq19 => (intro wq hSw; (try dsimp only at hSw); go_simp; first | done | with_reducible rfl)
      simp only [Act.put, List.setIfInBounds_toArray, List.set_cons_zero, List.set_cons_succ]
      refine wpAnyH_ready (rs := [10]) (by kernel_rfl) (by simp) ?_
      refine AllReadyH.cons (o := ⟨some 144, _, _, _, _, _⟩) rfl (fun K hK => ?_) AllReadyH.nil
      obtain ⟨d0, d1, d2, d3, d4, d5⟩ := kW_cells HRC.out HXI.out
      simp only [Nat.zero_add] at d0 d1 d2 d3 d4 d5
      have dl := HRC.out.lt
      go_simp
      clear d0 d1 d2 d3 d4 d5 dl
      try dsimp only
      refine hK.out _ _ ?ssrq20 (fun hHeld => ?_)
      case ssrq20 => (exact HSS.out _ HBC.out)
      clear hK K
      try simp only [Act.put, List.setIfInBounds_toArray, List.set_cons_zero, List.set_cons_succ]
      refine wpAnyH_ready (rs := [12]) (by kernel_rfl) (by simp) ?_
      refine AllReadyH.cons (o := ⟨none, _, _, _, _, _⟩) rfl (fun K hK => ?_) AllReadyH.nil
      have z0 := cell_of_blk EC.out 0
      have z1 := cell_of_blk EC.out 1
      have z2 := cell_of_blk EC.out 2
      have z3 := cell_of_blk EC.out 3
      have z4 := cell_of_blk EC.out 4
      have z5 := cell_of_blk EC.out 5
      have y0 := frozen_of_blk EC.out 0
      have y1 := frozen_of_blk EC.out 1
      have y2 := frozen_of_blk EC.out 2
      have y3 := frozen_of_blk EC.out 3
      have y4 := frozen_of_blk EC.out 4
      have y5 := frozen_of_blk EC.out 5
      simp at z0 z1 z2 z3 z4 z5
      go_simp
      obtain ⟨U, hU⟩ : ∃ u, u = ((((((oC.setCell ⟨gA, 0, none⟩ (.int .i64 x.k.kind)).setCell ⟨gA, 1, none⟩ (.int .i64 x.k.a)).setCell ⟨gA, 2, none⟩ (.int .i64 x.k.b)).setCell ⟨gA, 3, none⟩ (.string x.k.s)).setCell ⟨gA, 4, none⟩ (.string x.val)).setCell ⟨gA, 5, none⟩ (.bool x.has)) := ⟨_, rfl⟩
      rw [← hU]
      have HBU : Hid (Below w.heap.size w U) := Lib.hid (by rw [hU]; exact ((((((HBC.out.setCell (p := ⟨gA, 0, none⟩) LA.out _).setCell (p := ⟨gA, 1, none⟩) LA.out _).setCell (p := ⟨gA, 2, none⟩) LA.out _).setCell (p := ⟨gA, 3, none⟩) LA.out _).setCell (p := ⟨gA, 4, none⟩) LA.out _).setCell (p := ⟨gA, 5, none⟩) LA.out _))
      have EU : Hid (U.heap[gA]? = some (.cells #[.int .i64 x.k.kind, .int .i64 x.k.a, .int .i64 x.k.b, .string x.k.s, .string x.val, .bool x.has] 94 (0, 0))) := Lib.hid (by rw [hU, blk_setCell (blk_setCell (blk_setCell (blk_setCell (blk_setCell (blk_setCell EC.out _) _) _) _) _) _]; rfl)
      clear hU z0 z1 z2 z3 z4 z5 y0 y1 y2 y3 y4 y5
      try dsimp only
      refine hK.out _ _ ?ssrq21 (fun hHeld => ?_)
      case ssrq21 => (exact HSS.out _ HBU.out)
      clear hK K
      try simp only [Act.put, List.setIfInBounds_toArray, List.set_cons_zero, List.set_cons_succ]
      refine wpAnyH_done (by kernel_rfl) ?_ _
      clear hHeld
      go_wp2_with fail
      go_meet
      exact ⟨_, _, rfl, rfl, Lib.hid ⟨HBU.out, EU.out, LA.out⟩⟩
  case rest =>
  obtain ⟨kb, u, rfl, rfl, HU⟩ := hcut
  clear c2 cl k3 k5
  go_upto_region 26 with fail
  have HS : Hid (∀ v, RqM v a R X → v.heap[kb]? = some (.cells #[.int .i64 x.k.kind, .int .i64 x.k.a, .int .i64 x.k.b, .string x.k.s, .string x.val, .bool x.has] 94 (0, 0)) → v.cell? ⟨tb, 0, none⟩ = some (.pointer (some ⟨rb, 0, none⟩)) ∧ v.cell? ⟨tb, 1, none⟩ = some (.int .i64 who) ∧ v.cell? ⟨tb, 7, none⟩ = some (.int .u64 st) ∧ tb < v.heap.size ∧ v.cell? ⟨kb, 0, none⟩ = some (.int .i64 x.k.kind) ∧ v.cell? ⟨kb, 1, none⟩ = some (.int .i64 x.k.a) ∧ v.cell? ⟨kb, 2, none⟩ = some (.int .i64 x.k.b) ∧ v.cell? ⟨kb, 3, none⟩ = some (.string x.k.s) ∧ v.cell? ⟨kb, 4, none⟩ = some (.string x.val) ∧ v.cell? ⟨kb, 5, none⟩ = some (.bool x.has) ∧ kb < v.heap.size) := Lib.hid (fun v hv hb => by
    obtain ⟨m0, m1, _, _, m7, ml⟩ := HTC.out v hv
    exact ⟨m0, m1, m7, ml, by rw [cell_of_blk hb]; rfl, by rw [cell_of_blk hb]; rfl, by rw [cell_of_blk hb]; rfl, by rw [cell_of_blk hb]; rfl, by rw [cell_of_blk hb]; rfl, by rw [cell_of_blk hb]; rfl, (Array.getElem?_eq_some_iff.1 hb).1⟩)
  have HBU : Hid (Below w.heap.size w u.drew) := Lib.hid (below_then HU.out.1 (Below.refl _ _).drew)
  go_region_held3 (fun v => v.cell? ⟨tb, 0, none⟩ = some (.pointer (some ⟨rb, 0, none⟩)) ∧ v.cell? ⟨tb, 1, none⟩ = some (.int .i64 who) ∧ v.cell? ⟨tb, 7, none⟩ = some (.int .u64 st) ∧ tb < v.heap.size ∧ v.cell? ⟨kb, 0, none⟩ = some (.int .i64 x.k.kind) ∧ v.cell? ⟨kb, 1, none⟩ = some (.int .i64 x.k.a) ∧ v.cell? ⟨kb, 2, none⟩ = some (.int .i64 x.k.b) ∧ v.cell? ⟨kb, 3, none⟩ = some (.string x.k.s) ∧ v.cell? ⟨kb, 4, none⟩ = some (.string x.val) ∧ v.cell? ⟨kb, 5, none⟩ = some (.bool x.has) ∧ kb < v.heap.size)
    (first | exact HS.out _ (HA.out.mm.below HBU.out) HU.out.2.1 | exact HS.out _ HA2.out.1.mm HK2.out)
    ((go_at_call 72; refine (HIN.out _ HBU.out).mono ?_; rintro e u3 ⟨⟨z, rfl⟩, hp⟩; obtain ⟨v2, hv2⟩ := (HA.out.below HBU.out).store hp; have HA2 : Hid (RqA u3 a R X rb room v2 L1 ∧ RqT w u3 a a rb v v2) := Lib.hid ⟨hv2.1, (RqT.below HBU.out a rb v).trans hv2.2⟩; have HK2 := Lib.hid ((hp.chg.block kb (Array.getElem?_eq_some_iff.1 HU.out.2.1).1 (fun e => by have h1 := rf_lt HA.out.st e; have h2 := HU.out.2.2; omega)).trans HU.out.2.1); clear hp hv2))
  all_goals (
    obtain ⟨n0, hn0⟩ : ∃ x, x = R.n := ⟨_, rfl⟩
    obtain ⟨_, _, c2, c3, _, _, _, _, _, c9, cl⟩ := HA2.out.1.mm.c.cell
    have f9 := frozen_of_blk HA2.out.1.mm.c.blk 9
    have f3 := frozen_of_blk HA2.out.1.mm.c.blk 3
    have wn : IntKind.i64.wrap ((n0 : Int) + 1) = (n0 : Int) + 1 := IntWalk.i64_in _ (by have := HN.out; omega)
    have wi : IntKind.i64.wrap ((i : Int) + 1) = (i : Int) + 1 := IntWalk.i64_in _ (by have := HN.out; have := HE.out; omega)
    simp only [← hn0, ← HE.out.1, ← HE.out.2] at c3 c9 cl f9 f3
    have HN0 : Hid (n0 = R.n) := Lib.hid hn0
    clear hn0 c2
    go_upto_region 30 with fail
    have hS := HA2.out.1.step1 (i + 1) (n0 + 1)
    rw [← HE.out.1, HN0.out, HE.out.2] at hS
    have hV : (u3.setCell ⟨tb, 3, none⟩ (.int .i64 ((i : Int) + 1))).setCell ⟨tb, 9, none⟩ (.int .i64 ((n0 : Int) + 1)) = (u3.setCell ⟨tb, 3, none⟩ (.int .i64 (R.i + 1 : Nat))).setCell ⟨tb, 9, none⟩ (.int .i64 (R.n + 1 : Nat)) := by rw [HN0.out, HE.out.2]; rfl
    rw [hV]
    obtain ⟨V, hV2⟩ : ∃ V, V = (u3.setCell ⟨tb, 3, none⟩ (.int .i64 (R.i + 1 : Nat))).setCell ⟨tb, 9, none⟩ (.int .i64 (R.n + 1 : Nat)) := ⟨_, rfl⟩
    rw [← hV2] at hS ⊢
    have HV : Hid (RqA V a { R with i := R.i + 1, n := R.n + 1 } X rb room v2 L1 ∧ RqT w V a a rb v v2) := Lib.hid ⟨hS.1, HA2.out.2.trans hS.2⟩
    have HSK : Hid (Calls Tryz.prog 66 #[.pointer (some ⟨tb, 0, none⟩)] V (RnPost V a.m (skipR { R with i := R.i + 1, n := R.n + 1 }))) := Lib.hid (by
      rw [HE.out.1]; exact r20skip_any HV.out.1.mm.c)
    clear hS hV hV2 c3 c9 cl f9 f3
    go_wp2_with (go_at_call 66; refine HSK.out.mono ?_; rintro e u4 ⟨rfl, hc2, hg2⟩; have hO := HV.out.1.own hc2 hg2; have HT4 := Lib.hid (And.intro hO.1 (HV.out.2.trans hO.2)); clear hc2 hg2 hO)
    go_ret
    exact ⟨rfl, _, _, HT4.out⟩)
end
end Go.Proofs.YtkhkdedjffkhdaaGreat
