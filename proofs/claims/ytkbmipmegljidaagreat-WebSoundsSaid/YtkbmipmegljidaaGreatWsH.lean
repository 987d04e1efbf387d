/- Stable sort of writes by any closure, 3: merging. Conditions: each contract's own premises. (Printed by gen_sw.py out of the sort of ints.) Stable sort of writes by any closure, 4: whole. Conditions: each contract's own premises. (Printed by gen_sw.py out of the sort of ints.) -/
import Derived.Test.YtkbmipmegljidaaGreatSw2
namespace Go.Proofs.YtkbmipmegljidaaGreat
open Go.RowKit Go.Maps


/-- the contract, for parts of at most N records -/
def SymOkW (g : Nat) (cb : Array Value) (key : Nat → Nat) (N : Nat) : Prop := ∀ (b off cap n : Nat) (L : List Wr) (s : Nat → Nat) (a m c : Nat) (w : World), WAt w b off n L s → CmpOkW g cb b n L key w → c ≤ n → n ≤ 1000000 → Srt.Pre key s a m c → c - a ≤ N →
  Calls Tryz.prog 157 #[.slice (some ⟨b, off, none⟩) n cap, .int .i64 a, .int .i64 m, .int .i64 c, .func (.func g) #[] cb] w (SrwPostX key w b off n L s a c)
theorem SymOkW.on {g : Nat} {cb : Array Value} {key : Nat → Nat} {N : Nat} (ih : SymOkW g cb key N) (b off cap n : Nat) (L : List Wr) (s : Nat → Nat) (a m c : Nat) (w : World) (h1 : WAt w b off n L s) (hcm : CmpOkW g cb b n L key w) (h2 : c ≤ n) (h3 : n ≤ 1000000) (h4 : Srt.Pre key s a m c) (h5 : c - a ≤ N) :
    Calls Tryz.prog 157 #[.slice (some ⟨b, off, none⟩) n cap, .int .i64 a, .int .i64 m, .int .i64 c, .func (.func g) #[] cb] w (SrwPostX key w b off n L s a c) := by
  unfold SymOkW at ih
  exact ih b off cap n L s a m c w h1 hcm h2 h3 h4 h5
set_option maxRecDepth 100000 in
set_option maxHeartbeats 4000000 in
theorem symW_hi (g : Nat) (cb : Array Value) (key : Nat → Nat) (eg : ∀ args w, (callFunc g args).run Tryz.prog w = .ok (.enter g args) w) (N : Nat) (ih : SymOkW g cb key N) (b off cap n : Nat) (L : List Wr) (s : Nat → Nat) (a m c d : Nat) (w : World) (h : WAt w b off n L s) (hcm : CmpOkW g cb b n L key w) (hcn : c ≤ n) (hn : n ≤ 1000000) (P : Srt.Pre key s a m c) (hN : c - a ≤ N + 1) (ham : a + 2 ≤ m) (hmc : m + 2 ≤ c) (hd : d = (a + c) / 2) (hdm : d < m) :
    Calls Tryz.prog 157 #[.slice (some ⟨b, off, none⟩) n cap, .int .i64 a, .int .i64 m, .int .i64 c, .func (.func g) #[] cb] w (SrwPostX key w b off n L s a c) := by
  have HCM := Lib.hid hcm
  have HS0 := Lib.hid h
  have HP := Lib.hid P
  have hd0 : a < d := by omega
  have hd1 : d < c := by omega
  have hd2 : 2 * d ≤ a + c := by omega
  have hd3 : a + c ≤ 2 * d + 1 := by omega
  obtain ⟨k1, hk1⟩ : ∃ k, k = m - a := ⟨_, rfl⟩
  obtain ⟨k2, hk2⟩ : ∃ k, k = c - m := ⟨_, rfl⟩
  have e1 : IntKind.i64.wrap ((m : Int) - (a : Int)) = (k1 : Int) := by rw [IntKind.wrap_i64]; omega
  have e2 : (m : Int) - (a : Int) = (k1 : Int) := by omega
  have e3 : ((k1 : Int) == 1) = false := by simp; omega
  have e4 : IntKind.i64.wrap ((c : Int) - (m : Int)) = (k2 : Int) := by rw [IntKind.wrap_i64]; omega
  have e5 : (c : Int) - (m : Int) = (k2 : Int) := by omega
  have e6 : ((k2 : Int) == 1) = false := by simp; omega
  have e7 : ((a : Int) + (c : Int)) / 2 = (d : Int) := by omega
  obtain ⟨e, he⟩ : ∃ e, e = d + m := ⟨_, rfl⟩
  have e8 : (d : Int) + (m : Int) = (e : Int) := by omega
  obtain ⟨p, hp⟩ : ∃ p, p + 1 = e := ⟨e - 1, by omega⟩
  have e9 : (e : Int) - 1 = (p : Int) := by omega
  obtain ⟨lo, hlo⟩ : ∃ lo, lo + c = e := ⟨e - c, by omega⟩
  have e10 : (e : Int) - (c : Int) = (lo : Int) := by omega
  have t0 : decide ((d : Int) < (m : Int)) = true := decide_eq_true (by omega)
  have hla : a ≤ lo := by omega
  have HE : Hid (e = d + m ∧ p + 1 = e ∧ lo + c = e) := Lib.hid ⟨he, hp, hlo⟩
  clear hcm
  clear h P hk1 hk2 hd he hp hlo
  go_enter Tryz.func157, Tryz.ntmps157
  go_wp2_with fail
  go_loopw [20, 21] (fun i j wr => ∃ x y : Nat, lo ≤ x ∧ x ≤ y ∧ y ≤ d ∧ i = .int .i64 x ∧ j = .int .i64 y ∧ Hid (WAt wr b off n L s ∧ Chg w wr (fun k => k = b) ∧ Srt.Sea key s (d + m) lo d x y)) (fun i j _ => (intOf j).toNat - (intOf i).toNat)
  case atStart => (have hE := HE.out; exact ⟨lo, d, by omega, by omega, by omega, rfl, rfl, Lib.hid ⟨HS0.out, Chg.refl _ _, Nat.le_refl _, by omega, Nat.le_refl _, fun c h1 h2 => absurd h1 (by omega), fun c h1 h2 => absurd h1 (by omega)⟩⟩)
  case round =>
    obtain ⟨x, y, hx, hxy, hy, rfl, rfl, HR⟩ := hrel
    clear HS0
    by_cases hlt : x < y
    · have hE := HE.out
      obtain ⟨h, hh⟩ : ∃ h, h = (x + y) / 2 := ⟨_, rfl⟩
      have hd' : ((x : Int) + (y : Int)) / 2 = (h : Int) := by omega
      have hhx : x ≤ h := by omega
      have hhy : h < y := by omega
      have hhn : h < n := by omega
      obtain ⟨z, hz⟩ : ∃ z, z + h = p := ⟨p - h, by omega⟩
      have hzn : z < n := by omega
      have w1 : IntKind.i64.wrap ((p : Int) - (h : Int)) = (z : Int) := by rw [IntKind.wrap_i64]; omega
      have z1 : (h : Int) < (n : Int) := by omega
      have z2 : (z : Int) < (n : Int) := by omega
      have hzz : d + m - 1 - h = z := by omega
      have HZ := Lib.hid hzz
      clear hh hz hzz hE
      obtain ⟨q, hq⟩ : ∃ q, decide (key (s z) < key (s h)) = q := ⟨_, rfl⟩
      have hk := fun (u : World) (hu : Below wr.heap.size wr u) => HCM.out.at' HR.out.2.1 hu (HR.out.1.dom hzn) (HR.out.1.dom hhn)
      obtain ⟨A, hA⟩ : ∃ A, A = L[s z]! := ⟨_, rfl⟩
      obtain ⟨B, hB⟩ : ∃ B, B = L[s h]! := ⟨_, rfl⟩
      rw [hq, ← hA, ← hB] at hk
      have HK := Lib.hid hk
      clear hk
      have hks : ∀ w', Below wr.heap.size wr w' → Below wr.heap.size wr w' ∧ w'.cell? ⟨b, off + z * 6, none⟩ = some (.int .i64 A.k.kind) ∧ w'.cell? ⟨b, off + z * 6 + 1, none⟩ = some (.int .i64 A.k.a) ∧ w'.cell? ⟨b, off + z * 6 + 2, none⟩ = some (.int .i64 A.k.b) ∧ w'.cell? ⟨b, off + z * 6 + 3, none⟩ = some (.string A.k.s) ∧ w'.cell? ⟨b, off + z * 6 + 4, none⟩ = some (.string A.val) ∧ w'.cell? ⟨b, off + z * 6 + 5, none⟩ = some (.bool A.has) ∧ w'.cell? ⟨b, off + h * 6, none⟩ = some (.int .i64 B.k.kind) ∧ w'.cell? ⟨b, off + h * 6 + 1, none⟩ = some (.int .i64 B.k.a) ∧ w'.cell? ⟨b, off + h * 6 + 2, none⟩ = some (.int .i64 B.k.b) ∧ w'.cell? ⟨b, off + h * 6 + 3, none⟩ = some (.string B.k.s) ∧ w'.cell? ⟨b, off + h * 6 + 4, none⟩ = some (.string B.val) ∧ w'.cell? ⟨b, off + h * 6 + 5, none⟩ = some (.bool B.has) := fun w' hb => by
        have h' := HR.out.1.below hb
        rw [hA, hB]
        exact ⟨hb, h'.cell0 hzn, h'.cell1 hzn, h'.cell2 hzn, h'.cell3 hzn, h'.cell4 hzn, h'.cell5 hzn, h'.cell0 hhn, h'.cell1 hhn, h'.cell2 hhn, h'.cell3 hhn, h'.cell4 hhn, h'.cell5 hhn⟩
      have KS := Lib.hid hks
      have HAB := Lib.hid (And.intro hA hB)
      have HQ := Lib.hid hq
      clear hks hA hB hq
      go_wp2_with fail
      go_region_held3 (fun w' => Below wr.heap.size wr w' ∧ w'.cell? ⟨b, off + z * 6, none⟩ = some (.int .i64 A.k.kind) ∧ w'.cell? ⟨b, off + z * 6 + 1, none⟩ = some (.int .i64 A.k.a) ∧ w'.cell? ⟨b, off + z * 6 + 2, none⟩ = some (.int .i64 A.k.b) ∧ w'.cell? ⟨b, off + z * 6 + 3, none⟩ = some (.string A.k.s) ∧ w'.cell? ⟨b, off + z * 6 + 4, none⟩ = some (.string A.val) ∧ w'.cell? ⟨b, off + z * 6 + 5, none⟩ = some (.bool A.has) ∧ w'.cell? ⟨b, off + h * 6, none⟩ = some (.int .i64 B.k.kind) ∧ w'.cell? ⟨b, off + h * 6 + 1, none⟩ = some (.int .i64 B.k.a) ∧ w'.cell? ⟨b, off + h * 6 + 2, none⟩ = some (.int .i64 B.k.b) ∧ w'.cell? ⟨b, off + h * 6 + 3, none⟩ = some (.string B.k.s) ∧ w'.cell? ⟨b, off + h * 6 + 4, none⟩ = some (.string B.val) ∧ w'.cell? ⟨b, off + h * 6 + 5, none⟩ = some (.bool B.has))
        (first | exact KS.out _ (Below.refl _ _).drew | (go_split_ands; refine KS.out _ (below_then ?_ hbc); assumption))
        ((go_at_fn g; refine (HK.out _ (by go_split_ands; assumption)).mono ?_; rintro e wc ⟨cc, rfl, hcc, hbc⟩))
      go_split_ands
      have HBZ := Lib.hid (show Below wr.heap.size wr wc by assumption)
      have HD : Hid (WAt wc b off n L s ∧ Chg w wc (fun k => k = b)) := Lib.hid ⟨HR.out.1.below HBZ.out, HR.out.2.1.trans (Chg.of_below HBZ.out (fun k => k = b)) (fun _ _ h => h)⟩
      cases q
      · go_wp2_with fail
        have h1 := of_decide_eq_false HQ.out
        have hE := HE.out
        rw [← HZ.out] at h1
        exact ⟨⟨h + 1, y, by omega, by omega, hy, by go_num, rfl, Lib.hid ⟨HD.out.1, HD.out.2, HR.out.2.2.step_up HP.out (by omega) (by omega) (by omega) (by omega) hhx hhy h1⟩⟩, by simp [intOf]; omega⟩
      · go_wp2_with fail
        have h1 := of_decide_eq_true HQ.out
        have hE := HE.out
        rw [← HZ.out] at h1
        exact ⟨⟨x, h, hx, hhx, by omega, rfl, rfl, Lib.hid ⟨HD.out.1, HD.out.2, HR.out.2.2.step_down HP.out (by omega) (by omega) (by omega) (by omega) hhx hhy h1⟩⟩, by simp [intOf]; omega⟩
    · obtain rfl : x = y := by omega
      have hE := HE.out
      obtain ⟨en, hen⟩ : ∃ en, en + x = e := ⟨e - x, by omega⟩
      have w1 : (e : Int) - (x : Int) = (en : Int) := by omega
      have HV : Hid (Srt.Halves key (fun k => s (Srt.rotI x m en k)) s a x d en c) := Lib.hid (HR.out.2.2.halves HP.out (by omega) hd0 hd1 (by omega) (by omega) (by omega) (by omega) (by omega) (by omega))
      have hf1 : en = d + m - x := by omega
      have hf2 : x ≤ d := hy
      have hf3 : en ≤ c := by omega
      have hf4 : d < en := by omega
      have hf5 : m ≤ en := by omega
      have hxm : x < m := by omega
      have HEN := Lib.hid hen
      clear hen hE hlt hf1
      have t1 : decide ((x : Int) < (m : Int)) = true := decide_eq_true (by omega)
      have t5 : decide ((d : Int) < (en : Int)) = true := decide_eq_true (by omega)
      by_cases c1 : x < d
      · have t2 : decide ((m : Int) < (en : Int)) = true := decide_eq_true (by have := HEN.out; have := HE.out; omega)
        have t4 : decide ((x : Int) < (d : Int)) = true := decide_eq_true (by omega)
        have hme : m < en := by have := HEN.out; have := HE.out; omega
        by_cases c2 : a < x
        · have t3 : decide ((a : Int) < (x : Int)) = true := decide_eq_true (by omega)
          by_cases c3 : en < c
          · have t6 : decide ((en : Int) < (c : Int)) = true := decide_eq_true (by omega)
            go_wp2_with fail
            (with_reducible refine (rotW_any b off cap n L s x m en _ _ HR.out.1 hxm (by omega) (by omega) hn).mono ?_)
            rintro e1 w1 ⟨rfl, q1, q2⟩
            have HS1 : Hid (WAt w1 b off n L (fun k => s (Srt.rotI x m en k)) ∧ Chg w w1 (fun k => k = b)) := Lib.hid ⟨q1, HR.out.2.1.trans q2 (fun _ _ h => h)⟩
            clear q1 q2
            go_wp2_with fail
            (with_reducible refine (ih.on b off cap n L _ a x d _ HS1.out.1 (HCM.out.chg HS1.out.2) (by omega) hn (HV.out.l1 (by omega) (by omega)) (by omega)).mono ?_)
            rintro e2 w2 ⟨rfl, u, q1, q2, q3, q4⟩
            have HS2 : Hid (WAt w2 b off n L u ∧ Chg w w2 (fun k => k = b) ∧ Srt.Into u (fun k => s (Srt.rotI x m en k)) a d ∧ Srt.Srt key u a d) := Lib.hid ⟨q1, HS1.out.2.trans q2 (fun _ _ h => h), q3, q4⟩
            clear q1 q2 q3 q4
            go_wp2_with fail
            (with_reducible refine (ih.on b off cap n L u d en c _ HS2.out.1 (HCM.out.chg HS2.out.2.1) hcn hn ((HV.out.r1' HS2.out.2.2.1).1 (by omega) (by omega)) (by omega)).mono ?_)
            rintro e3 w3 ⟨rfl, v, q1, q2, q3, q4⟩
            have HS3 : Hid (WAt w3 b off n L v ∧ Chg w w3 (fun k => k = b) ∧ Srt.Into v s a c ∧ Srt.Srt key v a c) := Lib.hid ⟨q1, HS2.out.2.1.trans q2 (fun _ _ h => h), HV.out.join (by omega) (by omega) HS2.out.2.2.1 HS2.out.2.2.2 q3 q4⟩
            clear q1 q2 q3 q4
            go_wp2_with fail
            go_end0
            exact ⟨rfl, _, HS3.out.1, HS3.out.2.1, HS3.out.2.2.1, HS3.out.2.2.2⟩
          · have t6 : decide ((en : Int) < (c : Int)) = false := decide_eq_false (by omega)
            go_wp2_with fail
            (with_reducible refine (rotW_any b off cap n L s x m en _ _ HR.out.1 hxm (by omega) (by omega) hn).mono ?_)
            rintro e1 w1 ⟨rfl, q1, q2⟩
            have HS1 : Hid (WAt w1 b off n L (fun k => s (Srt.rotI x m en k)) ∧ Chg w w1 (fun k => k = b)) := Lib.hid ⟨q1, HR.out.2.1.trans q2 (fun _ _ h => h)⟩
            clear q1 q2
            go_wp2_with fail
            (with_reducible refine (ih.on b off cap n L _ a x d _ HS1.out.1 (HCM.out.chg HS1.out.2) (by omega) hn (HV.out.l1 (by omega) (by omega)) (by omega)).mono ?_)
            rintro e2 w2 ⟨rfl, u, q1, q2, q3, q4⟩
            have HS2 : Hid (WAt w2 b off n L u ∧ Chg w w2 (fun k => k = b) ∧ Srt.Into u (fun k => s (Srt.rotI x m en k)) a d ∧ Srt.Srt key u a d) := Lib.hid ⟨q1, HS1.out.2.trans q2 (fun _ _ h => h), q3, q4⟩
            clear q1 q2 q3 q4
            obtain ⟨w3, hw3⟩ : ∃ w3 : World, w3 = w2 := ⟨_, rfl⟩
            subst hw3
            have HS3 : Hid (WAt w3 b off n L u ∧ Chg w w3 (fun k => k = b) ∧ Srt.Into u s a c ∧ Srt.Srt key u a c) := Lib.hid ⟨HS2.out.1, HS2.out.2.1, HV.out.join (by omega) (by omega) HS2.out.2.2.1 HS2.out.2.2.2 (Srt.Into.refl _ _ _) ((HV.out.r1' HS2.out.2.2.1).2 (by omega))⟩
            go_wp2_with fail
            go_end0
            exact ⟨rfl, _, HS3.out.1, HS3.out.2.1, HS3.out.2.2.1, HS3.out.2.2.2⟩
        · have t3 : decide ((a : Int) < (x : Int)) = false := decide_eq_false (by omega)
          by_cases c3 : en < c
          · have t6 : decide ((en : Int) < (c : Int)) = true := decide_eq_true (by omega)
            go_wp2_with fail
            (with_reducible refine (rotW_any b off cap n L s x m en _ _ HR.out.1 hxm (by omega) (by omega) hn).mono ?_)
            rintro e1 w1 ⟨rfl, q1, q2⟩
            have HS1 : Hid (WAt w1 b off n L (fun k => s (Srt.rotI x m en k)) ∧ Chg w w1 (fun k => k = b)) := Lib.hid ⟨q1, HR.out.2.1.trans q2 (fun _ _ h => h)⟩
            clear q1 q2
            obtain ⟨w2, hw2⟩ : ∃ w2 : World, w2 = w1 := ⟨_, rfl⟩
            subst hw2
            obtain ⟨u, hu⟩ : ∃ u, u = (fun k => s (Srt.rotI x m en k)) := ⟨_, rfl⟩
            have HS2 : Hid (WAt w2 b off n L u ∧ Chg w w2 (fun k => k = b) ∧ Srt.Into u (fun k => s (Srt.rotI x m en k)) a d ∧ Srt.Srt key u a d) := Lib.hid (by rw [hu]; exact ⟨HS1.out.1, HS1.out.2, Srt.Into.refl _ _ _, HV.out.l0 (by omega)⟩)
            clear hu
            go_wp2_with fail
            (with_reducible refine (ih.on b off cap n L u d en c _ HS2.out.1 (HCM.out.chg HS2.out.2.1) hcn hn ((HV.out.r1' HS2.out.2.2.1).1 (by omega) (by omega)) (by omega)).mono ?_)
            rintro e3 w3 ⟨rfl, v, q1, q2, q3, q4⟩
            have HS3 : Hid (WAt w3 b off n L v ∧ Chg w w3 (fun k => k = b) ∧ Srt.Into v s a c ∧ Srt.Srt key v a c) := Lib.hid ⟨q1, HS2.out.2.1.trans q2 (fun _ _ h => h), HV.out.join (by omega) (by omega) HS2.out.2.2.1 HS2.out.2.2.2 q3 q4⟩
            clear q1 q2 q3 q4
            go_wp2_with fail
            go_end0
            exact ⟨rfl, _, HS3.out.1, HS3.out.2.1, HS3.out.2.2.1, HS3.out.2.2.2⟩
          · have t6 : decide ((en : Int) < (c : Int)) = false := decide_eq_false (by omega)
            go_wp2_with fail
            (with_reducible refine (rotW_any b off cap n L s x m en _ _ HR.out.1 hxm (by omega) (by omega) hn).mono ?_)
            rintro e1 w1 ⟨rfl, q1, q2⟩
            have HS1 : Hid (WAt w1 b off n L (fun k => s (Srt.rotI x m en k)) ∧ Chg w w1 (fun k => k = b)) := Lib.hid ⟨q1, HR.out.2.1.trans q2 (fun _ _ h => h)⟩
            clear q1 q2
            obtain ⟨w2, hw2⟩ : ∃ w2 : World, w2 = w1 := ⟨_, rfl⟩
            subst hw2
            obtain ⟨u, hu⟩ : ∃ u, u = (fun k => s (Srt.rotI x m en k)) := ⟨_, rfl⟩
            have HS2 : Hid (WAt w2 b off n L u ∧ Chg w w2 (fun k => k = b) ∧ Srt.Into u (fun k => s (Srt.rotI x m en k)) a d ∧ Srt.Srt key u a d) := Lib.hid (by rw [hu]; exact ⟨HS1.out.1, HS1.out.2, Srt.Into.refl _ _ _, HV.out.l0 (by omega)⟩)
            clear hu
            obtain ⟨w3, hw3⟩ : ∃ w3 : World, w3 = w2 := ⟨_, rfl⟩
            subst hw3
            have HS3 : Hid (WAt w3 b off n L u ∧ Chg w w3 (fun k => k = b) ∧ Srt.Into u s a c ∧ Srt.Srt key u a c) := Lib.hid ⟨HS2.out.1, HS2.out.2.1, HV.out.join (by omega) (by omega) HS2.out.2.2.1 HS2.out.2.2.2 (Srt.Into.refl _ _ _) ((HV.out.r1' HS2.out.2.2.1).2 (by omega))⟩
            go_wp2_with fail
            go_end0
            exact ⟨rfl, _, HS3.out.1, HS3.out.2.1, HS3.out.2.2.1, HS3.out.2.2.2⟩
      · have t2 : decide ((m : Int) < (en : Int)) = false := decide_eq_false (by have := HEN.out; have := HE.out; omega)
        have t4 : decide ((x : Int) < (d : Int)) = false := decide_eq_false (by omega)
        have hme : en = m := by have := HEN.out; have := HE.out; omega
        have HME := Lib.hid hme
        clear hme
        have t3 : decide ((a : Int) < (x : Int)) = true := decide_eq_true (by omega)
        have c3 : en < c := by have := HME.out; omega
        have t6 : decide ((en : Int) < (c : Int)) = true := decide_eq_true (by omega)
        have HS1 : Hid (WAt wr b off n L (fun k => s (Srt.rotI x m en k)) ∧ Chg w wr (fun k => k = b)) := Lib.hid ⟨HR.out.1.congr (fun i _ => by rw [show en = m by omega, Srt.rotI_none' (by omega)]), HR.out.2.1⟩
        obtain ⟨w1, hw1⟩ : ∃ w1 : World, w1 = wr := ⟨_, rfl⟩
        subst hw1
        obtain ⟨w2, hw2⟩ : ∃ w2 : World, w2 = w1 := ⟨_, rfl⟩
        subst hw2
        obtain ⟨u, hu⟩ : ∃ u, u = (fun k => s (Srt.rotI x m en k)) := ⟨_, rfl⟩
        have HS2 : Hid (WAt w2 b off n L u ∧ Chg w w2 (fun k => k = b) ∧ Srt.Into u (fun k => s (Srt.rotI x m en k)) a d ∧ Srt.Srt key u a d) := Lib.hid (by rw [hu]; exact ⟨HS1.out.1, HS1.out.2, Srt.Into.refl _ _ _, HV.out.l0 (by omega)⟩)
        clear hu
        go_wp2_with fail
        (with_reducible refine (ih.on b off cap n L u d en c _ HS2.out.1 (HCM.out.chg HS2.out.2.1) hcn hn ((HV.out.r1' HS2.out.2.2.1).1 (by omega) (by omega)) (by omega)).mono ?_)
        rintro e3 w3 ⟨rfl, v, q1, q2, q3, q4⟩
        have HS3 : Hid (WAt w3 b off n L v ∧ Chg w w3 (fun k => k = b) ∧ Srt.Into v s a c ∧ Srt.Srt key v a c) := Lib.hid ⟨q1, HS2.out.2.1.trans q2 (fun _ _ h => h), HV.out.join (by omega) (by omega) HS2.out.2.2.1 HS2.out.2.2.2 q3 q4⟩
        clear q1 q2 q3 q4
        go_wp2_with fail
        go_end0
        exact ⟨rfl, _, HS3.out.1, HS3.out.2.1, HS3.out.2.2.1, HS3.out.2.2.2⟩
set_option maxRecDepth 100000 in
set_option maxHeartbeats 4000000 in
theorem symW_lo (g : Nat) (cb : Array Value) (key : Nat → Nat) (eg : ∀ args w, (callFunc g args).run Tryz.prog w = .ok (.enter g args) w) (N : Nat) (ih : SymOkW g cb key N) (b off cap n : Nat) (L : List Wr) (s : Nat → Nat) (a m c d : Nat) (w : World) (h : WAt w b off n L s) (hcm : CmpOkW g cb b n L key w) (hcn : c ≤ n) (hn : n ≤ 1000000) (P : Srt.Pre key s a m c) (hN : c - a ≤ N + 1) (ham : a + 2 ≤ m) (hmc : m + 2 ≤ c) (hd : d = (a + c) / 2) (hdm : m ≤ d) :
    Calls Tryz.prog 157 #[.slice (some ⟨b, off, none⟩) n cap, .int .i64 a, .int .i64 m, .int .i64 c, .func (.func g) #[] cb] w (SrwPostX key w b off n L s a c) := by
  have HCM := Lib.hid hcm
  have HS0 := Lib.hid h
  have HP := Lib.hid P
  have hd0 : a < d := by omega
  have hd1 : d < c := by omega
  have hd2 : 2 * d ≤ a + c := by omega
  have hd3 : a + c ≤ 2 * d + 1 := by omega
  obtain ⟨k1, hk1⟩ : ∃ k, k = m - a := ⟨_, rfl⟩
  obtain ⟨k2, hk2⟩ : ∃ k, k = c - m := ⟨_, rfl⟩
  have e1 : IntKind.i64.wrap ((m : Int) - (a : Int)) = (k1 : Int) := by rw [IntKind.wrap_i64]; omega
  have e2 : (m : Int) - (a : Int) = (k1 : Int) := by omega
  have e3 : ((k1 : Int) == 1) = false := by simp; omega
  have e4 : IntKind.i64.wrap ((c : Int) - (m : Int)) = (k2 : Int) := by rw [IntKind.wrap_i64]; omega
  have e5 : (c : Int) - (m : Int) = (k2 : Int) := by omega
  have e6 : ((k2 : Int) == 1) = false := by simp; omega
  have e7 : ((a : Int) + (c : Int)) / 2 = (d : Int) := by omega
  obtain ⟨e, he⟩ : ∃ e, e = d + m := ⟨_, rfl⟩
  have e8 : (d : Int) + (m : Int) = (e : Int) := by omega
  obtain ⟨p, hp⟩ : ∃ p, p + 1 = e := ⟨e - 1, by omega⟩
  have e9 : (e : Int) - 1 = (p : Int) := by omega
  have t0 : decide (d < m) = false := decide_eq_false (by omega)
  have HE : Hid (e = d + m ∧ p + 1 = e) := Lib.hid ⟨he, hp⟩
  clear hcm
  clear h P hk1 hk2 hd he hp
  go_enter Tryz.func157, Tryz.ntmps157
  go_wp2_with fail
  go_loopw [20, 21] (fun i j wr => ∃ x y : Nat, a ≤ x ∧ x ≤ y ∧ y ≤ m ∧ i = .int .i64 x ∧ j = .int .i64 y ∧ Hid (WAt wr b off n L s ∧ Chg w wr (fun k => k = b) ∧ Srt.Sea key s (d + m) a m x y)) (fun i j _ => (intOf j).toNat - (intOf i).toNat)
  case atStart => (have hE := HE.out; exact ⟨a, m, by omega, by omega, by omega, rfl, rfl, Lib.hid ⟨HS0.out, Chg.refl _ _, Nat.le_refl _, by omega, Nat.le_refl _, fun c h1 h2 => absurd h1 (by omega), fun c h1 h2 => absurd h1 (by omega)⟩⟩)
  case round =>
    obtain ⟨x, y, hx, hxy, hy, rfl, rfl, HR⟩ := hrel
    clear HS0
    by_cases hlt : x < y
    · have hE := HE.out
      obtain ⟨h, hh⟩ : ∃ h, h = (x + y) / 2 := ⟨_, rfl⟩
      have hd' : ((x : Int) + (y : Int)) / 2 = (h : Int) := by omega
      have hhx : x ≤ h := by omega
      have hhy : h < y := by omega
      have hhn : h < n := by omega
      obtain ⟨z, hz⟩ : ∃ z, z + h = p := ⟨p - h, by omega⟩
      have hzn : z < n := by omega
      have w1 : IntKind.i64.wrap ((p : Int) - (h : Int)) = (z : Int) := by rw [IntKind.wrap_i64]; omega
      have z1 : (h : Int) < (n : Int) := by omega
      have z2 : (z : Int) < (n : Int) := by omega
      have hzz : d + m - 1 - h = z := by omega
      have HZ := Lib.hid hzz
      clear hh hz hzz hE
      obtain ⟨q, hq⟩ : ∃ q, decide (key (s z) < key (s h)) = q := ⟨_, rfl⟩
      have hk := fun (u : World) (hu : Below wr.heap.size wr u) => HCM.out.at' HR.out.2.1 hu (HR.out.1.dom hzn) (HR.out.1.dom hhn)
      obtain ⟨A, hA⟩ : ∃ A, A = L[s z]! := ⟨_, rfl⟩
      obtain ⟨B, hB⟩ : ∃ B, B = L[s h]! := ⟨_, rfl⟩
      rw [hq, ← hA, ← hB] at hk
      have HK := Lib.hid hk
      clear hk
      have hks : ∀ w', Below wr.heap.size wr w' → Below wr.heap.size wr w' ∧ w'.cell? ⟨b, off + z * 6, none⟩ = some (.int .i64 A.k.kind) ∧ w'.cell? ⟨b, off + z * 6 + 1, none⟩ = some (.int .i64 A.k.a) ∧ w'.cell? ⟨b, off + z * 6 + 2, none⟩ = some (.int .i64 A.k.b) ∧ w'.cell? ⟨b, off + z * 6 + 3, none⟩ = some (.string A.k.s) ∧ w'.cell? ⟨b, off + z * 6 + 4, none⟩ = some (.string A.val) ∧ w'.cell? ⟨b, off + z * 6 + 5, none⟩ = some (.bool A.has) ∧ w'.cell? ⟨b, off + h * 6, none⟩ = some (.int .i64 B.k.kind) ∧ w'.cell? ⟨b, off + h * 6 + 1, none⟩ = some (.int .i64 B.k.a) ∧ w'.cell? ⟨b, off + h * 6 + 2, none⟩ = some (.int .i64 B.k.b) ∧ w'.cell? ⟨b, off + h * 6 + 3, none⟩ = some (.string B.k.s) ∧ w'.cell? ⟨b, off + h * 6 + 4, none⟩ = some (.string B.val) ∧ w'.cell? ⟨b, off + h * 6 + 5, none⟩ = some (.bool B.has) := fun w' hb => by
        have h' := HR.out.1.below hb
        rw [hA, hB]
        exact ⟨hb, h'.cell0 hzn, h'.cell1 hzn, h'.cell2 hzn, h'.cell3 hzn, h'.cell4 hzn, h'.cell5 hzn, h'.cell0 hhn, h'.cell1 hhn, h'.cell2 hhn, h'.cell3 hhn, h'.cell4 hhn, h'.cell5 hhn⟩
      have KS := Lib.hid hks
      have HAB := Lib.hid (And.intro hA hB)
      have HQ := Lib.hid hq
      clear hks hA hB hq
      go_wp2_with fail
      go_region_held3 (fun w' => Below wr.heap.size wr w' ∧ w'.cell? ⟨b, off + z * 6, none⟩ = some (.int .i64 A.k.kind) ∧ w'.cell? ⟨b, off + z * 6 + 1, none⟩ = some (.int .i64 A.k.a) ∧ w'.cell? ⟨b, off + z * 6 + 2, none⟩ = some (.int .i64 A.k.b) ∧ w'.cell? ⟨b, off + z * 6 + 3, none⟩ = some (.string A.k.s) ∧ w'.cell? ⟨b, off + z * 6 + 4, none⟩ = some (.string A.val) ∧ w'.cell? ⟨b, off + z * 6 + 5, none⟩ = some (.bool A.has) ∧ w'.cell? ⟨b, off + h * 6, none⟩ = some (.int .i64 B.k.kind) ∧ w'.cell? ⟨b, off + h * 6 + 1, none⟩ = some (.int .i64 B.k.a) ∧ w'.cell? ⟨b, off + h * 6 + 2, none⟩ = some (.int .i64 B.k.b) ∧ w'.cell? ⟨b, off + h * 6 + 3, none⟩ = some (.string B.k.s) ∧ w'.cell? ⟨b, off + h * 6 + 4, none⟩ = some (.string B.val) ∧ w'.cell? ⟨b, off + h * 6 + 5, none⟩ = some (.bool B.has))
        (first | exact KS.out _ (Below.refl _ _).drew | (go_split_ands; refine KS.out _ (below_then ?_ hbc); assumption))
        ((go_at_fn g; refine (HK.out _ (by go_split_ands; assumption)).mono ?_; rintro e wc ⟨cc, rfl, hcc, hbc⟩))
      go_split_ands
      have HBZ := Lib.hid (show Below wr.heap.size wr wc by assumption)
      have HD : Hid (WAt wc b off n L s ∧ Chg w wc (fun k => k = b)) := Lib.hid ⟨HR.out.1.below HBZ.out, HR.out.2.1.trans (Chg.of_below HBZ.out (fun k => k = b)) (fun _ _ h => h)⟩
      cases q
      · go_wp2_with fail
        have h1 := of_decide_eq_false HQ.out
        have hE := HE.out
        rw [← HZ.out] at h1
        exact ⟨⟨h + 1, y, by omega, by omega, hy, by go_num, rfl, Lib.hid ⟨HD.out.1, HD.out.2, HR.out.2.2.step_up HP.out (by omega) (by omega) (by omega) (by omega) hhx hhy h1⟩⟩, by simp [intOf]; omega⟩
      · go_wp2_with fail
        have h1 := of_decide_eq_true HQ.out
        have hE := HE.out
        rw [← HZ.out] at h1
        exact ⟨⟨x, h, hx, hhx, by omega, rfl, rfl, Lib.hid ⟨HD.out.1, HD.out.2, HR.out.2.2.step_down HP.out (by omega) (by omega) (by omega) (by omega) hhx hhy h1⟩⟩, by simp [intOf]; omega⟩
    · obtain rfl : x = y := by omega
      have hE := HE.out
      obtain ⟨en, hen⟩ : ∃ en, en + x = e := ⟨e - x, by omega⟩
      have w1 : (e : Int) - (x : Int) = (en : Int) := by omega
      have HV : Hid (Srt.Halves key (fun k => s (Srt.rotI x m en k)) s a x d en c) := Lib.hid (HR.out.2.2.halves HP.out (by omega) hd0 hd1 (by omega) (by omega) (by omega) (by omega) (by omega) (by omega))
      have hf1 : en = d + m - x := by omega
      have hf2 : x ≤ m := hy
      have hf3 : en ≤ c := by omega
      have hf4 : d ≤ en := by omega
      have hf5 : m ≤ en := by omega
      have HEN := Lib.hid hen
      clear hen hE hlt hf1
      by_cases c1 : x < m
      · have t1 : decide ((x : Int) < (m : Int)) = true := decide_eq_true (by omega)
        have hxm := c1
        have hme : m < en := by have := HEN.out; have := HE.out; omega
        have hde : d < en := by have := HEN.out; have := HE.out; omega
        have t2 : decide ((m : Int) < (en : Int)) = true := decide_eq_true (by omega)
        have t4 : decide ((x : Int) < (d : Int)) = true := decide_eq_true (by omega)
        have t5 : decide ((d : Int) < (en : Int)) = true := decide_eq_true (by omega)
        by_cases c2 : a < x
        · have t3 : decide ((a : Int) < (x : Int)) = true := decide_eq_true (by omega)
          have c3 : en < c := by have := HEN.out; have := HE.out; omega
          have t6 : decide ((en : Int) < (c : Int)) = true := decide_eq_true (by omega)
          go_wp2_with fail
          (with_reducible refine (rotW_any b off cap n L s x m en _ _ HR.out.1 hxm (by omega) (by omega) hn).mono ?_)
          rintro e1 w1 ⟨rfl, q1, q2⟩
          have HS1 : Hid (WAt w1 b off n L (fun k => s (Srt.rotI x m en k)) ∧ Chg w w1 (fun k => k = b)) := Lib.hid ⟨q1, HR.out.2.1.trans q2 (fun _ _ h => h)⟩
          clear q1 q2
          go_wp2_with fail
          (with_reducible refine (ih.on b off cap n L _ a x d _ HS1.out.1 (HCM.out.chg HS1.out.2) (by omega) hn (HV.out.l1 (by omega) (by omega)) (by omega)).mono ?_)
          rintro e2 w2 ⟨rfl, u, q1, q2, q3, q4⟩
          have HS2 : Hid (WAt w2 b off n L u ∧ Chg w w2 (fun k => k = b) ∧ Srt.Into u (fun k => s (Srt.rotI x m en k)) a d ∧ Srt.Srt key u a d) := Lib.hid ⟨q1, HS1.out.2.trans q2 (fun _ _ h => h), q3, q4⟩
          clear q1 q2 q3 q4
          go_wp2_with fail
          (with_reducible refine (ih.on b off cap n L u d en c _ HS2.out.1 (HCM.out.chg HS2.out.2.1) hcn hn ((HV.out.r1' HS2.out.2.2.1).1 (by omega) (by omega)) (by omega)).mono ?_)
          rintro e3 w3 ⟨rfl, v, q1, q2, q3, q4⟩
          have HS3 : Hid (WAt w3 b off n L v ∧ Chg w w3 (fun k => k = b) ∧ Srt.Into v s a c ∧ Srt.Srt key v a c) := Lib.hid ⟨q1, HS2.out.2.1.trans q2 (fun _ _ h => h), HV.out.join (by omega) (by omega) HS2.out.2.2.1 HS2.out.2.2.2 q3 q4⟩
          clear q1 q2 q3 q4
          go_wp2_with fail
          go_end0
          exact ⟨rfl, _, HS3.out.1, HS3.out.2.1, HS3.out.2.2.1, HS3.out.2.2.2⟩
        · have t3 : decide ((a : Int) < (x : Int)) = false := decide_eq_false (by omega)
          by_cases c3 : en < c
          · have t6 : decide ((en : Int) < (c : Int)) = true := decide_eq_true (by omega)
            go_wp2_with fail
            (with_reducible refine (rotW_any b off cap n L s x m en _ _ HR.out.1 hxm (by omega) (by omega) hn).mono ?_)
            rintro e1 w1 ⟨rfl, q1, q2⟩
            have HS1 : Hid (WAt w1 b off n L (fun k => s (Srt.rotI x m en k)) ∧ Chg w w1 (fun k => k = b)) := Lib.hid ⟨q1, HR.out.2.1.trans q2 (fun _ _ h => h)⟩
            clear q1 q2
            obtain ⟨w2, hw2⟩ : ∃ w2 : World, w2 = w1 := ⟨_, rfl⟩
            subst hw2
            obtain ⟨u, hu⟩ : ∃ u, u = (fun k => s (Srt.rotI x m en k)) := ⟨_, rfl⟩
            have HS2 : Hid (WAt w2 b off n L u ∧ Chg w w2 (fun k => k = b) ∧ Srt.Into u (fun k => s (Srt.rotI x m en k)) a d ∧ Srt.Srt key u a d) := Lib.hid (by rw [hu]; exact ⟨HS1.out.1, HS1.out.2, Srt.Into.refl _ _ _, HV.out.l0 (by omega)⟩)
            clear hu
            go_wp2_with fail
            (with_reducible refine (ih.on b off cap n L u d en c _ HS2.out.1 (HCM.out.chg HS2.out.2.1) hcn hn ((HV.out.r1' HS2.out.2.2.1).1 (by omega) (by omega)) (by omega)).mono ?_)
            rintro e3 w3 ⟨rfl, v, q1, q2, q3, q4⟩
            have HS3 : Hid (WAt w3 b off n L v ∧ Chg w w3 (fun k => k = b) ∧ Srt.Into v s a c ∧ Srt.Srt key v a c) := Lib.hid ⟨q1, HS2.out.2.1.trans q2 (fun _ _ h => h), HV.out.join (by omega) (by omega) HS2.out.2.2.1 HS2.out.2.2.2 q3 q4⟩
            clear q1 q2 q3 q4
            go_wp2_with fail
            go_end0
            exact ⟨rfl, _, HS3.out.1, HS3.out.2.1, HS3.out.2.2.1, HS3.out.2.2.2⟩
          · have t6 : decide ((en : Int) < (c : Int)) = false := decide_eq_false (by omega)
            go_wp2_with fail
            (with_reducible refine (rotW_any b off cap n L s x m en _ _ HR.out.1 hxm (by omega) (by omega) hn).mono ?_)
            rintro e1 w1 ⟨rfl, q1, q2⟩
            have HS1 : Hid (WAt w1 b off n L (fun k => s (Srt.rotI x m en k)) ∧ Chg w w1 (fun k => k = b)) := Lib.hid ⟨q1, HR.out.2.1.trans q2 (fun _ _ h => h)⟩
            clear q1 q2
            obtain ⟨w2, hw2⟩ : ∃ w2 : World, w2 = w1 := ⟨_, rfl⟩
            subst hw2
            obtain ⟨u, hu⟩ : ∃ u, u = (fun k => s (Srt.rotI x m en k)) := ⟨_, rfl⟩
            have HS2 : Hid (WAt w2 b off n L u ∧ Chg w w2 (fun k => k = b) ∧ Srt.Into u (fun k => s (Srt.rotI x m en k)) a d ∧ Srt.Srt key u a d) := Lib.hid (by rw [hu]; exact ⟨HS1.out.1, HS1.out.2, Srt.Into.refl _ _ _, HV.out.l0 (by omega)⟩)
            clear hu
            obtain ⟨w3, hw3⟩ : ∃ w3 : World, w3 = w2 := ⟨_, rfl⟩
            subst hw3
            have HS3 : Hid (WAt w3 b off n L u ∧ Chg w w3 (fun k => k = b) ∧ Srt.Into u s a c ∧ Srt.Srt key u a c) := Lib.hid ⟨HS2.out.1, HS2.out.2.1, HV.out.join (by omega) (by omega) HS2.out.2.2.1 HS2.out.2.2.2 (Srt.Into.refl _ _ _) ((HV.out.r1' HS2.out.2.2.1).2 (by omega))⟩
            go_wp2_with fail
            go_end0
            exact ⟨rfl, _, HS3.out.1, HS3.out.2.1, HS3.out.2.2.1, HS3.out.2.2.2⟩
      · have t1 : decide ((x : Int) < (m : Int)) = false := decide_eq_false (by omega)
        have hed : en = d := by have := HEN.out; have := HE.out; omega
        have t5 : decide ((d : Int) < (en : Int)) = false := decide_eq_false (by omega)
        have HED := Lib.hid hed
        have hed1 : en ≤ d := by omega
        clear hed
        have t3 : decide ((a : Int) < (x : Int)) = true := decide_eq_true (by omega)
        by_cases c2 : x < d
        · have t4 : decide ((x : Int) < (d : Int)) = true := decide_eq_true (by omega)
          have HS1 : Hid (WAt wr b off n L (fun k => s (Srt.rotI x m en k)) ∧ Chg w wr (fun k => k = b)) := Lib.hid ⟨HR.out.1.congr (fun i _ => by rw [show x = m by omega, Srt.rotI_none]), HR.out.2.1⟩
          obtain ⟨w1, hw1⟩ : ∃ w1 : World, w1 = wr := ⟨_, rfl⟩
          subst hw1
          go_wp2_with fail
          (with_reducible refine (ih.on b off cap n L _ a x d _ HS1.out.1 (HCM.out.chg HS1.out.2) (by omega) hn (HV.out.l1 (by omega) (by omega)) (by omega)).mono ?_)
          rintro e2 w2 ⟨rfl, u, q1, q2, q3, q4⟩
          have HS2 : Hid (WAt w2 b off n L u ∧ Chg w w2 (fun k => k = b) ∧ Srt.Into u (fun k => s (Srt.rotI x m en k)) a d ∧ Srt.Srt key u a d) := Lib.hid ⟨q1, HS1.out.2.trans q2 (fun _ _ h => h), q3, q4⟩
          clear q1 q2 q3 q4
          obtain ⟨w3, hw3⟩ : ∃ w3 : World, w3 = w2 := ⟨_, rfl⟩
          subst hw3
          have HS3 : Hid (WAt w3 b off n L u ∧ Chg w w3 (fun k => k = b) ∧ Srt.Into u s a c ∧ Srt.Srt key u a c) := Lib.hid ⟨HS2.out.1, HS2.out.2.1, HV.out.join (by omega) (by omega) HS2.out.2.2.1 HS2.out.2.2.2 (Srt.Into.refl _ _ _) ((HV.out.r1' HS2.out.2.2.1).2 (by omega))⟩
          go_wp2_with fail
          go_end0
          exact ⟨rfl, _, HS3.out.1, HS3.out.2.1, HS3.out.2.2.1, HS3.out.2.2.2⟩
        · have t4 : decide ((x : Int) < (d : Int)) = false := decide_eq_false (by omega)
          have HS1 : Hid (WAt wr b off n L (fun k => s (Srt.rotI x m en k)) ∧ Chg w wr (fun k => k = b)) := Lib.hid ⟨HR.out.1.congr (fun i _ => by rw [show x = m by omega, Srt.rotI_none]), HR.out.2.1⟩
          obtain ⟨w1, hw1⟩ : ∃ w1 : World, w1 = wr := ⟨_, rfl⟩
          subst hw1
          obtain ⟨w2, hw2⟩ : ∃ w2 : World, w2 = w1 := ⟨_, rfl⟩
          subst hw2
          obtain ⟨u, hu⟩ : ∃ u, u = (fun k => s (Srt.rotI x m en k)) := ⟨_, rfl⟩
          have HS2 : Hid (WAt w2 b off n L u ∧ Chg w w2 (fun k => k = b) ∧ Srt.Into u (fun k => s (Srt.rotI x m en k)) a d ∧ Srt.Srt key u a d) := Lib.hid (by rw [hu]; exact ⟨HS1.out.1, HS1.out.2, Srt.Into.refl _ _ _, HV.out.l0 (by omega)⟩)
          clear hu
          obtain ⟨w3, hw3⟩ : ∃ w3 : World, w3 = w2 := ⟨_, rfl⟩
          subst hw3
          have HS3 : Hid (WAt w3 b off n L u ∧ Chg w w3 (fun k => k = b) ∧ Srt.Into u s a c ∧ Srt.Srt key u a c) := Lib.hid ⟨HS2.out.1, HS2.out.2.1, HV.out.join (by omega) (by omega) HS2.out.2.2.1 HS2.out.2.2.2 (Srt.Into.refl _ _ _) ((HV.out.r1' HS2.out.2.2.1).2 (by omega))⟩
          go_wp2_with fail
          go_end0
          exact ⟨rfl, _, HS3.out.1, HS3.out.2.1, HS3.out.2.2.1, HS3.out.2.2.2⟩
theorem symW_all (g : Nat) (cb : Array Value) (key : Nat → Nat) (eg : ∀ args w, (callFunc g args).run Tryz.prog w = .ok (.enter g args) w) : ∀ N, SymOkW g cb key N
  | 0 => fun b off cap n L s a m c w _ _ _ _ P hN => by have := P.am; have := P.mb; omega
  | N + 1 => fun b off cap n L s a m c w h hcm hc hn P hN => by
    have ha := P.am
    have hm := P.mb
    by_cases h1 : m = a + 1
    · subst h1; exact symW_first g cb key eg b off cap n L s a c w h hcm hc hn P
    · by_cases h2 : c = m + 1
      · subst h2; exact symW_last g cb key eg b off cap n L s a m w h hcm hc hn (by omega) P
      · by_cases h3 : (a + c) / 2 < m
        · exact symW_hi g cb key eg N (symW_all g cb key eg N) b off cap n L s a m c _ w h hcm hc hn P hN (by omega) (by omega) rfl h3
        · exact symW_lo g cb key eg N (symW_all g cb key eg N) b off cap n L s a m c _ w h hcm hc hn P hN (by omega) (by omega) rfl (by omega)
end Go.Proofs.YtkbmipmegljidaaGreat
namespace Go.Proofs.YtkbmipmegljidaaGreat
open Go.RowKit Go.Maps


/-- the whole row, sorted -/
def SrwPostW (key : Nat → Nat) (w : World) (b off n : Nat) (L : List Wr) (e : Ending) (w' : World) : Prop :=
  e = .returned (.tuple #[]) ∧ ∃ t, WAt w' b off n L t ∧ Chg w w' (fun k => k = b) ∧ Srt.Into t (fun i => i) 0 n ∧ Srt.Srt key t 0 n
def BeW (w wr : World) (b off n : Nat) (L : List Wr) (X : (Nat → Nat) → Prop) : Prop := ∃ t, WAt wr b off n L t ∧ Chg w wr (fun k => k = b) ∧ X t
set_option maxRecDepth 100000 in
set_option maxHeartbeats 4000000 in
theorem staCW_any (g : Nat) (cb : Array Value) (key : Nat → Nat) (eg : ∀ args w, (callFunc g args).run Tryz.prog w = .ok (.enter g args) w) (b off cap n : Nat) (L : List Wr) (w : World) (h : WAt w b off n L (fun i => i)) (hcm : CmpOkW g cb b n L key w) (hn : n ≤ 1000000) :
    Calls Tryz.prog 121 #[.slice (some ⟨b, off, none⟩) n cap, .int .i64 n, .func (.func g) #[] cb] w (SrwPostW key w b off n L) := by
  have HCM := Lib.hid hcm
  have HS0 := Lib.hid h
  clear hcm
  clear h
  go_enter Tryz.func121, Tryz.ntmps121
  go_wp2_with fail
  go_loopw [7, 8] (fun i j wr => ∃ x y : Nat, x ≤ n ∧ y ≤ n + 20 ∧ i = .int .i64 x ∧ j = .int .i64 y ∧ Hid (y = x + 20 ∧ BeW w wr b off n L (fun t => Srt.Lev0 key t 20 x n))) (fun i _ _ => n - (intOf i).toNat)
  case atStart => exact ⟨0, 20, by omega, by omega, rfl, rfl, Lib.hid ⟨rfl, _, HS0.out, Chg.refl _ _, Srt.Lev0.start _ _ _⟩⟩
  case round =>
    obtain ⟨x, y, hx, hy, rfl, rfl, HR⟩ := hrel
    clear HS0
    obtain ⟨hxy, t, hT⟩ := HR.out
    have HT := Lib.hid hT
    have HXY := Lib.hid hxy
    clear hT HR hxy
    by_cases hlt : y ≤ n
    · go_wp2_with fail
      (with_reducible refine (insCW_any g cb key eg b off cap n L t x y _ HT.out.1 (HCM.out.chg HT.out.2.1) (by have := HXY.out; omega) hlt hn (fun p q h1 h2 h3 => by rw [HT.out.2.2.rest p h1, HT.out.2.2.rest q (by omega)]; exact h2)).mono ?_)
      rintro e w1 ⟨rfl, u, q1, q2, q3, q4⟩
      have HU : Hid (WAt w1 b off n L u ∧ Chg w w1 (fun k => k = b) ∧ Srt.Lev0 key u 20 y n) := Lib.hid ⟨q1, HT.out.2.1.trans q2 (fun _ _ h => h), by
        have e := HXY.out
        subst e
        exact HT.out.2.2.next (by omega) hlt q3 q4⟩
      clear q1 q2 q3 q4
      go_wp2_with fail
      refine ⟨⟨y, y + 20, by omega, by omega, rfl, by go_num, Lib.hid ⟨rfl, u, HU.out.1, HU.out.2.1, HU.out.2.2⟩⟩, ?_⟩
      have := HXY.out
      simp [intOf]; omega
    · go_wp2_with fail
      (with_reducible refine (insCW_any g cb key eg b off cap n L t x n _ HT.out.1 (HCM.out.chg HT.out.2.1) hx (Nat.le_refl _) hn (fun p q h1 h2 h3 => by rw [HT.out.2.2.rest p h1, HT.out.2.2.rest q (by omega)]; exact h2)).mono ?_)
      rintro e w1 ⟨rfl, u, q1, q2, q3, q4⟩
      have HU : Hid (BeW w w1 b off n L (fun t => Srt.Lev key t 20 n)) := Lib.hid ⟨u, q1, HT.out.2.1.trans q2 (fun _ _ h => h), by
        have e := HXY.out
        exact HT.out.2.2.last (by omega) q3 q4⟩
      clear q1 q2 q3 q4
      go_wp2_with fail
      go_loopw [6, 7, 8, 9] (fun i _ _ _ wr => ∃ d : Nat, 20 ≤ d ∧ d ≤ 2 * n + 20 ∧ i = .int .i64 d ∧ Hid (BeW w wr b off n L (fun t => Srt.Lev key t d n))) (fun i _ _ _ _ => n - (intOf i).toNat)
      case atStart => exact ⟨20, by omega, by omega, rfl, HU⟩
      case round =>
        obtain ⟨d, hd, hdn, rfl, HR⟩ := hrel
        clear HU HT
        by_cases hlt2 : d < n
        · obtain ⟨wo, rfl⟩ : ∃ wo : World, wo = wr := ⟨_, rfl⟩
          obtain ⟨d2, hd2⟩ : ∃ d2, d2 = 2 * d := ⟨_, rfl⟩
          have e1 : 2 * (d : Int) = (d2 : Int) := by omega
          have e2 : (d : Int) * 2 = (d2 : Int) := by omega
          have HD := Lib.hid hd2
          have hd20 : d < d2 := by omega
          have hd2n : d2 ≤ 2 * n := by omega
          clear hd2
          go_wp2_with fail
          go_loopw [7, 8] (fun i j wr => ∃ x y : Nat, x ≤ n ∧ y ≤ 3 * n ∧ i = .int .i64 x ∧ j = .int .i64 y ∧ Hid (y = x + d2 ∧ BeW w wr b off n L (fun t => Srt.LevI key t d x n))) (fun i _ _ => n - (intOf i).toNat)
          case atStart => (obtain ⟨t, h1, h2, h3⟩ := HR.out; exact ⟨0, d2, by omega, by omega, rfl, rfl, Lib.hid ⟨by omega, t, h1, h2, h3.start⟩⟩)
          case round =>
            obtain ⟨p, y2, hp, hy2, rfl, rfl, HR2⟩ := hrel
            clear HR
            obtain ⟨hxy, t, hT⟩ := HR2.out
            have HT := Lib.hid hT
            have HXY2 := Lib.hid hxy
            obtain ⟨m, hm⟩ : ∃ m, m = p + d := ⟨_, rfl⟩
            have e3 : (p : Int) + (d : Int) = (m : Int) := by omega
            have HM := Lib.hid hm
            clear hT HR2 hxy hm
            by_cases hlt3 : y2 ≤ n
            · go_wp2_with fail
              (with_reducible refine ((symW_all g cb key eg n).on b off cap n L t p m y2 _ HT.out.1 (HCM.out.chg HT.out.2.1) hlt3 hn (by
                have e := HM.out
                have e' := HXY2.out
                have e'' := HD.out
                subst e
                exact HT.out.2.2.pre (by omega) (by omega) (by omega) hlt3) (by omega)).mono ?_)
              rintro e w1 ⟨rfl, u, q1, q2, q3, q4⟩
              have HU : Hid (WAt w1 b off n L u ∧ Chg w w1 (fun k => k = b) ∧ Srt.LevI key u d y2 n) := Lib.hid ⟨q1, HT.out.2.1.trans q2 (fun _ _ h => h), by
                have e' := HXY2.out
                have e'' := HD.out
                subst e''
                subst e'
                exact HT.out.2.2.next hlt3 q3 q4⟩
              obtain ⟨y3, hy3⟩ : ∃ y3, y3 = y2 + d2 := ⟨_, rfl⟩
              have e4 : (y2 : Int) + (d2 : Int) = (y3 : Int) := by omega
              have HY3 := Lib.hid hy3
              clear q1 q2 q3 q4 hy3
              go_wp2_with fail
              refine ⟨⟨y2, y3, by omega, by have := HY3.out; omega, rfl, rfl, Lib.hid ⟨HY3.out, u, HU.out.1, HU.out.2.1, HU.out.2.2⟩⟩, ?_⟩
              have := HXY2.out
              simp [intOf]; omega
            · by_cases hlt4 : m < n
              · go_wp2_with fail
                (with_reducible refine ((symW_all g cb key eg n).on b off cap n L t p m n _ HT.out.1 (HCM.out.chg HT.out.2.1) (Nat.le_refl _) hn (by
                  have e := HM.out
                  have e' := HXY2.out
                  have e'' := HD.out
                  subst e
                  exact HT.out.2.2.pre (by omega) hlt4 (by omega) (Nat.le_refl _)) (by omega)).mono ?_)
                rintro e w1 ⟨rfl, u, q1, q2, q3, q4⟩
                have HU : Hid (WAt w1 b off n L u ∧ Chg w w1 (fun k => k = b) ∧ Srt.Lev key u d2 n) := Lib.hid ⟨q1, HT.out.2.1.trans q2 (fun _ _ h => h), by
                  have e' := HXY2.out
                  have e'' := HD.out
                  subst e''
                  exact HT.out.2.2.last (by omega) q3 q4⟩
                clear q1 q2 q3 q4
                go_wp2_with fail
                exact ⟨⟨d2, by omega, by omega, rfl, Lib.hid ⟨u, HU.out.1, HU.out.2.1, HU.out.2.2⟩⟩, by simp [intOf]; omega⟩
              · have HU : Hid (Srt.Lev key t d2 n) := Lib.hid (by
                  have e' := HXY2.out
                  have e'' := HD.out
                  have e := HM.out
                  subst e''
                  exact HT.out.2.2.last (by omega) (Srt.Into.refl _ _ _) (HT.out.2.2.single (by omega)))
                go_wp2_with fail
                exact ⟨⟨d2, by omega, by omega, rfl, Lib.hid ⟨t, HT.out.1, HT.out.2.1, HU.out⟩⟩, by simp [intOf]; omega⟩
        · obtain ⟨t, h1, h2, h3⟩ := HR.out
          have HF := Lib.hid (And.intro h1 (And.intro h2 h3))
          clear h1 h2 h3 HR
          go_wp2_with fail
          go_end0
          exact ⟨rfl, t, HF.out.1, HF.out.2.1, HF.out.2.2.all, HF.out.2.2.sorted (by omega)⟩
theorem stabW_any (g : Nat) (cb : Array Value) (key : Nat → Nat) (eg : ∀ args w, (callFunc g args).run Tryz.prog w = .ok (.enter g args) w) (b off cap n : Nat) (L : List Wr) (w : World) (h : WAt w b off n L (fun i => i)) (hcm : CmpOkW g cb b n L key w) (hn : n ≤ 1000000) :
    Calls Tryz.prog 91 #[.slice (some ⟨b, off, none⟩) n cap, .func (.func g) #[] cb] w (SrwPostW key w b off n L) := by
  have HS0 := Lib.hid (staCW_any g cb key eg b off cap n L w h hcm hn)
  clear h hcm
  go_enter Tryz.func91, Tryz.ntmps91
  go_wp2_with fail
  refine HS0.out.mono ?_
  rintro e w1 ⟨rfl, H⟩
  go_wp2_with fail
  go_end0
  exact ⟨rfl, H⟩
end Go.Proofs.YtkbmipmegljidaaGreat
