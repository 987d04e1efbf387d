/- JournalKeeps: its walk. Conditions: none. -/
import Derived.Test.YtcghgnncmnoalaaJk2
import Derived.Test.YtcghgnncmnoalaaJr1
import Derived.BigQuiet
import Derived.Deep.RegionHeld3
namespace Go.Proofs.Ytcghgnncmnoalaa
open Go.RowKit Go.Maps

theorem wpAnyH_nar {P : Program} {md : Region.Mode} {ops : Array Oper} {Q : Exit → Act → World → Prop} {S S' : World → Prop} (hs : ∀ w, S' w → S w) :
    ∀ (fuel : Nat) (listed : Array Bool) (a : Act) (w : World), wpAnyH P md ops Q S' fuel listed a w → wpAnyH P md ops Q S fuel listed a w
  | 0, _, _, _, h => h
  | fuel + 1, _, _, _, h => ⟨h.1, fun i hi => wpOp_mono (fun a' w' h' => ⟨hs _ h'.1, wpAnyH_nar hs fuel _ a' w' h'.2⟩) (h.2 i hi)⟩
theorem drewN_two (w : World) (a b : Nat) : (w.drewN a).drewN b = w.drewN (a + b) := by simp [World.drewN, Nat.add_assoc]
/-- l[:n] of records -/
theorem run_slicePR (a : Option Addr) (cap len i : Nat) (h1 : i ≤ cap) (w : World) :
    (Instr.sliceAt 24 (.slice a len cap) none (some (.int .i64 i)) none).run Try.prog w = .ok (.slice a i cap) w := by
  have hz : (i : Int) ≤ (cap : Int) := by omega
  cases a <;> simp [Instr.sliceAt, go_sem, Try.underlying24, hz]
/-- numbers of an epoch -/
structure Ep where
  a : Option Addr
  cap : Nat
  l : List Int
/-- epochs of an argument -/
def EpM (w : World) (a : Option Addr) (es : List Ep) : Prop := es ≠ [] → ∃ b off, a = some ⟨b, off, none⟩ ∧ b < w.heap.size ∧ ∀ (i : Nat) (x : Ep), es[i]? = some x → IsV w x.a x.l ∧ x.l.length ≤ maxLen ∧ w.cell? ⟨b, off + i, none⟩ = some (.slice x.a x.l.length x.cap)
theorem u8_wrap (n : Int) : ∃ u : UInt8, IntKind.u8.wrap n = (u.toNat : Int) := by
  have h1 : 0 ≤ IntKind.u8.wrap n ∧ IntKind.u8.wrap n < 256 := by
    unfold IntKind.wrap
    simp [IntKind.bits, IntKind.signed]
    omega
  obtain ⟨m, hm⟩ := Int.eq_ofNat_of_zero_le h1.1
  refine ⟨UInt8.ofNat m, ?_⟩
  rw [hm]
  have : m < 256 := by omega
  simp
  omega
theorem promR_kp {len st s : Nat} {u : UInt8} (hl : len ≤ 10000) (h1 : st ≠ 0) (h2 : st < 4611686018427387904) (hs : s < 100) : promR 1048576 len 0 ⟨st, [exV s u]⟩ = (37, 0, 37) := by
  have hp : (packL 1 (bodyL st [exV s u])).length = 37 := by rw [pack_len, exV_len]
  unfold promR
  rw [if_neg (by rw [exV_wrong h1 h2 hs]; decide)]
  simp only [hp]
  rw [if_neg (by omega)]
  rfl
theorem appR_kp {len st s : Nat} {u : UInt8} (hl : len ≤ 10000) (h1 : st ≠ 0) (h2 : st < 4611686018427387904) (hs : s < 100) : appR 1048576 len 37 ⟨st, [exV s u]⟩ = (0, 0, packL 1 (bodyL st [exV s u])) := by
  obtain ⟨P, hP⟩ : ∃ P, P = packL 1 (bodyL st [exV s u]) := ⟨_, rfl⟩
  have hp : P.length = 37 := by rw [hP, pack_len, exV_len]
  unfold appR
  rw [if_neg (by rw [exV_wrong h1 h2 hs]; decide)]
  simp only [← hP, hp]
  rw [if_neg (by omega), if_pos (by omega)]
  rfl
theorem mkE_kp {len E : Nat} {last : Int} (hl : len ≤ 10000) (hE : E ≤ 100) (h : last = if E = 0 then (-1 : Int) else (E : Int)) : mkE 1048576 len 0 last ((E : Int) + 1) = 0 := by
  unfold mkE
  rw [if_neg (by unfold epB inB; simp; omega), if_neg (by rw [h]; split <;> omega), if_neg (by omega)]
namespace KpJ
variable {w wr : World} {jb db safe E top sn : Nat} {last : Int} {l : List UInt8} {ms : List (Int × Int)} {v : Value} {zs : List Rv} {items : List It}
/-- a record is laid -/
theorem laid {w' : World} {st s : Nat} {u : UInt8} (h : KpJ w wr jb db safe last l ms v zs (zs.map Rv.rc) items E top sn) (hs : JS w' jb db 1048576 safe 0 last w.heap.size (l ++ packL 1 (bodyL st [exV s u])) ms)
    (hc : Chg wr w' (fun j => j = jb ∨ j = db ∨ dob wr db = some j ∨ job wr jb = some j)) (h1 : st ≠ 0) (h2 : st < 4611686018427387904) (h3 : s < 100) (ht : top ≤ st) (he : epR ⟨st, [exV s u]⟩ = E + 1) :
    KpJ w w' jb db safe last (l ++ packL 1 (bodyL st [exV s u])) ms v zs (zs.map Rv.rc ++ [⟨st, [exV s u]⟩]) (items ++ [It.rc ⟨st, [exV s u]⟩]) E (st + 1) sn := by
  obtain ⟨j0, f1, f2, f3⟩ := h.f
  refine h.turn hs hc (h.p.put ⟨st, [exV s u]⟩ (exV_wrong h1 h2 h3) (by show (bodyL st [exV s u]).length ≤ _; rw [exV_len]; omega) ht he) ⟨j0, by rw [List.length_append]; omega, ?_, ?_⟩ (by rw [List.length_append]; have := h.sn; omega) h.la h.ml ?_
  · rw [List.take_append_of_le_length f1]; exact f2
  · rw [List.take_append_of_le_length f1, List.take_append_of_le_length h.sn]; exact f3
  · rw [List.length_append, List.length_append, pack_len, exV_len]
    have := h.ll
    simp only [List.length_cons, List.length_nil]
    omega
/-- a mark is laid -/
theorem marked {w' : World} {n : Int} (h : KpJ w wr jb db safe last l ms v zs (zs.map Rv.rc) items E top sn) (hn : n = (E : Int) + 1) (hE : E + 1 ≤ 100) (hs : JS w' jb db 1048576 safe 0 n w.heap.size (l ++ packL 2 (fourL n.toNat)) (ms ++ [(n, ((l.length + 14 : Nat) : Int))]))
    (hc : Chg wr w' (fun j => j = jb ∨ j = db ∨ dob wr db = some j ∨ job wr jb = some j)) :
    KpJ w w' jb db safe n (l ++ packL 2 (fourL n.toNat)) (ms ++ [(n, ((l.length + 14 : Nat) : Int))]) v zs (zs.map Rv.rc) (items ++ [It.mk (E + 1)]) (E + 1) top sn ∧ ((items ++ [It.mk (E + 1)]).foldl itS lg0).sure = zs.map Rv.rc ∧ (l ++ packL 2 (fourL n.toNat)).length = l.length + 14 := by
  have hn2 : n.toNat = E + 1 := by omega
  obtain ⟨j0, f1, f2, f3⟩ := h.f
  obtain ⟨p1, p2, _⟩ := h.p.mark (by omega)
  rw [← hn2] at p1
  have hlen : (l ++ packL 2 (fourL n.toNat)).length = l.length + 14 := by rw [List.length_append, pack_len]; simp [fourL]
  rw [hn2] at p1 hs hlen ⊢
  refine ⟨h.turn hs hc p1 ⟨j0, by rw [List.length_append]; omega, ?_, ?_⟩ h.sn (by rw [if_neg (by omega)]; omega) (by rw [List.length_append]; have := h.ml; simp; omega) ?_, p2, hlen⟩
  · rw [List.take_append_of_le_length f1]; exact f2
  · rw [List.take_append_of_le_length f1]; exact f3
  · rw [hlen]; have := h.ll; omega
end KpJ
theorem sureOf_new (ms : List (Int × Int)) (n : Int) (k : Nat) (s0 : Int) : sureOf (k : Int) s0 (ms ++ [(n, (k : Int))]) = n := by rw [sureOf_snoc, if_pos (Int.le_refl _)]
set_option maxRecDepth 100000 in
set_option maxHeartbeats 8000000 in
theorem keeps_any (ea : Option Addr) (ecap : Nat) (es : List Ep) (flush keep : Int) (w : World) (he : EpM w ea es) (hel : es.length ≤ maxLen) :
    Calls Try.prog 11 #[.slice ea es.length ecap, .int .i64 flush, .int .i64 keep] w (BoolPost w true) := by
  unfold maxLen at hel
  have HE := Lib.hid he
  clear he
  obtain ⟨en, hen⟩ : ∃ n, n = es.length := ⟨_, rfl⟩
  rw [← hen] at hel ⊢
  have HEN := Lib.hid hen
  clear hen
  go_enter Try.func11, Try.ntmps11
  go_wp2_with fail
  (with_reducible refine (awake15_any _).mono ?_)
  rintro e w1 ⟨rfl, b1⟩
  have HB1 := Lib.hid b1
  clear b1
  by_cases hbk : 10 < en
  · have t2 : decide ((10 : Int) < (en : Int)) = true := decide_eq_true (by omega)
    go_wp2_with fail
    (with_reducible refine (awake15_any _).mono ?_)
    rintro e w2 ⟨rfl, b2⟩
    have HB2 := Lib.hid b2
    clear b2
    go_wp2_with fail
    go_ret
    exact ⟨rfl, below_then HB1.out HB2.out⟩
  have t2 : decide ((10 : Int) < (en : Int)) = false := decide_eq_false (by omega)
  go_wp2_with fail
  refine (dkNew_any 1048576 (by omega) w1).mono ?_
  rintro e w2 ⟨rfl, d2, b2⟩
  have HD2 := Lib.hid d2
  have HB2 := Lib.hid b2
  clear d2 b2 t2
  go_wp2_with fail
  refine (jOpen_any HD2.out HB2.out.size).mono ?_
  rintro e w3 ⟨jb, a3, c3, rs3, rfl, _, _, m3, _, hjb, s3, g3⟩
  have hcut : (lgN []).cut = 0 := by have := cut_le []; simpa using this
  obtain ⟨hla, hou⟩ := cut_none [] hcut
  rw [hou] at m3
  obtain rfl : rs3 = [] := List.map_eq_nil_iff.1 m3
  rw [hla, hcut] at s3
  have HJ0 : Hid (KpJ w1 w3 jb w1.heap.size 0 (-1) [] [(-1, 0)] (.slice none 0 0) [] [] [] 0 0 0) := Lib.hid ⟨s3, HB2.out.trans (g3.below HB2.out.size (fun i hi => by rw [hi]; exact Nat.le_refl _)), RowK.Own.nil kR _ _, fun x hx => (by cases hx), KpI.start, ⟨0, Nat.le_refl _, by rw [List.take_nil]; exact Nat.le_refl _, by rw [List.take_nil]; rfl⟩, Nat.le_refl _, rfl, by simp, by simp, Nat.le_trans HB2.out.size hjb, Nat.le_refl _⟩
  clear m3 hjb s3 g3 hcut hla hou HD2 HB2
  go_wp2_with fail
  go_loopw [12, 13, 14, 15, 16, 17, 18] (fun vr vs vi _ _ _ _ wr => ∃ (a : Option Addr) (zn cap i safe sn top : Nat) (last : Int) (zs : List Rv) (l : List UInt8) (ms : List (Int × Int)) (items : List It), i ≤ en ∧ vr = .slice a zn cap ∧ vs = .int .i64 sn ∧ vi = .int .i64 i ∧ Hid (KpJ w1 wr jb w1.heap.size safe last l ms (.slice a zn cap) zs (zs.map Rv.rc) items i top sn ∧ zn = zs.length ∧ zn ≤ 10 * i ∧ top ≤ (i + 1) * 2147483648)) (fun _ _ vi _ _ _ _ _ => en - (intOf vi).toNat)
  case atStart => exact ⟨none, 0, 0, 0, 0, 0, 0, -1, [], [], _, [], by omega, rfl, rfl, rfl, Lib.hid ⟨HJ0.out, rfl, by omega, by omega⟩⟩
  case round =>
    obtain ⟨a, zn, cap, i, safe, sn, top, last, zs, l, ms, items, hi, rfl, rfl, rfl, HR⟩ := hrel
    clear HJ0
    by_cases hik : i < en
    · have hikz : (i : Int) < (en : Int) := by omega
      obtain ⟨x, hx⟩ : ∃ x, es[i]? = some x := ⟨_, List.getElem?_eq_getElem (by have := HEN.out; omega)⟩
      obtain ⟨eb, eoff, hea, heb, heat⟩ := HE.out (fun e => by rw [e] at hx; simp at hx)
      obtain ⟨hxv, hxl, hxc⟩ := heat i x hx
      obtain ⟨xa, xcap, xl⟩ := x
      simp only at hxv hxl hxc
      unfold maxLen at hxl
      obtain ⟨xn, hxn⟩ : ∃ n, n = xl.length := ⟨_, rfl⟩
      rw [← hxn] at hxc hxl
      have HK0 : Hid (∀ u : World, Below w1.heap.size w1 u → u.cell? ⟨eb, eoff + i, none⟩ = some (.slice xa xn xcap)) := Lib.hid (fun u hu => ((below_then HB1.out hu).cell (p := ⟨eb, eoff + i, none⟩) heb).trans hxc)
      have HXV := Lib.hid hxv
      have HXN := Lib.hid hxn
      subst hea
      clear hx heat hxv hxc hxn
      have k0 := HK0.out _ HR.out.1.b
      by_cases hx10 : 10 < xn
      · have t1 : decide ((10 : Int) < (xn : Int)) = true := decide_eq_true (by omega)
        have HBE := Lib.hid (below_then HB1.out HR.out.1.b)
        go_wp2_with fail
        go_ret
        exact ⟨rfl, HBE.out⟩
      · have t1 : decide ((10 : Int) < (xn : Int)) = false := decide_eq_false (by omega)
        go_wp2_with fail
        clear t1 k0
        obtain ⟨wo, rfl⟩ : ∃ wo : World, wo = wr := ⟨_, rfl⟩
        go_loopw [12, 15, 16, 17, 18] (fun vr vk _ _ _ wr => ∃ (a : Option Addr) (zn cap k top : Nat) (zs : List Rv) (l : List UInt8) (items : List It), k ≤ xn ∧ vr = .slice a zn cap ∧ vk = .int .i64 k ∧ Hid (KpJ w1 wr jb w1.heap.size safe last l ms (.slice a zn cap) zs (zs.map Rv.rc) items i top sn ∧ zn = zs.length ∧ zn ≤ 10 * i + k ∧ top ≤ (i + 1) * 2147483648 + k + 1)) (fun _ vk _ _ _ _ => xn - (intOf vk).toNat)
        case atStart => exact ⟨a, zn, cap, 0, top, zs, l, items, by omega, rfl, rfl, Lib.hid ⟨HR.out.1, HR.out.2.1, by have := HR.out.2.2.1; omega, by rw [Nat.add_zero]; exact Nat.le_succ_of_le HR.out.2.2.2⟩⟩
        case round =>
          obtain ⟨a, zn, cap, k, top, zs, l, items, hk, rfl, rfl, HS⟩ := hrel
          clear HR
          have k0 := HK0.out _ HS.out.1.b
          by_cases hkx : k < xn
          · have hkxz : (k : Int) < (xn : Int) := by omega
            obtain ⟨st, hst⟩ : ∃ s : Nat, s = (i + 1) * 2147483648 + (k + 1) := ⟨_, rfl⟩
            have HST := Lib.hid hst
            have HREC : Hid (Calls Try.prog 61 #[.int .i64 ((i : Int) + 1), .int .i64 ((k : Int) + 1)] wr (R15Post wr st (k + 1))) := Lib.hid (by
              have h := rec15_any (i + 1) (k + 1) st (by omega) (by omega) hst.symm wr
              rwa [show (((i + 1 : Nat)) : Int) = (i : Int) + 1 from by omega, show (((k + 1 : Nat)) : Int) = (k : Int) + 1 from by omega] at h)
            clear hst
            go_wp2_with fail
            refine HREC.out.mono ?_
            rintro e w4 ⟨b, hbw, rfl, e4, b4⟩
            have HBW : Hid (wr.heap.size ≤ b) := Lib.hid hbw
            obtain ⟨rb, hrb⟩ : ∃ x, x = w4.heap.size := ⟨_, rfl⟩
            obtain ⟨W, hW⟩ : ∃ W, w4.alloc (.cells #[.int .u64 st, .slice (some ⟨b, 0, none⟩) 1 1] 35) = W := ⟨_, rfl⟩
            have bW : Below w4.heap.size w4 W := by rw [← hW]; exact below_box _ _
            have HEW : Hid (W.heap[rb]? = some (.cells #[.int .u64 st, .slice (some ⟨b, 0, none⟩) 1 1] 35)) := Lib.hid (by rw [← hW, hrb]; exact heap_new _ _)
            have HWB : Hid (W.heap[b]? = some (.cells (wrCells (k + 1) 120) 80)) := Lib.hid ((bW.block _ (Array.getElem?_eq_some_iff.1 e4).1).trans e4)
            have HBL : Hid (Below wr.heap.size wr W) := Lib.hid (below_then b4 bW)
            have HRB := Lib.hid hrb
            have HW := Lib.hid hW
            obtain ⟨eb2, eoff2, hxa, hxlt, hxat⟩ := HXV.out (fun e => by have := HXN.out; rw [e] at this; simp at this; omega)
            obtain ⟨pn, hpn⟩ : ∃ o, xl[k]? = some o := ⟨_, List.getElem?_eq_getElem (by have := HXN.out; omega)⟩
            obtain ⟨uu, huu⟩ := u8_wrap pn
            have HC : Hid (∀ u : World, Below wr.heap.size wr u → u.cell? ⟨eb, eoff + i, none⟩ = some (.slice xa xn xcap) ∧ u.cell? ⟨eb2, eoff2 + k, none⟩ = some (.int .i64 pn)) := Lib.hid (fun u hu => ⟨HK0.out _ (below_then HS.out.1.b hu), ((below_then HB1.out (below_then HS.out.1.b hu)).cell (p := ⟨eb2, eoff2 + k, none⟩) hxlt).trans (hxat k pn hpn)⟩)
            have HXA := Lib.hid hxa
            have HNE : Hid (rb ≠ b) := Lib.hid (ty_ne' HEW.out HWB.out (by decide))
            subst hxa
            clear hrb hW bW e4 b4 hbw hpn hxat k0
            go_upto_region 20 with fail
            rw [HW.out, ← HRB.out]
            have v1 := cell_of_blk HEW.out 1
            have f4 := frozen_of_blk HWB.out 4
            simp at v1
            as_aux_lemma =>
              refine wp_region_held_drew (S := (fun w' : World => w'.cell? ⟨rb, 1, none⟩ = some (.slice (some ⟨b, 0, none⟩) 1 1) ∧ w'.cell? ⟨eb, eoff + i, none⟩ = some (.slice (some ⟨eb2, eoff2, none⟩) xn xcap) ∧ w'.cell? ⟨eb2, eoff2 + k, none⟩ = some (.int .i64 pn))) (by kernel_rfl) (⟨by simpa using cell_of_blk HEW.out 1, (HC.out _ HBL.out).1, (HC.out _ HBL.out).2⟩) (fun hHeld => ?_)
              obtain ⟨X, hGen⟩ : ∃ u, u = World.drew W := ⟨_, rfl⟩
              rw [← hGen] at hHeld ⊢
              have HBX : Hid (Below wr.heap.size wr X) := Lib.hid (by rw [hGen]; exact below_drewN HBL.out 1)
              have HEX : Hid (X.heap[rb]? = some (.cells #[.int .u64 st, .slice (some ⟨b, 0, none⟩) 1 1] 35)) := Lib.hid (by rw [hGen]; exact HEW.out)
              have HVX : Hid (X.heap[b]? = some (.cells (wrCells (k + 1) 120) 80)) := Lib.hid (by rw [hGen]; exact HWB.out)
              clear v1 f4
              clear hGen
              refine wpAnyH_take (i := 0) (oi := ⟨some 78, _, _, _, _, _⟩) (v := ?vvpd1) rfl (by kernel_rfl) (by kernel_rfl) (by kernel_rfl) (fun _ _ _ h => h) (Or.inl ⟨by rfl, ?yypd1⟩) hHeld ?rrpd1
              case yypd1 => (intro wq hSw; (try dsimp only at hSw); go_simp; first | done | with_reducible rfl)
              simp only [Act.put, List.setIfInBounds_toArray, List.set_cons_zero, List.set_cons_succ]
              refine wpAnyH_take (i := 1) (oi := ⟨some 79, _, _, _, _, _⟩) (v := ?vvpd2) rfl (by kernel_rfl) (by kernel_rfl) (by kernel_rfl) (fun _ _ _ h => h) (Or.inl ⟨by rfl, ?yypd2⟩) hHeld ?rrpd2
              case yypd2 => (intro wq hSw; (try dsimp only at hSw); go_simp; first | done | with_reducible rfl)
              simp only [Act.put, List.setIfInBounds_toArray, List.set_cons_zero, List.set_cons_succ]
              refine wpAnyH_take (i := 2) (oi := ⟨some 80, _, _, _, _, _⟩) (v := ?vvpd3) rfl (by kernel_rfl) (by kernel_rfl) (by kernel_rfl) (fun _ _ _ h => h) (Or.inl ⟨by rfl, ?yypd3⟩) hHeld ?rrpd3
              case yypd3 => (intro wq hSw; (try dsimp only at hSw); go_simp; first | done | with_reducible rfl)
              simp only [Act.put, List.setIfInBounds_toArray, List.set_cons_zero, List.set_cons_succ]
              refine wpAnyH_take (i := 3) (oi := ⟨some 81, _, _, _, _, _⟩) (v := ?vvpd4) rfl (by kernel_rfl) (by kernel_rfl) (by kernel_rfl) (fun _ _ _ h => h) (Or.inl ⟨by rfl, ?yypd4⟩) hHeld ?rrpd4
              case yypd4 => (intro wq hSw; (try dsimp only at hSw); go_simp; first | done | with_reducible rfl)
              simp only [Act.put, List.setIfInBounds_toArray, List.set_cons_zero, List.set_cons_succ]
              refine wpAnyH_take (i := 4) (oi := ⟨some 82, _, _, _, _, _⟩) (v := ?vvpd5) rfl (by kernel_rfl) (by kernel_rfl) (by kernel_rfl) (fun _ _ _ h => h) (Or.inl ⟨by rfl, ?yypd5⟩) hHeld ?rrpd5
              case yypd5 => (intro wq hSw; (try dsimp only at hSw); go_simp; first | done | with_reducible rfl)
              simp only [Act.put, List.setIfInBounds_toArray, List.set_cons_zero, List.set_cons_succ]
              refine wpAnyH_take (i := 5) (oi := ⟨some 83, _, _, _, _, _⟩) (v := ?vvpd6) rfl (by kernel_rfl) (by kernel_rfl) (by kernel_rfl) (fun _ _ _ h => h) (Or.inl ⟨by rfl, ?yypd6⟩) hHeld ?rrpd6
              case yypd6 => (intro wq hSw; (try dsimp only at hSw); go_simp; first | done | with_reducible rfl)
              simp only [Act.put, List.setIfInBounds_toArray, List.set_cons_zero, List.set_cons_succ]
              refine wpAnyH_take (i := 6) (oi := ⟨some 84, _, _, _, _, _⟩) (v := ?vvpd7) rfl (by kernel_rfl) (by kernel_rfl) (by kernel_rfl) (fun _ _ _ h => h) (Or.inl ⟨by rfl, ?yypd7⟩) hHeld ?rrpd7
              case yypd7 => (intro wq hSw; (try dsimp only at hSw); go_simp; first | done | with_reducible rfl)
              simp only [Act.put, List.setIfInBounds_toArray, List.set_cons_zero, List.set_cons_succ]
              refine wpAnyH_take (i := 7) (oi := ⟨some 85, _, _, _, _, _⟩) (v := ?vvpd8) rfl (by kernel_rfl) (by kernel_rfl) (by kernel_rfl) (fun _ _ _ h => h) (Or.inl ⟨by rfl, ?yypd8⟩) hHeld ?rrpd8
              case yypd8 => (intro wq hSw; (try dsimp only at hSw); go_simp; first | done | with_reducible rfl)
              simp only [Act.put, List.setIfInBounds_toArray, List.set_cons_zero, List.set_cons_succ]
              refine wpAnyH_take (i := 8) (oi := ⟨some 86, _, _, _, _, _⟩) (v := ?vvpd9) rfl (by kernel_rfl) (by kernel_rfl) (by kernel_rfl) (fun _ _ _ h => h) (Or.inl ⟨by rfl, ?yypd9⟩) hHeld ?rrpd9
              case yypd9 => (intro wq hSw; (try dsimp only at hSw); go_simp; first | done | with_reducible rfl)
              simp only [Act.put, List.setIfInBounds_toArray, List.set_cons_zero, List.set_cons_succ]
              refine wpAnyH_take (i := 9) (oi := ⟨some 87, _, _, _, _, _⟩) (v := ?vvpd10) rfl (by kernel_rfl) (by kernel_rfl) (by kernel_rfl) (fun _ _ _ h => h) (Or.inl ⟨by rfl, ?yypd10⟩) hHeld ?rrpd10
              case yypd10 => (intro wq hSw; (try dsimp only at hSw); go_simp; first | done | with_reducible rfl)
              simp only [Act.put, List.setIfInBounds_toArray, List.set_cons_zero, List.set_cons_succ]
              refine wpAnyH_ready (rs := [10]) (by kernel_rfl) (by simp) ?_
              refine AllReadyH.cons (o := ⟨some 88, _, _, _, _, _⟩) rfl (fun K hK => ?_) AllReadyH.nil
              go_simp
              obtain ⟨n8, hn8⟩ : ∃ u, u = X.alloc (.cells #[.int .u8 uu.toNat] 5) := ⟨_, rfl⟩
              obtain ⟨g8, hg8⟩ : ∃ g, g = X.heap.size := ⟨_, rfl⟩
              rw [← hn8, ← hg8]
              have b8 : Below X.heap.size X n8 := by rw [hn8]; exact below_box _ _
              have e8 : n8.heap[g8]? = some (.cells #[.int .u8 uu.toNat] 5) := by rw [hn8, hg8]; exact heap_new _ _
              have HB8 : Hid (Below wr.heap.size wr n8) := Lib.hid (below_then HBX.out b8)
              have HW8 : Hid (n8.heap[rb]? = some (.cells #[.int .u64 st, .slice (some ⟨b, 0, none⟩) 1 1] 35)) := Lib.hid ((b8.block _ (Array.getElem?_eq_some_iff.1 HEX.out).1).trans HEX.out)
              have HV8 : Hid (n8.heap[b]? = some (.cells (wrCells (k + 1) 120) 80)) := Lib.hid ((b8.block _ (Array.getElem?_eq_some_iff.1 HVX.out).1).trans HVX.out)
              have HC8 : Hid ((convert 22 9 (.slice (some ⟨g8, 0, none⟩) 1 1)).run Try.prog n8 = .ok (.string ⟨#[uu]⟩) n8) := Lib.hid (conv_at (l := [uu]) ⟨fun j y hj => by
                obtain ⟨hj2, rfl⟩ := List.getElem?_eq_some_iff.1 hj
                have hj0 : j = 0 := by simpa using hj2
                subst hj0
                rw [cell_of_blk e8]; rfl, (Array.getElem?_eq_some_iff.1 e8).1⟩)
              have HE8 := Lib.hid e8
              have f4 := frozen_of_blk HV8.out 4
              have v4 := cell_of_blk HV8.out 4
              simp [wrCells] at v4
              clear hn8 hg8 b8 e8
              refine hK.out _ _ ?sspd11 (fun hHeld => ?_)
              case sspd11 => (exact ⟨by simpa using cell_of_blk HW8.out 1, (HC.out _ HB8.out).1, (HC.out _ HB8.out).2⟩)
              clear hK K
              try simp only [Act.put, List.setIfInBounds_toArray, List.set_cons_zero, List.set_cons_succ]
              refine wpAnyH_nar (S' := (fun w' : World => w'.cell? ⟨rb, 1, none⟩ = some (.slice (some ⟨b, 0, none⟩) 1 1) ∧ w'.cell? ⟨eb, eoff + i, none⟩ = some (.slice (some ⟨eb2, eoff2, none⟩) xn xcap) ∧ w'.cell? ⟨eb2, eoff2 + k, none⟩ = some (.int .i64 pn) ∧ (convert 22 9 (.slice (some ⟨g8, 0, none⟩) 1 1)).run Try.prog w' = .ok (.string ⟨#[uu]⟩) w')) (fun _ h => ⟨h.1, h.2.1, h.2.2.1⟩) _ _ _ _ ?_
              replace hHeld : (fun w' : World => w'.cell? ⟨rb, 1, none⟩ = some (.slice (some ⟨b, 0, none⟩) 1 1) ∧ w'.cell? ⟨eb, eoff + i, none⟩ = some (.slice (some ⟨eb2, eoff2, none⟩) xn xcap) ∧ w'.cell? ⟨eb2, eoff2 + k, none⟩ = some (.int .i64 pn) ∧ (convert 22 9 (.slice (some ⟨g8, 0, none⟩) 1 1)).run Try.prog w' = .ok (.string ⟨#[uu]⟩) w') n8 := ⟨hHeld.1, hHeld.2.1, hHeld.2.2, HC8.out⟩
              dsimp only at hHeld
              refine wpAnyH_take (i := 11) (oi := ⟨some 89, _, _, _, _, _⟩) (v := ?vvpd12) rfl (by kernel_rfl) (by kernel_rfl) (by kernel_rfl) (fun _ _ _ h => h) (Or.inl ⟨by rfl, ?yypd12⟩) hHeld ?rrpd12
              case yypd12 => (intro wq hSw; (try dsimp only at hSw); go_simp; first | done | with_reducible rfl)
              simp only [Act.put, List.setIfInBounds_toArray, List.set_cons_zero, List.set_cons_succ]
              refine wpAnyH_take (i := 12) (oi := ⟨some 90, _, _, _, _, _⟩) (v := ?vvpd13) rfl (by kernel_rfl) (by kernel_rfl) (by kernel_rfl) (fun _ _ _ h => h) (Or.inl ⟨by rfl, ?yypd13⟩) hHeld ?rrpd13
              case yypd13 => (intro wq hSw; (try dsimp only at hSw); go_simp; first | done | with_reducible rfl)
              simp only [Act.put, List.setIfInBounds_toArray, List.set_cons_zero, List.set_cons_succ]
              refine wpAnyH_take (i := 13) (oi := ⟨some 91, _, _, _, _, _⟩) (v := ?vvpd14) rfl (by kernel_rfl) (by kernel_rfl) (by kernel_rfl) (fun _ _ _ h => h) (Or.inl ⟨by rfl, ?yypd14⟩) hHeld ?rrpd14
              case yypd14 => (intro wq hSw; (try dsimp only at hSw); go_simp; first | done | with_reducible rfl)
              simp only [Act.put, List.setIfInBounds_toArray, List.set_cons_zero, List.set_cons_succ]
              refine wpAnyH_ready (rs := [14]) (by kernel_rfl) (by simp) ?_
              refine AllReadyH.cons (o := ⟨none, _, _, _, _, _⟩) rfl (fun K hK => ?_) AllReadyH.nil
              go_simp
              obtain ⟨U, hU⟩ : ∃ u, u = n8.setCell ⟨b, 4, none⟩ (.string ⟨#[uu]⟩) := ⟨_, rfl⟩
              rw [← hU]
              have gU : Chg n8 U (fun j => j = b) := by rw [hU]; exact (Chg.refl n8 (fun j => j = b)).setCell (p := ⟨b, 4, none⟩) (fun _ => rfl) _
              have HBU : Hid (Below wr.heap.size wr U) := Lib.hid (HB8.out.trans (gU.below HB8.out.size (fun j hj => by rw [hj]; exact HBW.out)))
              have HUW : Hid (U.heap[rb]? = some (.cells #[.int .u64 st, .slice (some ⟨b, 0, none⟩) 1 1] 35)) := Lib.hid ((gU.block _ (Array.getElem?_eq_some_iff.1 HW8.out).1 HNE.out).trans HW8.out)
              have HUV : Hid (U.heap[b]? = some (.cells (wrCells (k + 1) uu) 80)) := Lib.hid (by rw [hU, blk_setCell HV8.out]; rfl)
              have HUC : Hid ((convert 22 9 (.slice (some ⟨g8, 0, none⟩) 1 1)).run Try.prog U = .ok (.string ⟨#[uu]⟩) U) := Lib.hid (conv_at (l := [uu]) ⟨fun j y hj => by
                obtain ⟨hj2, rfl⟩ := List.getElem?_eq_some_iff.1 hj
                have hj0 : j = 0 := by simpa using hj2
                subst hj0
                have e8 := (gU.block _ (Array.getElem?_eq_some_iff.1 HE8.out).1 (ty_ne' HE8.out HV8.out (by decide))).trans HE8.out
                rw [cell_of_blk e8]; rfl, Nat.lt_of_lt_of_le (Array.getElem?_eq_some_iff.1 HE8.out).1 gU.size⟩)
              clear hU gU f4 v4
              refine hK.out _ _ ?sspd15 (fun hHeld => ?_)
              case sspd15 => (exact ⟨by simpa using cell_of_blk HUW.out 1, (HC.out _ HBU.out).1, (HC.out _ HBU.out).2, HUC.out⟩)
              clear hK K
              try simp only [Act.put, List.setIfInBounds_toArray, List.set_cons_zero, List.set_cons_succ]
              refine wpAnyH_done (by kernel_rfl) ?_ _
              clear hHeld HUC HC8 HE8 HW8 HV8 HB8 HEX HVX HBX huu
              have HSU := Lib.hid (HS.out.1.below HBU.out)
              have v0 := cell_of_blk HUW.out 0
              have v1 := cell_of_blk HUW.out 1
              simp at v0 v1
              have hlen : l.length ≤ 10000 := by have h1 := HS.out.1.ll; have h2 := HS.out.2.1; have h3 := HS.out.2.2.1; rw [List.length_map] at h1; omega
              have hst1 : st ≠ 0 := by have := HST.out; omega
              have hst2 : st < 4611686018427387904 := by have := HST.out; omega
              have hk100 : k + 1 < 100 := by omega
              have hms := HS.out.1.ml
              have hmx : max st 1 = st := by omega
              have HPC : Hid (Calls Try.prog 55 #[.pointer (some ⟨jb, 0, none⟩), .agg #[.int .u64 st, .slice (some ⟨b, 0, none⟩) 1 1]] U (PromPost U jb w1.heap.size 1048576 safe 0 last w1.heap.size l ms ⟨st, [exV (k + 1) uu]⟩)) := Lib.hid (by
                have := jPromise_any HSU.out.s (by omega) (by omega) st (some ⟨b, 0, none⟩) 1 1 [exV (k + 1) uu] rfl (exV_ws HUV.out hk100) (by omega) (by simp) (by rw [exV_len]; omega)
                rwa [hmx] at this)
              have HPR : Hid (promR 1048576 l.length 0 ⟨st, [exV (k + 1) uu]⟩ = (37, 0, 37)) := Lib.hid (promR_kp hlen hst1 hst2 hk100)
              have HAR : Hid (appR 1048576 l.length 37 ⟨st, [exV (k + 1) uu]⟩ = (0, 0, packL 1 (bodyL st [exV (k + 1) uu]))) := Lib.hid (appR_kp hlen hst1 hst2 hk100)
              have HQ := Lib.hid (And.intro hlen (And.intro hst1 (And.intro hst2 hk100)))
              clear hlen hst1 hst2 hk100 hms hmx
              go_wp2_with fail
              refine HPC.out.mono ?_
              rintro e w5 ⟨rfl, s5, g5⟩
              rw [HPR.out] at s5 ⊢
              have HS5 : Hid (JS w5 jb w1.heap.size 1048576 safe 37 last w1.heap.size l ms) := Lib.hid s5
              have HG5 : Hid (Chg U w5 (fun j => j = jb)) := Lib.hid g5
              have hj5 : ∀ (j : Nat) (cs : Array Value) (t : TypeId), U.heap[j]? = some (Obj.cells cs t) → t ≠ 174 → w5.heap[j]? = some (Obj.cells cs t) := fun j cs t h1 h2 => by
                obtain ⟨_, _, ej, _⟩ := HSU.out.s.j
                exact (g5.block j (Array.getElem?_eq_some_iff.1 h1).1 (ty_ne' h1 ej h2)).trans h1
              have HW5 := Lib.hid (hj5 _ _ _ HUW.out (by decide))
              have HV5 := Lib.hid (hj5 _ _ _ HUV.out (by decide))
              clear hj5 s5 g5 HPC v0 v1
              have v0 := cell_of_blk HW5.out 0
              have v1 := cell_of_blk HW5.out 1
              simp at v0 v1
              dsimp only
              have HAC : Hid (Calls Try.prog 56 #[.pointer (some ⟨jb, 0, none⟩), .agg #[.int .u64 st, .slice (some ⟨b, 0, none⟩) 1 1]] w5 (JAppPost w5 jb w1.heap.size 1048576 safe 37 last w1.heap.size l ms ⟨st, [exV (k + 1) uu]⟩)) := Lib.hid (jAppend_any HS5.out (Nat.le_trans HSU.out.b.size HG5.out.size) (by omega) (by omega) st (some ⟨b, 0, none⟩) 1 1 [exV (k + 1) uu] rfl (exV_ws HV5.out HQ.out.2.2.2) (by have := HQ.out.2.2.1; omega) (by simp) (by rw [pack_len, exV_len]; have := HQ.out.1; omega))
              go_wp2_with fail
              refine HAC.out.mono ?_
              rintro e w6 ⟨rfl, s6, g6, _⟩
              rw [HAR.out] at s6 ⊢
              have HG6 : Hid (Chg U w6 (fun j => j = jb ∨ j = w1.heap.size ∨ dob U w1.heap.size = some j ∨ job U jb = some j)) := Lib.hid (by
                refine (HG5.out.mono (fun _ _ h => .inl h)).trans g6 (fun j _ hj => ?_)
                rw [dob_chg HSU.out.s.d HG5.out (fun e => (HSU.out.s.j.ne HSU.out.s.d) e.symm)] at hj
                exact hj.elim .inl (fun q => q.elim (fun q => .inr (.inl q)) (fun q => .inr (.inr (.inl q)))))
              have HJ6 := Lib.hid (HSU.out.laid s6 HG6.out HQ.out.2.1 HQ.out.2.2.1 HQ.out.2.2.2 (by have h1 := HST.out; have h2 := HS.out.2.2.2; omega) (by have h1 := HST.out; show st / 2147483648 = i + 1; omega))
              have hj6 : ∀ (j : Nat) (cs : Array Value) (t : TypeId), U.heap[j]? = some (Obj.cells cs t) → t ≠ 174 → t ≠ 169 → t ≠ 5 → t ≠ 171 → w6.heap[j]? = some (Obj.cells cs t) := fun j cs t h1 h2 h3 h4 h5 => (HG6.out.block j (Array.getElem?_eq_some_iff.1 h1).1 (fun hs => HSU.out.s.noTy h1 h2 h3 h4 h5 hs)).trans h1
              have HW6 := Lib.hid (hj6 _ _ _ HUW.out (by decide) (by decide) (by decide) (by decide))
              have HV6 := Lib.hid (hj6 _ _ _ HUV.out (by decide) (by decide) (by decide) (by decide))
              clear hj6 s6 g6 HAC v0 v1
              have v0 := cell_of_blk HW6.out 0
              have v1 := cell_of_blk HW6.out 1
              simp at v0 v1
              obtain ⟨l6, hl6⟩ : ∃ q, q = l ++ packL 1 (bodyL st [exV (k + 1) uu]) := ⟨_, rfl⟩
              rw [← hl6] at HJ6
              obtain ⟨xx, hxx⟩ : ∃ q : Rv, q = ⟨st, some ⟨b, 0, none⟩, 1, [exV (k + 1) uu]⟩ := ⟨_, rfl⟩
              have b7 := below_box w6 (.cells #[.int .u64 st, .slice (some ⟨b, 0, none⟩) 1 1] 35)
              have e7 := heap_new w6 (.cells #[.int .u64 st, .slice (some ⟨b, 0, none⟩) 1 1] 35)
              have HJ7 := Lib.hid (HJ6.out.below b7)
              have HV7 := Lib.hid ((b7.block _ (Array.getElem?_eq_some_iff.1 HV6.out).1).trans HV6.out)
              have HXV7 : Hid (kR.V (w6.alloc (.cells #[.int .u64 st, .slice (some ⟨b, 0, none⟩) 1 1] 35)) (some ⟨w6.heap.size, 0, none⟩) [xx]) := Lib.hid (fun _ => ⟨_, 0, rfl, RowK.new_at (k := kR) (l := [xx]) e7 (by rw [hxx]; rfl)⟩)
              have HKW : Hid (KpW w1.heap.size (w6.alloc (.cells #[.int .u64 st, .slice (some ⟨b, 0, none⟩) 1 1] 35)) xx) := Lib.hid (by
                rw [hxx]
                exact ⟨⟨b, k + 1, uu, rfl, rfl, rfl, HQ.out.2.2.2, Nat.le_trans HS.out.1.b.size HBW.out, HV7.out⟩, by show st < _; have := HQ.out.2.2.1; omega⟩)
              have HRC : Hid (zs.map Rv.rc ++ [⟨st, [exV (k + 1) uu]⟩] = (zs ++ [xx]).map Rv.rc) := Lib.hid (by rw [List.map_append, hxx]; rfl)
              have hz9 : zn ≤ 1000 := by have := HS.out.2.2.1; omega
              have HZ9 := Lib.hid hz9
              clear hl6 hxx b7 e7 hz9
              go_wp2_with (first | (at_builtin; refine RowK.wpList_app (k := kR) rfl (.tmp 106) (.tmp 108) rfl rfl HJ7.out.o (some ⟨w6.heap.size, 0, none⟩) 1 [xx] 1 rfl rfl HXV7.out (by simp) (by have h1 := HS.out.2.1; have h2 := HZ9.out; simp; omega) HJ7.out.b.size ?_; intro v8 w8 hA; have HA8 := Lib.hid hA; clear hA) | fail)
              obtain ⟨a8, c8, hv8⟩ := HA8.out.1.shape
              subst hv8
              have HJ8 := Lib.hid (HJ7.out.app HKW.out HA8.out)
              rw [HRC.out] at HJ8
              have HL8 : Hid ((zs ++ [xx]).length = zn + 1) := Lib.hid (by rw [List.length_append, HS.out.2.1]; rfl)
              rw [HL8.out] at HJ8
              have hl8 : (zs ++ [xx]).length = zn + 1 := HL8.out
              rw [hl8]
              clear hl8 v0 v1
              go_wp2_with fail
              exact ⟨⟨a8, zn + 1, c8, k + 1, st + 1, zs ++ [xx], l6, items ++ [It.rc ⟨st, [exV (k + 1) uu]⟩], by omega, by first | rfl | trivial, by go_num, Lib.hid ⟨HJ8.out, HL8.out.symm, by have := HS.out.2.2.1; omega, by have := HST.out; omega⟩⟩, by simp [intOf]; omega⟩
          · obtain rfl : k = xn := by omega
            go_upto_region 25 with fail
            as_aux_lemma =>
              have hlen : l.length ≤ 10000 := by have h1 := HS.out.1.ll; have h2 := HS.out.2.1; have h3 := HS.out.2.2.1; rw [List.length_map] at h1; omega
              have hml := HS.out.1.ml
              have HMC : Hid (Calls Try.prog 57 #[.pointer (some ⟨jb, 0, none⟩), .int .i64 ((i : Int) + 1)] wr (JMarkPost wr jb w1.heap.size 1048576 safe 0 last w1.heap.size l ms ((i : Int) + 1))) := Lib.hid (jMark_any HS.out.1.s HS.out.1.b.size (by omega) (by omega) (by omega) (by omega) _)
              have HME : Hid (mkE 1048576 l.length 0 last ((i : Int) + 1) = 0) := Lib.hid (mkE_kp hlen (by omega) HS.out.1.la)
              clear hlen hml k0
              go_wp2_with fail
              refine HMC.out.mono ?_
              rintro e w5 ⟨rfl, _, m2, g5, _⟩
              rw [HME.out]
              obtain ⟨j5, u5, ln5⟩ := HS.out.1.marked rfl (by omega) (m2 HME.out) g5
              obtain ⟨l5, hl5⟩ : ∃ q, q = l ++ packL 2 (fourL ((i : Int) + 1).toNat) := ⟨_, rfl⟩
              rw [← hl5] at j5 ln5
              obtain ⟨ms5, hms5⟩ : ∃ q, q = ms ++ [((i : Int) + 1, ((l.length + 14 : Nat) : Int))] := ⟨_, rfl⟩
              rw [← hms5] at j5
              obtain ⟨it5, hit5⟩ : ∃ q, q = items ++ [It.mk (i + 1)] := ⟨_, rfl⟩
              rw [← hit5] at j5 u5
              have HJ5 := Lib.hid j5
              have HU5 := Lib.hid u5
              have HSU : Hid (sureOf (l5.length : Int) (-1) ms5 = (i : Int) + 1) := Lib.hid (by rw [ln5, hms5]; exact sureOf_new _ _ _ _)
              have HZL : Hid ((zs.map Rv.rc).length = zn) := Lib.hid (by rw [List.length_map]; exact HS.out.2.1.symm)
              clear m2 g5 j5 u5 ln5 hl5 hms5 hit5 HMC HME
              by_cases hfl : (i : Int) = flush
              · have t3 : ((i : Int) == flush) = true := by simp; exact hfl
                clear hfl
                go_wp2_with fail
                refine (jFlush_any HJ5.out.s (by have := HJ5.out.ml; omega)).mono ?_
                rintro e w6 ⟨rfl, s6, g6⟩
                rw [HSU.out]
                have HJ6 : Hid (KpJ w1 w6 jb w1.heap.size l5.length ((i : Int) + 1) l5 ms5 (.slice a zn cap) zs (zs.map Rv.rc) it5 (i + 1) top zn) := Lib.hid (HJ5.out.turn s6 (g6.mono (fun _ _ h => .inr (.inl h))) HJ5.out.p ⟨it5.length, Nat.le_refl _, by rw [List.take_length, HJ5.out.p.pos]; exact Nat.le_refl _, by rw [List.take_length, HU5.out, ← HZL.out, List.take_length]⟩ (by rw [HZL.out]; exact Nat.le_refl _) HJ5.out.la HJ5.out.ml HJ5.out.ll)
                clear s6 g6
                go_wp2_with fail
                exact ⟨⟨a, zn, cap, i + 1, l5.length, zn, top, (i : Int) + 1, zs, l5, ms5, it5, by omega, by first | rfl | trivial, rfl, by go_num, Lib.hid ⟨HJ6.out, HS.out.2.1, by have := HS.out.2.2.1; omega, by have := HS.out.2.2.2; omega⟩⟩, by simp [intOf]; omega⟩
              · have t3 : ((i : Int) == flush) = false := by simp; exact hfl
                clear hfl
                go_wp2_with fail
                exact ⟨⟨a, zn, cap, i + 1, safe, sn, top, (i : Int) + 1, zs, l5, ms5, it5, by omega, by first | rfl | trivial, by first | rfl | trivial, by go_num, Lib.hid ⟨HJ5.out, HS.out.2.1, by have := HS.out.2.2.1; omega, by have := HS.out.2.2.2; omega⟩⟩, by simp [intOf]; omega⟩
    · obtain rfl : i = en := by omega
      go_upto_region 31 with fail
      as_aux_lemma =>
        have hlen : l.length ≤ 10000 := by have h1 := HR.out.1.ll; have h2 := HR.out.2.1; have h3 := HR.out.2.2.1; rw [List.length_map] at h1; omega
        have hms := HR.out.1.ml
        obtain ⟨kc, hkc⟩ : ∃ q, q = crashN safe l.length keep := ⟨_, rfl⟩
        have hkl := crashN_le keep HR.out.1.s.d.hs
        rw [← hkc] at hkl
        obtain ⟨j0, f1, f2, f3⟩ := HR.out.1.f
        obtain ⟨c, p1, p2, p3, p4, p5⟩ := keeps_law HR.out.1.p hkl.2 f1 (Nat.le_trans f2 hkl.1) HR.out.1.sn f3
        obtain ⟨T, hT⟩ : ∃ q, q = l.take kc := ⟨_, rfl⟩
        rw [← hT] at p3 p4 p5
        rw [List.length_map] at p2
        have HP := Lib.hid (And.intro p1 (And.intro p2 (And.intro p3 (And.intro p4 p5))))
        have HT := Lib.hid hT
        have HCR : Hid (Calls Try.prog 63 #[.pointer (some ⟨w1.heap.size, 0, none⟩), .int .i64 keep] wr (DkPost wr w1.heap.size 1048576 kc w1.heap.size T kc)) := Lib.hid (by rw [hT, hkc]; exact dkCrash_any HR.out.1.s.d keep)
        have hcn : c ≤ zn := by rw [HR.out.2.1]; exact p2
        have hsc : sn ≤ c := p1
        have hz9 : zn ≤ 1000 := by have := HR.out.2.2.1; omega
        have hcap : zn ≤ cap := by
          have h2 := OffR.of_own HR.out.1.o
          obtain ⟨a', cap', e', h3⟩ := h2
          injection e' with e1 e2 e3
          subst e1 e3
          have := h3.2.1
          omega
        clear hlen hms hkc hkl f1 f2 f3 p1 p2 p3 p4 p5 hT
        go_wp2_with fail
        refine HCR.out.mono ?_
        rintro e w4 ⟨rfl, d4, g4⟩
        have HD4 := Lib.hid d4
        have HZ4 := Lib.hid (HR.out.1.rsv.off HR.out.1.s.d g4)
        have HB4 : Hid (Below w1.heap.size w1 w4) := Lib.hid (HR.out.1.b.trans (g4.below HR.out.1.b.size (fun i hi => by rw [hi]; exact Nat.le_refl _)))
        clear d4 g4 HCR
        go_wp2_with fail
        refine (jOpen_any HD4.out HB4.out.size).mono ?_
        rintro e w5 ⟨jb2, a5, c5, rs5, rfl, r5, _, m5, l5, hjb, s5, g5⟩
        obtain ⟨la, hla⟩ : ∃ x, x = (lgN T).last := ⟨_, rfl⟩
        obtain ⟨cu, hcu⟩ : ∃ x, x = (lgN T).cut := ⟨_, rfl⟩
        rw [← hla, ← hcu] at s5
        have hrn : rs5.length = c := by
          have h1 := congrArg List.length m5
          rw [HP.out.2.2.1, List.length_map, List.length_take, List.length_map] at h1
          have := HP.out.2.1
          omega
        rw [hrn]
        have HS5 := Lib.hid s5
        have HR5 := Lib.hid r5
        have HM5 := Lib.hid m5
        have HL5 := Lib.hid l5
        have HRN5 := Lib.hid hrn
        have HLA := Lib.hid (And.intro hla hcu)
        have HZ5 := Lib.hid (HZ4.out.off HD4.out g5)
        have HB5 : Hid (Below w1.heap.size w1 w5) := Lib.hid (HB4.out.trans (g5.below HB4.out.size (fun i hi => by rw [hi]; exact Nat.le_refl _)))
        have HALL5 : Hid (Calls Try.prog 18 #[.slice a5 c c5, .slice a c cap] w5 (BoolPost w5 true)) := Lib.hid (all14_at a5 a c5 cap c c rs5 (zs.take c) w5 hrn.symm (by rw [List.length_take]; have := HP.out.2.1; omega) r5 (HZ5.out.take c) (by rw [m5, HP.out.2.2.1, List.map_take]) l5)
        have hsl := run_slicePR a cap zn c (Nat.le_trans hcn hcap) w5
        have t1 : decide ((c : Int) < (sn : Int)) = false := decide_eq_false (by omega)
        have t1n : decide (c < sn) = false := decide_eq_false (by omega)
        have t2 : decide ((zn : Int) < (c : Int)) = false := decide_eq_false (by omega)
        have t2n : decide (zn < c) = false := decide_eq_false (by omega)
        have hc9 : c ≤ 1000 := by omega
        clear r5 m5 l5 hjb s5 g5 hla hcu hrn HZ4 HB4 HD4
        go_wp2_with fail
        refine HALL5.out.mono ?_
        rintro e w6 ⟨rfl, b6⟩
        have HS6 := Lib.hid (HS5.out.below b6)
        have HR6 := Lib.hid (HR5.out.below b6)
        have HZ6 := Lib.hid (HZ5.out.below b6)
        have HB6 := Lib.hid (below_then HB5.out b6)
        clear b6 hsl t1 t1n t2 t2n HALL5
        go_wp2_with fail
        refine (jSure_any HS6.out.j HS6.out.d (by simp)).mono ?_
        rintro e w7 ⟨rfl, b7⟩
        rw [show sureOf (cu : Int) (-1) [(la, (cu : Int))] = la by simp [sureOf]]
        have HS7 := Lib.hid (HS6.out.below b7)
        have HR7 := Lib.hid (HR6.out.below b7)
        have HZ7 := Lib.hid (HZ6.out.below b7)
        have HB7 := Lib.hid (below_then HB6.out b7)
        clear b7 HS5 HR5 HZ5 HB5 HS6 HR6 HZ6 HB6
        go_wp2_with fail
        refine (jLast_any HS7.out.j).mono ?_
        rintro e w8 ⟨rfl, rfl⟩
        go_wp2_with fail
        go_loopw [22] (fun vj wr => ∃ j : Nat, j ≤ c ∧ vj = .int .i64 j ∧ Hid (Below w7.heap.size w7 wr)) (fun vj _ => c - (intOf vj).toNat)
        case atStart => exact ⟨0, by omega, rfl, Lib.hid (Below.refl _ _)⟩
        case round =>
          obtain ⟨j, hj, rfl, HBW⟩ := hrel
          by_cases hjc : j < c
          · have hjz : (j : Int) < (c : Int) := by omega
            obtain ⟨y, hy⟩ : ∃ y, rs5[j]? = some y := ⟨_, List.getElem?_eq_getElem (by have := HRN5.out; omega)⟩
            obtain ⟨gg, off, hga, hat⟩ := HR7.out (fun e => by rw [e] at hy; simp at hy)
            obtain ⟨hyo, c0, _⟩ := hat.cells j y hy
            have c0' := below_cell HBW.out _ hat.lt c0
            have hep : ((y.stamp / 2147483648 : Nat) : Int) ≤ la := by
              have h1 : y.rc ∈ (zs.map Rv.rc).take c := by rw [← HP.out.2.2.1, ← HM5.out]; exact List.mem_map_of_mem (List.mem_of_getElem? hy)
              have := HP.out.2.2.2.1 _ h1
              rw [← HLA.out.1] at this
              exact this
            have HQL : Hid (∀ n : Nat, JnS (wr.drewN n) jb2 w1.heap.size 0 la w1.heap.size [(la, (cu : Int))]) := Lib.hid (fun n => (HS7.out.below (below_drewN HBW.out n)).j)
            have hys := hyo.stamp
            have HEP := Lib.hid hep
            subst hga
            clear hy hat hyo c0 hep
            have tw : decide (la < IntKind.i64.wrap ((y.stamp : Int) / 2147483648)) = false := by
              rw [IntKind.wrap_i64]
              exact decide_eq_false (by have := HEP.out; omega)
            have tw2 : decide (la < wrap64 ((y.stamp : Int) / 2147483648)) = false := decide_eq_false (by have := HEP.out; unfold wrap64; omega)
            clear hys
            go_wp2_with fail
            go_quiet ((go_at_call 65; first | exact quiet_at (quiet_same (jLast_any (HQL.out _))) | exact quiet_at2 (quiet_same (jLast_any (HQL.out _)))))
            go_wp2_with fail
            exact ⟨⟨j + 1, by omega, by go_num, Lib.hid (below_drewN HBW.out _)⟩, by simp [intOf]; omega⟩
          · obtain rfl : j = c := by omega
            have bU := HBW.out
            have HSU := Lib.hid (HS7.out.below bU)
            have HRU := Lib.hid (HR7.out.below bU)
            have HZU := Lib.hid (HZ7.out.below bU)
            have HBU := Lib.hid (below_then HB7.out bU)
            clear bU HS7 HR7 HZ7 HB7
            go_wp2_with fail
            refine (jOpen_any HSU.out.d HBU.out.size).mono ?_
            rintro e w9 ⟨jb3, a9, c9, rs9, rfl, r9, _, m9, l9, hjb9, s9, g9⟩
            have hm9 : rs9.map Rv.rc = rs5.map Rv.rc := by rw [m9, HM5.out, HLA.out.2]; exact (cut_end T).2.2
            have hn9 : rs9.length = j := by
              have h1 := congrArg List.length hm9
              rw [List.length_map, List.length_map, HRN5.out] at h1
              exact h1
            rw [hn9]
            have HS7 : Hid (JS w9 jb2 w1.heap.size 1048576 (lgN (T.take cu)).cut 0 la w1.heap.size ((T.take cu).take (lgN (T.take cu)).cut) [(la, (cu : Int))]) := Lib.hid (HSU.out.disk1 s9.d g9)
            have HR7 := Lib.hid (HRU.out.off HSU.out.d g9)
            have HZ7 := Lib.hid (HZU.out.off HSU.out.d g9)
            have HB7 : Hid (Below w1.heap.size w1 w9) := Lib.hid (HBU.out.trans (g9.below HBU.out.size (fun i hi => by rw [hi]; exact Nat.le_refl _)))
            have HBE7 : Hid (Below w.heap.size w w9.drew) := Lib.hid (below_then HB1.out (below_then HB7.out (below_drewN (Below.refl _ _) 1)))
            have HALL7 : Hid (Calls Try.prog 18 #[.slice a9 j c9, .slice a5 j c5] w9.drew (BoolPost w9.drew true)) := Lib.hid (all14_at a9 a5 c9 c5 j j rs9 rs5 w9.drew hn9.symm HRN5.out.symm (r9.below (below_drewN (Below.refl _ _) 1)) (HR7.out.below (below_drewN (Below.refl _ _) 1)) hm9 l9)
            have HS7 := Lib.hid (HS7.out.below (below_drewN (Below.refl _ _) 1))
            clear r9 m9 l9 hjb9 s9 g9 hm9 hn9 HSU HRU HBU HR7
            obtain ⟨c, hcj⟩ : ∃ c, c = j := ⟨_, rfl⟩
            rw [← hcj] at HP HRN5 HALL7 hcn hsc hc9 ⊢
            clear hcj hjc hj
            go_upto_region 41 with fail
            by_cases hce : c = zn
            · subst hce
              refine wp_region_held_drew (S := (fun _ : World => True)) (by kernel_rfl) (trivial) (fun hHeld => ?_)
              refine wpAnyH_take (i := 0) (oi := ⟨some 191, _, _, _, _, _⟩) (v := ?vvpe1) rfl (by kernel_rfl) (by kernel_rfl) (by kernel_rfl) (fun _ _ _ h => h) (Or.inl ⟨by rfl, ?yype1⟩) hHeld ?rrpe1
              case yype1 => (intro wq hSw; (try dsimp only at hSw); go_simp; first | done | with_reducible rfl)
              simp only [Act.put, List.setIfInBounds_toArray, List.set_cons_zero, List.set_cons_succ]
              refine wpAnyH_take (i := 1) (oi := ⟨some 192, _, _, _, _, _⟩) (v := ?vvpe2) rfl (by kernel_rfl) (by kernel_rfl) (by kernel_rfl) (fun _ _ _ h => h) (Or.inl ⟨by rfl, ?yype2⟩) hHeld ?rrpe2
              case yype2 => (intro wq hSw; (try dsimp only at hSw); go_simp; first | done | with_reducible rfl)
              simp only [Act.put, List.setIfInBounds_toArray, List.set_cons_zero, List.set_cons_succ]
              refine wpAnyH_take (i := 2) (oi := ⟨some 193, _, _, _, _, _⟩) (v := ?vvpe3) rfl (by kernel_rfl) (by kernel_rfl) (by kernel_rfl) (fun _ _ _ h => h) (Or.inl ⟨by rfl, ?yype3⟩) hHeld ?rrpe3
              case yype3 => (intro wq hSw; (try dsimp only at hSw); go_simp; first | done | with_reducible rfl)
              simp only [Act.put, List.setIfInBounds_toArray, List.set_cons_zero, List.set_cons_succ]
              refine wpAnyH_take (i := 3) (oi := ⟨some 194, _, _, _, _, _⟩) (v := ?vvpe4) rfl (by kernel_rfl) (by kernel_rfl) (by kernel_rfl) (fun _ _ _ h => h) (Or.inl ⟨by rfl, ?yype4⟩) hHeld ?rrpe4
              case yype4 => (intro wq hSw; (try dsimp only at hSw); go_simp; first | done | with_reducible rfl)
              simp only [Act.put, List.setIfInBounds_toArray, List.set_cons_zero, List.set_cons_succ]
              refine wpAnyH_take (i := 4) (oi := ⟨some 195, _, _, _, _, _⟩) (v := ?vvpe5) rfl (by kernel_rfl) (by kernel_rfl) (by kernel_rfl) (fun _ _ _ h => h) (Or.inl ⟨by rfl, ?yype5⟩) hHeld ?rrpe5
              case yype5 => (intro wq hSw; (try dsimp only at hSw); go_simp; first | done | with_reducible rfl)
              simp only [Act.put, List.setIfInBounds_toArray, List.set_cons_zero, List.set_cons_succ]
              refine wpAnyH_take (i := 5) (oi := ⟨some 196, _, _, _, _, _⟩) (v := ?vvpe6) rfl (by kernel_rfl) (by kernel_rfl) (by kernel_rfl) (fun _ _ _ h => h) (Or.inl ⟨by rfl, ?yype6⟩) hHeld ?rrpe6
              case yype6 => (intro wq hSw; (try dsimp only at hSw); go_simp; first | done | with_reducible rfl)
              simp only [Act.put, List.setIfInBounds_toArray, List.set_cons_zero, List.set_cons_succ]
              refine wpAnyH_take (i := 6) (oi := ⟨some 197, _, _, _, _, _⟩) (v := ?vvpe7) rfl (by kernel_rfl) (by kernel_rfl) (by kernel_rfl) (fun _ _ _ h => h) (Or.inl ⟨by rfl, ?yype7⟩) hHeld ?rrpe7
              case yype7 => (intro wq hSw; (try dsimp only at hSw); go_simp; first | done | with_reducible rfl)
              simp only [Act.put, List.setIfInBounds_toArray, List.set_cons_zero, List.set_cons_succ]
              refine wpAnyH_take (i := 7) (oi := ⟨some 198, _, _, _, _, _⟩) (v := ?vvpe8) rfl (by kernel_rfl) (by kernel_rfl) (by kernel_rfl) (fun _ _ _ h => h) (Or.inl ⟨by rfl, ?yype8⟩) hHeld ?rrpe8
              case yype8 => (intro wq hSw; (try dsimp only at hSw); go_simp; first | done | with_reducible rfl)
              simp only [Act.put, List.setIfInBounds_toArray, List.set_cons_zero, List.set_cons_succ]
              refine wpAnyH_take (i := 8) (oi := ⟨some 199, _, _, _, _, _⟩) (v := ?vvpe9) rfl (by kernel_rfl) (by kernel_rfl) (by kernel_rfl) (fun _ _ _ h => h) (Or.inl ⟨by rfl, ?yype9⟩) hHeld ?rrpe9
              case yype9 => (intro wq hSw; (try dsimp only at hSw); go_simp; first | done | with_reducible rfl)
              simp only [Act.put, List.setIfInBounds_toArray, List.set_cons_zero, List.set_cons_succ]
              refine wpAnyH_ready (rs := [9]) (by kernel_rfl) (by simp) ?_
              refine AllReadyH.cons (o := ⟨some 200, _, _, _, _, _⟩) rfl (fun K hK => ?_) AllReadyH.nil
              go_simp
              refine HALL7.out.mono ?_
              rintro e w8 ⟨rfl, b8⟩
              have HB8 := Lib.hid b8
              clear b8
              dsimp only
              refine hK.out _ _ ?sspe10 (fun hHeld => ?_)
              case sspe10 => (exact trivial)
              clear hK K
              try simp only [Act.put, List.setIfInBounds_toArray, List.set_cons_zero, List.set_cons_succ]
              refine wpAnyH_take (i := 10) (oi := ⟨some 201, _, _, _, _, _⟩) (v := ?vvpe11) rfl (by kernel_rfl) (by kernel_rfl) (by kernel_rfl) (fun _ _ _ h => h) (Or.inl ⟨by rfl, ?yype11⟩) hHeld ?rrpe11
              case yype11 => (intro wq hSw; (try dsimp only at hSw); go_simp; first | done | with_reducible rfl)
              simp only [Act.put, List.setIfInBounds_toArray, List.set_cons_zero, List.set_cons_succ]
              refine wpAnyH_take (i := 11) (oi := ⟨some 202, _, _, _, _, _⟩) (v := ?vvpe12) rfl (by kernel_rfl) (by kernel_rfl) (by kernel_rfl) (fun _ _ _ h => h) (Or.inl ⟨by rfl, ?yype12⟩) hHeld ?rrpe12
              case yype12 => (intro wq hSw; (try dsimp only at hSw); go_simp; first | done | with_reducible rfl)
              simp only [Act.put, List.setIfInBounds_toArray, List.set_cons_zero, List.set_cons_succ]
              refine wpAnyH_take (i := 12) (oi := ⟨some 203, _, _, _, _, _⟩) (v := ?vvpe13) rfl (by kernel_rfl) (by kernel_rfl) (by kernel_rfl) (fun _ _ _ h => h) (Or.inl ⟨by rfl, ?yype13⟩) hHeld ?rrpe13
              case yype13 => (intro wq hSw; (try dsimp only at hSw); go_simp; first | done | with_reducible rfl)
              simp only [Act.put, List.setIfInBounds_toArray, List.set_cons_zero, List.set_cons_succ]
              refine wpAnyH_take (i := 13) (oi := ⟨some 204, _, _, _, _, _⟩) (v := ?vvpe14) rfl (by kernel_rfl) (by kernel_rfl) (by kernel_rfl) (fun _ _ _ h => h) (Or.inl ⟨by rfl, ?yype14⟩) hHeld ?rrpe14
              case yype14 => (intro wq hSw; (try dsimp only at hSw); go_simp; first | done | with_reducible rfl)
              simp only [Act.put, List.setIfInBounds_toArray, List.set_cons_zero, List.set_cons_succ]
              refine wpAnyH_take (i := 14) (oi := ⟨some 205, _, _, _, _, _⟩) (v := ?vvpe15) rfl (by kernel_rfl) (by kernel_rfl) (by kernel_rfl) (fun _ _ _ h => h) (Or.inl ⟨by rfl, ?yype15⟩) hHeld ?rrpe15
              case yype15 => (intro wq hSw; (try dsimp only at hSw); go_simp; first | done | with_reducible rfl)
              simp only [Act.put, List.setIfInBounds_toArray, List.set_cons_zero, List.set_cons_succ]
              refine wpAnyH_take (i := 15) (oi := ⟨some 206, _, _, _, _, _⟩) (v := ?vvpe16) rfl (by kernel_rfl) (by kernel_rfl) (by kernel_rfl) (fun _ _ _ h => h) (Or.inl ⟨by rfl, ?yype16⟩) hHeld ?rrpe16
              case yype16 => (intro wq hSw; (try dsimp only at hSw); go_simp; first | done | with_reducible rfl)
              simp only [Act.put, List.setIfInBounds_toArray, List.set_cons_zero, List.set_cons_succ]
              refine wpAnyH_take (i := 16) (oi := ⟨some 207, _, _, _, _, _⟩) (v := ?vvpe17) rfl (by kernel_rfl) (by kernel_rfl) (by kernel_rfl) (fun _ _ _ h => h) (Or.inl ⟨by rfl, ?yype17⟩) hHeld ?rrpe17
              case yype17 => (intro wq hSw; (try dsimp only at hSw); go_simp; first | done | with_reducible rfl)
              simp only [Act.put, List.setIfInBounds_toArray, List.set_cons_zero, List.set_cons_succ]
              refine wpAnyH_take (i := 17) (oi := ⟨some 208, _, _, _, _, _⟩) (v := ?vvpe18) rfl (by kernel_rfl) (by kernel_rfl) (by kernel_rfl) (fun _ _ _ h => h) (Or.inl ⟨by rfl, ?yype18⟩) hHeld ?rrpe18
              case yype18 => (intro wq hSw; (try dsimp only at hSw); go_simp; first | done | with_reducible rfl)
              simp only [Act.put, List.setIfInBounds_toArray, List.set_cons_zero, List.set_cons_succ]
              refine wpAnyH_take (i := 18) (oi := ⟨some 209, _, _, _, _, _⟩) (v := undef) rfl (by kernel_rfl) (by kernel_rfl) (by kernel_rfl) (fun _ _ _ h => h) (Or.inr ⟨by rfl, rfl⟩) hHeld ?_
              simp only [Act.put, List.setIfInBounds_toArray, List.set_cons_zero, List.set_cons_succ]
              refine wpAnyH_take (i := 19) (oi := ⟨some 210, _, _, _, _, _⟩) (v := undef) rfl (by kernel_rfl) (by kernel_rfl) (by kernel_rfl) (fun _ _ _ h => h) (Or.inr ⟨by rfl, rfl⟩) hHeld ?_
              simp only [Act.put, List.setIfInBounds_toArray, List.set_cons_zero, List.set_cons_succ]
              refine wpAnyH_take (i := 20) (oi := ⟨some 211, _, _, _, _, _⟩) (v := undef) rfl (by kernel_rfl) (by kernel_rfl) (by kernel_rfl) (fun _ _ _ h => h) (Or.inr ⟨by rfl, rfl⟩) hHeld ?_
              simp only [Act.put, List.setIfInBounds_toArray, List.set_cons_zero, List.set_cons_succ]
              refine wpAnyH_take (i := 21) (oi := ⟨some 212, _, _, _, _, _⟩) (v := undef) rfl (by kernel_rfl) (by kernel_rfl) (by kernel_rfl) (fun _ _ _ h => h) (Or.inr ⟨by rfl, rfl⟩) hHeld ?_
              simp only [Act.put, List.setIfInBounds_toArray, List.set_cons_zero, List.set_cons_succ]
              refine wpAnyH_take (i := 22) (oi := ⟨some 213, _, _, _, _, _⟩) (v := undef) rfl (by kernel_rfl) (by kernel_rfl) (by kernel_rfl) (fun _ _ _ h => h) (Or.inr ⟨by rfl, rfl⟩) hHeld ?_
              simp only [Act.put, List.setIfInBounds_toArray, List.set_cons_zero, List.set_cons_succ]
              refine wpAnyH_take (i := 23) (oi := ⟨some 214, _, _, _, _, _⟩) (v := undef) rfl (by kernel_rfl) (by kernel_rfl) (by kernel_rfl) (fun _ _ _ h => h) (Or.inr ⟨by rfl, rfl⟩) hHeld ?_
              simp only [Act.put, List.setIfInBounds_toArray, List.set_cons_zero, List.set_cons_succ]
              refine wpAnyH_take (i := 24) (oi := ⟨some 215, _, _, _, _, _⟩) (v := undef) rfl (by kernel_rfl) (by kernel_rfl) (by kernel_rfl) (fun _ _ _ h => h) (Or.inr ⟨by rfl, rfl⟩) hHeld ?_
              simp only [Act.put, List.setIfInBounds_toArray, List.set_cons_zero, List.set_cons_succ]
              refine wpAnyH_take (i := 25) (oi := ⟨some 216, _, _, _, _, _⟩) (v := undef) rfl (by kernel_rfl) (by kernel_rfl) (by kernel_rfl) (fun _ _ _ h => h) (Or.inr ⟨by rfl, rfl⟩) hHeld ?_
              simp only [Act.put, List.setIfInBounds_toArray, List.set_cons_zero, List.set_cons_succ]
              refine wpAnyH_take (i := 26) (oi := ⟨some 217, _, _, _, _, _⟩) (v := undef) rfl (by kernel_rfl) (by kernel_rfl) (by kernel_rfl) (fun _ _ _ h => h) (Or.inr ⟨by rfl, rfl⟩) hHeld ?_
              simp only [Act.put, List.setIfInBounds_toArray, List.set_cons_zero, List.set_cons_succ]
              refine wpAnyH_take (i := 27) (oi := ⟨some 218, _, _, _, _, _⟩) (v := undef) rfl (by kernel_rfl) (by kernel_rfl) (by kernel_rfl) (fun _ _ _ h => h) (Or.inr ⟨by rfl, rfl⟩) hHeld ?_
              simp only [Act.put, List.setIfInBounds_toArray, List.set_cons_zero, List.set_cons_succ]
              refine wpAnyH_take (i := 28) (oi := ⟨some 219, _, _, _, _, _⟩) (v := undef) rfl (by kernel_rfl) (by kernel_rfl) (by kernel_rfl) (fun _ _ _ h => h) (Or.inr ⟨by rfl, rfl⟩) hHeld ?_
              simp only [Act.put, List.setIfInBounds_toArray, List.set_cons_zero, List.set_cons_succ]
              refine wpAnyH_take (i := 29) (oi := ⟨some 220, _, _, _, _, _⟩) (v := ?vvpe30) rfl (by kernel_rfl) (by kernel_rfl) (by kernel_rfl) (fun _ _ _ h => h) (Or.inl ⟨by rfl, ?yype30⟩) hHeld ?rrpe30
              case yype30 => (intro wq hSw; (try dsimp only at hSw); go_simp; first | done | with_reducible rfl)
              simp only [Act.put, List.setIfInBounds_toArray, List.set_cons_zero, List.set_cons_succ]
              refine wpAnyH_take (i := 30) (oi := ⟨some 221, _, _, _, _, _⟩) (v := ?vvpe31) rfl (by kernel_rfl) (by kernel_rfl) (by kernel_rfl) (fun _ _ _ h => h) (Or.inl ⟨by rfl, ?yype31⟩) hHeld ?rrpe31
              case yype31 => (intro wq hSw; (try dsimp only at hSw); go_simp; first | done | with_reducible rfl)
              simp only [Act.put, List.setIfInBounds_toArray, List.set_cons_zero, List.set_cons_succ]
              refine wpAnyH_take (i := 31) (oi := ⟨some 6, _, _, _, _, _⟩) (v := ?vvpe32) rfl (by kernel_rfl) (by kernel_rfl) (by kernel_rfl) (fun _ _ _ h => h) (Or.inl ⟨by rfl, ?yype32⟩) hHeld ?rrpe32
              case yype32 => (intro wq hSw; (try dsimp only at hSw); go_simp; first | done | with_reducible rfl)
              simp only [Act.put, List.setIfInBounds_toArray, List.set_cons_zero, List.set_cons_succ]
              refine wpAnyH_done (by kernel_rfl) ?_ _
              clear hHeld
              go_wp2_with fail
              go_ret
              exact ⟨rfl, below_then HBE7.out HB8.out⟩
            · have hlt : (c : Int) < (zn : Int) := by omega
              have q1 : ((c : Int) == (zn : Int)) = false := by simp; omega
              have q1n : (c == zn) = false := by simp; omega
              obtain ⟨y, hy⟩ : ∃ y, zs[c]? = some y := ⟨_, List.getElem?_eq_getElem (by have := HR.out.2.1; omega)⟩
              obtain ⟨gz, offz, hga, hat⟩ := HZ7.out (fun e => by rw [e] at hy; simp at hy)
              obtain ⟨hyo, c0, _⟩ := hat.cells c y hy
              have HCY : Hid (∀ u : World, Below w9.heap.size w9 u → u.cell? ⟨gz, offz + c * 2, none⟩ = some (.int .u64 y.stamp)) := Lib.hid (fun u hu => below_cell hu _ hat.lt c0)
              have hep : la < ((y.stamp / 2147483648 : Nat) : Int) := by
                have h1 : y.rc ∈ (zs.map Rv.rc).drop c := by
                  refine List.mem_iff_getElem?.2 ⟨0, ?_⟩
                  rw [List.getElem?_drop, Nat.add_zero, List.getElem?_map, hy]
                  rfl
                have := HP.out.2.2.2.2 _ h1
                rw [← HLA.out.1] at this
                exact this
              have hys := hyo.stamp
              subst hga
              clear hy hat hyo c0
              have tw : decide (la < IntKind.i64.wrap ((y.stamp : Int) / 2147483648)) = true := by
                rw [IntKind.wrap_i64]
                exact decide_eq_true (by omega)
              clear hys hep
              refine wp_region_held_drew (S := (fun w' : World => w'.cell? ⟨gz, offz + c * 2, none⟩ = some (.int .u64 y.stamp))) (by kernel_rfl) (HCY.out _ (below_drewN (Below.refl _ _) 1)) (fun hHeld => ?_)
              refine wpAnyH_take (i := 0) (oi := ⟨some 191, _, _, _, _, _⟩) (v := ?vvpf1) rfl (by kernel_rfl) (by kernel_rfl) (by kernel_rfl) (fun _ _ _ h => h) (Or.inl ⟨by rfl, ?yypf1⟩) hHeld ?rrpf1
              case yypf1 => (intro wq hSw; (try dsimp only at hSw); go_simp; first | done | with_reducible rfl)
              simp only [Act.put, List.setIfInBounds_toArray, List.set_cons_zero, List.set_cons_succ]
              refine wpAnyH_take (i := 1) (oi := ⟨some 192, _, _, _, _, _⟩) (v := ?vvpf2) rfl (by kernel_rfl) (by kernel_rfl) (by kernel_rfl) (fun _ _ _ h => h) (Or.inl ⟨by rfl, ?yypf2⟩) hHeld ?rrpf2
              case yypf2 => (intro wq hSw; (try dsimp only at hSw); go_simp; first | done | with_reducible rfl)
              simp only [Act.put, List.setIfInBounds_toArray, List.set_cons_zero, List.set_cons_succ]
              refine wpAnyH_take (i := 2) (oi := ⟨some 193, _, _, _, _, _⟩) (v := ?vvpf3) rfl (by kernel_rfl) (by kernel_rfl) (by kernel_rfl) (fun _ _ _ h => h) (Or.inl ⟨by rfl, ?yypf3⟩) hHeld ?rrpf3
              case yypf3 => (intro wq hSw; (try dsimp only at hSw); go_simp; first | done | with_reducible rfl)
              simp only [Act.put, List.setIfInBounds_toArray, List.set_cons_zero, List.set_cons_succ]
              refine wpAnyH_take (i := 3) (oi := ⟨some 194, _, _, _, _, _⟩) (v := ?vvpf4) rfl (by kernel_rfl) (by kernel_rfl) (by kernel_rfl) (fun _ _ _ h => h) (Or.inl ⟨by rfl, ?yypf4⟩) hHeld ?rrpf4
              case yypf4 => (intro wq hSw; (try dsimp only at hSw); go_simp; first | done | with_reducible rfl)
              simp only [Act.put, List.setIfInBounds_toArray, List.set_cons_zero, List.set_cons_succ]
              refine wpAnyH_take (i := 4) (oi := ⟨some 195, _, _, _, _, _⟩) (v := ?vvpf5) rfl (by kernel_rfl) (by kernel_rfl) (by kernel_rfl) (fun _ _ _ h => h) (Or.inl ⟨by rfl, ?yypf5⟩) hHeld ?rrpf5
              case yypf5 => (intro wq hSw; (try dsimp only at hSw); go_simp; first | done | with_reducible rfl)
              simp only [Act.put, List.setIfInBounds_toArray, List.set_cons_zero, List.set_cons_succ]
              refine wpAnyH_take (i := 5) (oi := ⟨some 196, _, _, _, _, _⟩) (v := ?vvpf6) rfl (by kernel_rfl) (by kernel_rfl) (by kernel_rfl) (fun _ _ _ h => h) (Or.inl ⟨by rfl, ?yypf6⟩) hHeld ?rrpf6
              case yypf6 => (intro wq hSw; (try dsimp only at hSw); go_simp; first | done | with_reducible rfl)
              simp only [Act.put, List.setIfInBounds_toArray, List.set_cons_zero, List.set_cons_succ]
              refine wpAnyH_take (i := 6) (oi := ⟨some 197, _, _, _, _, _⟩) (v := ?vvpf7) rfl (by kernel_rfl) (by kernel_rfl) (by kernel_rfl) (fun _ _ _ h => h) (Or.inl ⟨by rfl, ?yypf7⟩) hHeld ?rrpf7
              case yypf7 => (intro wq hSw; (try dsimp only at hSw); go_simp; first | done | with_reducible rfl)
              simp only [Act.put, List.setIfInBounds_toArray, List.set_cons_zero, List.set_cons_succ]
              refine wpAnyH_take (i := 7) (oi := ⟨some 198, _, _, _, _, _⟩) (v := ?vvpf8) rfl (by kernel_rfl) (by kernel_rfl) (by kernel_rfl) (fun _ _ _ h => h) (Or.inl ⟨by rfl, ?yypf8⟩) hHeld ?rrpf8
              case yypf8 => (intro wq hSw; (try dsimp only at hSw); go_simp; first | done | with_reducible rfl)
              simp only [Act.put, List.setIfInBounds_toArray, List.set_cons_zero, List.set_cons_succ]
              refine wpAnyH_take (i := 8) (oi := ⟨some 199, _, _, _, _, _⟩) (v := ?vvpf9) rfl (by kernel_rfl) (by kernel_rfl) (by kernel_rfl) (fun _ _ _ h => h) (Or.inl ⟨by rfl, ?yypf9⟩) hHeld ?rrpf9
              case yypf9 => (intro wq hSw; (try dsimp only at hSw); go_simp; first | done | with_reducible rfl)
              simp only [Act.put, List.setIfInBounds_toArray, List.set_cons_zero, List.set_cons_succ]
              refine wpAnyH_ready (rs := [9]) (by kernel_rfl) (by simp) ?_
              refine AllReadyH.cons (o := ⟨some 200, _, _, _, _, _⟩) rfl (fun K hK => ?_) AllReadyH.nil
              go_simp
              refine HALL7.out.mono ?_
              rintro e w8 ⟨rfl, b8⟩
              have HB8 := Lib.hid b8
              clear b8
              dsimp only
              refine hK.out _ _ ?sspf10 (fun hHeld => ?_)
              case sspf10 => (exact HCY.out _ (below_then (below_drewN (Below.refl _ _) 1) HB8.out))
              clear hK K
              try simp only [Act.put, List.setIfInBounds_toArray, List.set_cons_zero, List.set_cons_succ]
              refine wpAnyH_take (i := 10) (oi := ⟨some 201, _, _, _, _, _⟩) (v := ?vvpf11) rfl (by kernel_rfl) (by kernel_rfl) (by kernel_rfl) (fun _ _ _ h => h) (Or.inl ⟨by rfl, ?yypf11⟩) hHeld ?rrpf11
              case yypf11 => (intro wq hSw; (try dsimp only at hSw); go_simp; first | done | with_reducible rfl)
              simp only [Act.put, List.setIfInBounds_toArray, List.set_cons_zero, List.set_cons_succ]
              refine wpAnyH_take (i := 11) (oi := ⟨some 202, _, _, _, _, _⟩) (v := ?vvpf12) rfl (by kernel_rfl) (by kernel_rfl) (by kernel_rfl) (fun _ _ _ h => h) (Or.inl ⟨by rfl, ?yypf12⟩) hHeld ?rrpf12
              case yypf12 => (intro wq hSw; (try dsimp only at hSw); go_simp; first | done | with_reducible rfl)
              simp only [Act.put, List.setIfInBounds_toArray, List.set_cons_zero, List.set_cons_succ]
              refine wpAnyH_take (i := 12) (oi := ⟨some 203, _, _, _, _, _⟩) (v := ?vvpf13) rfl (by kernel_rfl) (by kernel_rfl) (by kernel_rfl) (fun _ _ _ h => h) (Or.inl ⟨by rfl, ?yypf13⟩) hHeld ?rrpf13
              case yypf13 => (intro wq hSw; (try dsimp only at hSw); go_simp; first | done | with_reducible rfl)
              simp only [Act.put, List.setIfInBounds_toArray, List.set_cons_zero, List.set_cons_succ]
              refine wpAnyH_take (i := 13) (oi := ⟨some 204, _, _, _, _, _⟩) (v := ?vvpf14) rfl (by kernel_rfl) (by kernel_rfl) (by kernel_rfl) (fun _ _ _ h => h) (Or.inl ⟨by rfl, ?yypf14⟩) hHeld ?rrpf14
              case yypf14 => (intro wq hSw; (try dsimp only at hSw); go_simp; first | done | with_reducible rfl)
              simp only [Act.put, List.setIfInBounds_toArray, List.set_cons_zero, List.set_cons_succ]
              refine wpAnyH_take (i := 14) (oi := ⟨some 205, _, _, _, _, _⟩) (v := ?vvpf15) rfl (by kernel_rfl) (by kernel_rfl) (by kernel_rfl) (fun _ _ _ h => h) (Or.inl ⟨by rfl, ?yypf15⟩) hHeld ?rrpf15
              case yypf15 => (intro wq hSw; (try dsimp only at hSw); go_simp; first | done | with_reducible rfl)
              simp only [Act.put, List.setIfInBounds_toArray, List.set_cons_zero, List.set_cons_succ]
              refine wpAnyH_take (i := 15) (oi := ⟨some 206, _, _, _, _, _⟩) (v := ?vvpf16) rfl (by kernel_rfl) (by kernel_rfl) (by kernel_rfl) (fun _ _ _ h => h) (Or.inl ⟨by rfl, ?yypf16⟩) hHeld ?rrpf16
              case yypf16 => (intro wq hSw; (try dsimp only at hSw); go_simp; first | done | with_reducible rfl)
              simp only [Act.put, List.setIfInBounds_toArray, List.set_cons_zero, List.set_cons_succ]
              refine wpAnyH_take (i := 16) (oi := ⟨some 207, _, _, _, _, _⟩) (v := ?vvpf17) rfl (by kernel_rfl) (by kernel_rfl) (by kernel_rfl) (fun _ _ _ h => h) (Or.inl ⟨by rfl, ?yypf17⟩) hHeld ?rrpf17
              case yypf17 => (intro wq hSw; (try dsimp only at hSw); go_simp; first | done | with_reducible rfl)
              simp only [Act.put, List.setIfInBounds_toArray, List.set_cons_zero, List.set_cons_succ]
              refine wpAnyH_take (i := 17) (oi := ⟨some 208, _, _, _, _, _⟩) (v := ?vvpf18) rfl (by kernel_rfl) (by kernel_rfl) (by kernel_rfl) (fun _ _ _ h => h) (Or.inl ⟨by rfl, ?yypf18⟩) hHeld ?rrpf18
              case yypf18 => (intro wq hSw; (try dsimp only at hSw); go_simp; first | done | with_reducible rfl)
              simp only [Act.put, List.setIfInBounds_toArray, List.set_cons_zero, List.set_cons_succ]
              refine wpAnyH_take (i := 18) (oi := ⟨some 209, _, _, _, _, _⟩) (v := ?vvpf19) rfl (by kernel_rfl) (by kernel_rfl) (by kernel_rfl) (fun _ _ _ h => h) (Or.inl ⟨by rfl, ?yypf19⟩) hHeld ?rrpf19
              case yypf19 => (intro wq hSw; (try dsimp only at hSw); go_simp; first | done | with_reducible rfl)
              simp only [Act.put, List.setIfInBounds_toArray, List.set_cons_zero, List.set_cons_succ]
              refine wpAnyH_take (i := 19) (oi := ⟨some 210, _, _, _, _, _⟩) (v := ?vvpf20) rfl (by kernel_rfl) (by kernel_rfl) (by kernel_rfl) (fun _ _ _ h => h) (Or.inl ⟨by rfl, ?yypf20⟩) hHeld ?rrpf20
              case yypf20 => (intro wq hSw; (try dsimp only at hSw); go_simp; first | done | with_reducible rfl)
              simp only [Act.put, List.setIfInBounds_toArray, List.set_cons_zero, List.set_cons_succ]
              refine wpAnyH_take (i := 20) (oi := ⟨some 211, _, _, _, _, _⟩) (v := ?vvpf21) rfl (by kernel_rfl) (by kernel_rfl) (by kernel_rfl) (fun _ _ _ h => h) (Or.inl ⟨by rfl, ?yypf21⟩) hHeld ?rrpf21
              case yypf21 => (intro wq hSw; (try dsimp only at hSw); go_simp; first | done | with_reducible rfl)
              simp only [Act.put, List.setIfInBounds_toArray, List.set_cons_zero, List.set_cons_succ]
              refine wpAnyH_take (i := 21) (oi := ⟨some 212, _, _, _, _, _⟩) (v := ?vvpf22) rfl (by kernel_rfl) (by kernel_rfl) (by kernel_rfl) (fun _ _ _ h => h) (Or.inl ⟨by rfl, ?yypf22⟩) hHeld ?rrpf22
              case yypf22 => (intro wq hSw; (try dsimp only at hSw); go_simp; first | done | with_reducible rfl)
              simp only [Act.put, List.setIfInBounds_toArray, List.set_cons_zero, List.set_cons_succ]
              refine wpAnyH_take (i := 22) (oi := ⟨some 213, _, _, _, _, _⟩) (v := ?vvpf23) rfl (by kernel_rfl) (by kernel_rfl) (by kernel_rfl) (fun _ _ _ h => h) (Or.inl ⟨by rfl, ?yypf23⟩) hHeld ?rrpf23
              case yypf23 => (intro wq hSw; (try dsimp only at hSw); go_simp; first | done | with_reducible rfl)
              simp only [Act.put, List.setIfInBounds_toArray, List.set_cons_zero, List.set_cons_succ]
              refine wpAnyH_take (i := 23) (oi := ⟨some 214, _, _, _, _, _⟩) (v := ?vvpf24) rfl (by kernel_rfl) (by kernel_rfl) (by kernel_rfl) (fun _ _ _ h => h) (Or.inl ⟨by rfl, ?yypf24⟩) hHeld ?rrpf24
              case yypf24 => (intro wq hSw; (try dsimp only at hSw); go_simp; first | done | with_reducible rfl)
              simp only [Act.put, List.setIfInBounds_toArray, List.set_cons_zero, List.set_cons_succ]
              refine wpAnyH_take (i := 24) (oi := ⟨some 215, _, _, _, _, _⟩) (v := ?vvpf25) rfl (by kernel_rfl) (by kernel_rfl) (by kernel_rfl) (fun _ _ _ h => h) (Or.inl ⟨by rfl, ?yypf25⟩) hHeld ?rrpf25
              case yypf25 => (intro wq hSw; (try dsimp only at hSw); go_simp; first | done | with_reducible rfl)
              simp only [Act.put, List.setIfInBounds_toArray, List.set_cons_zero, List.set_cons_succ]
              refine wpAnyH_take (i := 25) (oi := ⟨some 216, _, _, _, _, _⟩) (v := ?vvpf26) rfl (by kernel_rfl) (by kernel_rfl) (by kernel_rfl) (fun _ _ _ h => h) (Or.inl ⟨by rfl, ?yypf26⟩) hHeld ?rrpf26
              case yypf26 => (intro wq hSw; (try dsimp only at hSw); go_simp; first | done | with_reducible rfl)
              simp only [Act.put, List.setIfInBounds_toArray, List.set_cons_zero, List.set_cons_succ]
              refine wpAnyH_take (i := 26) (oi := ⟨some 217, _, _, _, _, _⟩) (v := ?vvpf27) rfl (by kernel_rfl) (by kernel_rfl) (by kernel_rfl) (fun _ _ _ h => h) (Or.inl ⟨by rfl, ?yypf27⟩) hHeld ?rrpf27
              case yypf27 => (intro wq hSw; (try dsimp only at hSw); go_simp; first | done | with_reducible rfl)
              simp only [Act.put, List.setIfInBounds_toArray, List.set_cons_zero, List.set_cons_succ]
              refine wpAnyH_ready (rs := [27]) (by kernel_rfl) (by simp) ?_
              refine AllReadyH.cons (o := ⟨some 218, _, _, _, _, _⟩) rfl (fun K hK => ?_) AllReadyH.nil
              go_simp
              refine (jLast_any (HS7.out.below HB8.out).j).mono ?_
              rintro e w' ⟨rfl, rfl⟩
              dsimp only
              refine hK.out _ _ ?sspf28 (fun hHeld => ?_)
              case sspf28 => (exact HCY.out _ (below_then (below_drewN (Below.refl _ _) 1) HB8.out))
              clear hK K
              try simp only [Act.put, List.setIfInBounds_toArray, List.set_cons_zero, List.set_cons_succ]
              refine wpAnyH_take (i := 28) (oi := ⟨some 219, _, _, _, _, _⟩) (v := ?vvpf29) rfl (by kernel_rfl) (by kernel_rfl) (by kernel_rfl) (fun _ _ _ h => h) (Or.inl ⟨by rfl, ?yypf29⟩) hHeld ?rrpf29
              case yypf29 => (intro wq hSw; (try dsimp only at hSw); go_simp; first | done | with_reducible rfl)
              simp only [Act.put, List.setIfInBounds_toArray, List.set_cons_zero, List.set_cons_succ]
              refine wpAnyH_take (i := 29) (oi := ⟨some 220, _, _, _, _, _⟩) (v := ?vvpf30) rfl (by kernel_rfl) (by kernel_rfl) (by kernel_rfl) (fun _ _ _ h => h) (Or.inl ⟨by rfl, ?yypf30⟩) hHeld ?rrpf30
              case yypf30 => (intro wq hSw; (try dsimp only at hSw); go_simp; first | done | with_reducible rfl)
              simp only [Act.put, List.setIfInBounds_toArray, List.set_cons_zero, List.set_cons_succ]
              refine wpAnyH_take (i := 30) (oi := ⟨some 221, _, _, _, _, _⟩) (v := ?vvpf31) rfl (by kernel_rfl) (by kernel_rfl) (by kernel_rfl) (fun _ _ _ h => h) (Or.inl ⟨by rfl, ?yypf31⟩) hHeld ?rrpf31
              case yypf31 => (intro wq hSw; (try dsimp only at hSw); go_simp; first | done | with_reducible rfl)
              simp only [Act.put, List.setIfInBounds_toArray, List.set_cons_zero, List.set_cons_succ]
              refine wpAnyH_take (i := 31) (oi := ⟨some 6, _, _, _, _, _⟩) (v := ?vvpf32) rfl (by kernel_rfl) (by kernel_rfl) (by kernel_rfl) (fun _ _ _ h => h) (Or.inl ⟨by rfl, ?yypf32⟩) hHeld ?rrpf32
              case yypf32 => (intro wq hSw; (try dsimp only at hSw); go_simp; first | done | with_reducible rfl)
              simp only [Act.put, List.setIfInBounds_toArray, List.set_cons_zero, List.set_cons_succ]
              refine wpAnyH_done (by kernel_rfl) ?_ _
              clear hHeld
              go_wp2_with fail
              go_ret
              exact ⟨rfl, below_then HBE7.out HB8.out⟩
end Go.Proofs.Ytcghgnncmnoalaa
