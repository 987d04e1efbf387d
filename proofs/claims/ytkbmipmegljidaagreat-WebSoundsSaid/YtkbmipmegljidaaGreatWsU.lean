/- Properties that a call lays for itself; props.Take. Conditions: each contract's own premises. cobwebref01: letter, Runes, Right, Compare. Conditions: each contract's own premises. cobwebref01.Compare. Conditions: the contract's own premises. cobwebref03.Right. Conditions: the contract's own premises. cobwebref16.Check. Conditions: the contract's own premises. -/
import Derived.Test.YtkbmipmegljidaaGreatWsT
import Derived.Test.YtkbmipmegljidaaGreatWsL
import Derived.Lib.OthersKept
namespace Go.Proofs.YtkbmipmegljidaaGreat
open Go.RowKit Go.Maps

theorem infoPrW : (Tryz.prog.info? 62).map (fun i => (i.zero, i.size, i.bytes)) = some (some (.agg #[.string ⟨#[]⟩, .int .i64 0, .int .i64 0, .string ⟨#[]⟩]), 4, 48) := by kernel_rfl
def prC : List Pr → List Value
  | [] => []
  | p :: t => .string p.key :: .int .i64 p.v.kind :: .int .i64 p.v.n :: .string p.v.s :: prC t
theorem prC_app : ∀ a b, prC (a ++ b) = prC a ++ prC b
  | [], _ => rfl
  | _ :: a, b => by simp [prC, prC_app a b]
theorem prC_at : ∀ (l : List Pr) (i : Nat) (p : Pr), l[i]? = some p → (prC l)[i * 4]? = some (.string p.key) ∧ (prC l)[i * 4 + 1]? = some (.int .i64 p.v.kind) ∧ (prC l)[i * 4 + 2]? = some (.int .i64 p.v.n) ∧ (prC l)[i * 4 + 3]? = some (.string p.v.s)
  | [], _, _, h => by simp at h
  | x :: t, 0, e, h => by simp at h; subst h; simp [prC]
  | x :: t, i + 1, e, h => by
    have := prC_at t i e (by simpa using h)
    rw [show (i + 1) * 4 = i * 4 + 4 by omega]
    simpa [prC] using this
/-- a slice value that owns properties, in a block from B on -/
def PsO (w : World) (B : Nat) (v : Value) (l : List Pr) : Prop := w.ownsRow B 62 4 v l.length (prC l)
theorem PsO.below {w w' : World} {B : Nat} {v : Value} {l} (h : PsO w B v l) (hb : Below w.heap.size w w') : PsO w' B v l :=
  ownsRow_of_block h (fun k hk => hb.block k (h.lt k hk).2)
theorem PsO.alloc {w : World} {B : Nat} {v : Value} {l} (h : PsO w B v l) (X : Obj) : PsO (w.alloc X) B v l := h.below (below_box w X)
theorem PsO.drew {w : World} {B : Nat} {v : Value} {l} (h : PsO w B v l) : PsO w.drew B v l := ownsRow_of_block h (fun _ _ => rfl)
theorem PsO.mono {w : World} {B B' : Nat} {v : Value} {l} (h : PsO w B v l) (hB : B' ≤ B) : PsO w B' v l := by
  refine ⟨h.1, ?_⟩
  rcases h.2 with h' | ⟨g, cap, cur, h1, h2, h3⟩
  · exact .inl h'
  · exact .inr ⟨g, cap, cur, h1, by omega, h3⟩
theorem PsO.nil (w : World) (B : Nat) : PsO w B (.slice none 0 0) [] := ⟨rfl, .inl ⟨rfl, rfl⟩⟩
theorem PsO.shape {w : World} {B : Nat} {v : Value} {l : List Pr} (h : PsO w B v l) : ∃ a cap, v = .slice a l.length cap := by
  rcases h.2 with ⟨rfl, hl⟩ | ⟨g, cap, cur, rfl, _⟩
  · exact ⟨none, 0, by rw [hl]⟩
  · exact ⟨_, _, rfl⟩
/-- as a callee reads them -/
theorem PsO.psV {w : World} {B : Nat} {v : Value} {l : List Pr} (h : PsO w B v l) (hok : ∀ p ∈ l, p.key.size ≤ 255 ∧ p.v.Ok) : ∃ a cap, v = .slice a l.length cap ∧ PsV w a l := by
  rcases h.2 with ⟨rfl, hl⟩ | ⟨g, cap, cur, h1, h2, h3, h4, h5, h6, h7⟩
  · exact ⟨none, 0, by rw [hl], fun e => absurd (List.eq_nil_of_length_eq_zero hl) e⟩
  · refine ⟨_, cap, h1, fun _ => ⟨g, 0, rfl, ⟨fun p hp => ⟨by have := (hok p hp).1; omega, (hok p hp).2⟩, fun i p hp => ?_, (Array.getElem?_eq_some_iff.1 h3).1⟩⟩⟩
    obtain ⟨x1, x2, x3, x4⟩ := prC_at l i p hp
    have y1 := h.cells (g := g) (by rw [h1]; rfl) _ _ x1
    have y2 := h.cells (g := g) (by rw [h1]; rfl) _ _ x2
    have y3 := h.cells (g := g) (by rw [h1]; rfl) _ _ x3
    have y4 := h.cells (g := g) (by rw [h1]; rfl) _ _ x4
    rw [add_none] at y1 y2 y3 y4
    exact ⟨y1, y2, y3, y4⟩
/-- 'append(ps, p)', ps the call's own -/
theorem wpList_appP (w : World) {ops : Array Oper} {rest : List Oper} {o : Oper} {a : Act} {Q : Exit → Act → World → Prop} (hgd : o.guard = none) (s x : Operand)
    (ho : o.op = .call { callee := .builtin .append, args := #[s, x], argTypes := #[28, 28] }) (B : Nat) (v : Value) (l : List Pr) (hs : a.eval s = v) (hown : PsO w B v l)
    (b c : Nat) (p : Pr) (hx : a.eval x = .slice (some ⟨b, 0, none⟩) 1 c) (hnew : w.heap[b]? = some (.cells #[.string p.key, .int .i64 p.v.kind, .int .i64 p.v.n, .string p.v.s] 62 (0, 0)))
    (hlen : l.length ≤ 4000000) (hB : B ≤ w.heap.size)
    (h : ∀ v' w', PsO w' B v' (l ++ [p]) → Below B w w' → w.grownBy w' v.ownBlock → wpList Tryz.prog ops Q rest (a.put o.dst v') w') :
    wpList Tryz.prog ops Q (o :: rest) a w := by
  obtain ⟨i0, hi, hz0, hz1, hz2⟩ := info_parts infoPrW
  refine wpList_append_own_at w hgd s x 28 ho B 62 i0 _ 4 48 Tryz.underlying28 hi hz0 hz1 hz2 rfl (by omega) v l.length (prC l) hs hown ⟨b, 0, none⟩ 1 c (prC [p]) hx rfl ?_ (by simp [prC, Value.oneCell']) (by unfold maxLen; omega) (by omega) hB ?_
  · intro j u hu
    rw [add_none, cell_of_blk hnew]
    match j, hu with
    | 0, hu => simpa [prC] using hu
    | 1, hu => simpa [prC] using hu
    | 2, hu => simpa [prC] using hu
    | 3, hu => simpa [prC] using hu
    | j + 4, hu => simp [prC] at hu
  · intro v' w' h1 h2 h3 h4
    refine h v' w' ?_ ⟨h2.os, h2.tape, h2.output, h2.size, fun k hk => h2.block k (by omega) (fun e => by have := (hown.lt k e.symm).1; omega)⟩ h2
    unfold PsO
    rw [List.length_append, prC_app]
    exact h1
/-- what taking properties leaves -/
def PkPost (w : World) (o : Option (List Pr × Nat)) (e : Ending) (w' : World) : Prop :=
  Below w.heap.size w w' ∧ ∃ (v : Value) (n : Nat) (k : Int) (ps : List Pr), e = .returned (.tuple #[v, .int .i64 (n : Int), .int .i64 k]) ∧ ((k = 0 ∧ o = some (ps, n) ∧ PsO w' w.heap.size v ps) ∨ (k ≠ 0 ∧ o = none ∧ v = .slice none 0 0))
def PtRel (L : List UInt8) (c : Nat) (R : Option (List Pr × Nat)) (w : World) (out at' i : Value) (wr : World) : Prop :=
  ∃ (j n : Nat) (acc : List Pr), j ≤ c ∧ n ≤ L.length ∧ i = .int .i64 (j : Int) ∧ at' = .int .i64 (n : Int) ∧ acc.length = j ∧ PsO wr w.heap.size out acc ∧ Hid (∀ p ∈ acc, p.key.size ≤ 255 ∧ p.v.Ok) ∧ Below w.heap.size w wr ∧ Hid (R = tkP (c - j) acc (L.drop n) n)
theorem badS_empty : badS ⟨([] : List UInt8).toArray⟩ = true := by rfl
theorem drop_get {L : List UInt8} {n : Nat} (h : n < L.length) : L.drop n = L[n] :: L.drop (n + 1) := List.drop_eq_getElem_cons h

set_option maxRecDepth 100000 in
set_option maxHeartbeats 4000000 in
theorem ptake_any (b off cap : Nat) (l : List UInt8) (w : World) (h : BsAt w b off l) (hl : l.length ≤ 1000000) (hcap : l.length ≤ cap) :
    Calls Tryz.prog 125 #[.slice (some ⟨b, off, none⟩) l.length cap] w (PkPost w (tkA l)) := by
  have hlw := h.lt
  obtain ⟨R, hR⟩ : ∃ R, R = tkA l := ⟨_, rfl⟩
  rw [← hR]
  have HR := Lib.hid hR
  clear hR
  have HH := Lib.hid h
  match l, h with
  | [], h =>
    clear h
    go_enter Tryz.func125, Tryz.ntmps125
    go_wp2_with fail
    go_ret3
    exact ⟨Below.refl _ _, _, 0, 20, [], rfl, .inr ⟨by decide, HR.out, rfl⟩⟩
  | x :: r, h =>
    have q0 := h.cells 0 x rfl
    unfold bv at q0
    rw [Nat.add_zero] at q0
    simp at hl
    by_cases h16 : 16 < x.toNat
    · have HN : Hid (R = none) := Lib.hid (by rw [HR.out]; simp [tkA, h16])
      clear h
      go_enter Tryz.func125, Tryz.ntmps125
      go_wp2_with fail
      go_ret3
      exact ⟨Below.refl _ _, _, 0, 10, [], rfl, .inr ⟨by decide, HN.out, rfl⟩⟩
    · have HN : Hid (R = tkP x.toNat [] r 1) := Lib.hid (by rw [HR.out]; simp [tkA, h16])
      obtain ⟨c, hc⟩ : ∃ c, x.toNat = c := ⟨_, rfl⟩
      rw [hc] at HN h16 q0
      obtain ⟨L, hL⟩ : ∃ L, L = x :: r := ⟨_, rfl⟩
      have hLl : L.length = r.length + 1 := by rw [hL]; rfl
      rw [← hL] at HH hcap ⊢
      have HS : Hid (PtRel L c R w (.slice none 0 0) (.int .i64 1) (.int .i64 0) w) := Lib.hid ⟨0, 1, [], by omega, by omega, rfl, rfl, rfl, PsO.nil _ _, Lib.hid (by simp), Below.refl _ _, Lib.hid (by rw [HN.out, hL]; rfl)⟩
      have hc16 : c ≤ 16 := by omega
      have hL1 : 1 ≤ L.length := by omega
      have hLm : L.length ≤ 1000001 := by omega
      have hL0 : ((L.length : Int) == 0) = false := by simp; intro e; rw [e] at hL1; simp at hL1
      clear h hc hL HR HN h16 hLl hl
      go_enter Tryz.func125, Tryz.ntmps125
      go_wp2_with fail
      go_loopw [5, 6, 25] (fun s i j wr => PtRel L c R w s i j wr) (fun _ _ j _ => c - (intOf j).toNat)
      case atStart => exact HS.out
      case round =>
        obtain ⟨j, n, acc, hj, hn, rfl, rfl, hac, hO, HOk, hbel, HT⟩ := hrel
        have hat := HH.out.below hbel
        have hlb : b < wr.heap.size := hat.lt
        have HAT := Lib.hid hat
        clear hat
        by_cases hlt : j < c
        · obtain ⟨c', hc'⟩ : ∃ c', c - j = c' + 1 := ⟨c - j - 1, by omega⟩
          rw [hc'] at HT
          by_cases hln : n < L.length
          · have hneq : ((n : Int) == (L.length : Int)) = false := by simp; omega
            obtain ⟨k, hk⟩ : ∃ k, L[n]? = some k := ⟨_, List.getElem?_eq_getElem hln⟩
            have q1 := HAT.out.cells n k hk
            unfold bv at q1
            have HD : Hid (L.drop n = k :: L.drop (n + 1)) := Lib.hid (by
              rw [List.getElem?_eq_getElem hln] at hk
              injection hk with hk
              rw [drop_get hln, hk])
            clear hk
            have hkn : k.toNat < 256 := k.toNat_lt
            have hrl : (L.drop (n + 1)).length = L.length - n - 1 := by simp; omega
            rw [HD.out] at HT
            by_cases hsh : (L.drop (n + 1)).length < k.toNat
            · have HN : Hid (R = none) := Lib.hid (by rw [HT.out, tkP_short hsh])
              rw [hrl] at hsh
              clear hrl
              go_wp2_with fail
              go_ret3
              exact ⟨hbel, _, 0, 20, [], rfl, .inr ⟨by decide, HN.out, rfl⟩⟩
            · have HSH := Lib.hid hsh
              rw [hrl] at hsh
              clear hrl
              obtain ⟨key, hkey⟩ : ∃ key : ByteArray, key = ⟨((L.drop (n + 1)).take k.toNat).toArray⟩ := ⟨_, rfl⟩
              have hks : key.size = k.toNat := by
                rw [hkey]
                show ((L.drop (n + 1)).take k.toNat).length = _
                simp; omega
              have HK := Lib.hid hkey
              have hconv : ∀ i (hi : i < ((L.drop (n + 1)).take k.toNat).length), wr.cell? ((⟨b, off + (n + 1), none⟩ : Addr).add i) = some (.int .u8 ((((L.drop (n + 1)).take k.toNat)[i]).toNat : Int)) := fun i hi => by
                have hb2 := (HAT.out.drop (n + 1)).conv i (by simp at hi ⊢; omega)
                rw [hb2, List.getElem_take]
              have HCV := Lib.hid hconv
              clear hkey hconv
              by_cases hcn : cap = n + 1
              · have hk0 : k.toNat = 0 := by omega
                have HN : Hid (R = none) := Lib.hid (by rw [HT.out, tkP_bad (by rw [hk0]; exact badS_empty)])
                rw [hk0] at q1
                clear HCV HK hks HSH HT HD hsh
                subst hcn
                go_wp2_with (first | (refine wpList_toStr _ rfl (.tmp 56) rfl _ 0 _ [] rfl rfl (by intro i hi; simp at hi) ?_) | fail)
                refine (lright_one wr.heap.size 1 ⟨#[]⟩ 9 (0, 0) _ (heap_new wr _) (Nat.zero_le _)).mono ?_
                rintro e w1 ⟨rfl, hb1⟩
                rw [show badS ⟨#[]⟩ = true from rfl]
                go_wp2_with fail
                go_ret3
                exact ⟨below_then hbel (below_then (below_box wr _) hb1), _, 0, 30, [], rfl, .inr ⟨by decide, HN.out, rfl⟩⟩
              · have hkm : key.size ≤ maxLen := by unfold maxLen; omega
                have HKM := Lib.hid hkm
                clear hkm
                obtain ⟨pa, pc, hv, hpv⟩ := hO.psV HOk.out
                have HPV := Lib.hid hpv
                have HO := Lib.hid hO
                have HV := Lib.hid hv
                clear hpv hO hv
                cases hbad : badS key
                · have HBD := Lib.hid hbad
                  clear hbad
                  rcases Nat.eq_zero_or_pos j with hj0 | hj0
                  · have HLT : Hid (lateK acc key = false) := Lib.hid (by rw [List.eq_nil_of_length_eq_zero (hac.trans hj0)]; rfl)
                    subst hj0
                    go_wp2_with (first | (refine wpList_toStr _ rfl (.tmp 56) rfl _ _ _ ((L.drop (n + 1)).take k.toNat) rfl (by simp; omega) HCV.out ?_; rw [← HK.out]) | fail)
                    refine (lright_one wr.heap.size 1 key 9 (0, 0) _ (heap_new wr _) HKM.out).mono ?_
                    rintro e w1 ⟨rfl, hb1⟩
                    rw [HBD.out]
                    obtain ⟨wv, hwv⟩ : ∃ wv, wv = w1 := ⟨_, rfl⟩
                    have hbv : Below wr.heap.size wr wv := by rw [hwv]; exact below_then (below_box wr _) hb1
                    subst hwv
                    clear hb1
                    have hbW := below_then hbel hbv
                    have hatv := HAT.out.below hbv
                    have hlv : b < wv.heap.size := hatv.lt
                    have HAV := Lib.hid hatv
                    have HBW := Lib.hid hbW
                    have HOv := Lib.hid (HO.out.below hbv)
                    clear hatv hbW
                    by_cases hce : cap = n + (1 + k.toNat)
                    · have hz : L.length - (n + (1 + k.toNat)) = 0 := by omega
                      have HN : Hid (R = none) := Lib.hid (by rw [HT.out, tkP_none (by rw [List.drop_drop, List.drop_eq_nil_of_le (by omega)]; rfl)])
                      subst hce
                      go_wp2_with fail
                      rw [hz]
                      refine (vtake_any b off 0 [] wv ⟨by simp, hlv⟩ (by simp) (by simp)).mono ?_
                      rintro e w2 ⟨hb2, v, m, kk, rfl, hor⟩
                      have hkk : kk ≠ 0 := by
                        rcases hor with ⟨_, ho⟩ | ⟨ho, _⟩
                        · cases ho
                        · exact ho
                      have hk' : (kk == 0) = false := by simpa using hkk
                      have HKK := Lib.hid hkk
                      clear hor hkk
                      go_wp2_with fail
                      go_ret3
                      exact ⟨below_al (below_then HBW.out hb2) _, _, 0, kk, [], rfl, .inr ⟨HKK.out, HN.out, rfl⟩⟩
                    · have hvt := vtake_any b (off + (n + (1 + k.toNat))) (cap - (n + (1 + k.toNat))) (L.drop (n + (1 + k.toNat))) wv (HAV.out.drop _) (by simp; omega) (by simp; omega)
                      rw [List.length_drop] at hvt
                      have HVT := Lib.hid hvt
                      clear hvt
                      go_wp2_with fail
                      refine HVT.out.mono ?_
                      rintro e w2 ⟨hb2, v, m, kk, rfl, hor⟩
                      have hdd : (L.drop (n + 1)).drop k.toNat = L.drop (n + (1 + k.toNat)) := by rw [List.drop_drop, Nat.add_assoc]
                      rcases hor with ⟨rfl, hv⟩ | ⟨hkk, hv⟩
                      · have HN : Hid (R = tkP c' (acc ++ [⟨key, v⟩]) (L.drop (n + (1 + k.toNat) + m)) (n + (1 + k.toNat) + m)) := Lib.hid (by
                          rw [HT.out, tkP_step HSH.out (by rw [← HK.out]; exact HBD.out) (by rw [← HK.out]; exact HLT.out) (by rw [hdd]; exact hv), ← HK.out, List.drop_drop, show n + 1 + (k.toNat + m) = n + (1 + k.toNat) + m by omega, show n + 1 + k.toNat + m = n + (1 + k.toNat) + m by omega])
                        obtain ⟨vo, _, _, vl⟩ := tkV_ok hv
                        simp at vl
                        have HVO := Lib.hid vo
                        have hcj : c' = c - (1) := by omega
                        have HCJ := Lib.hid hcj
                        clear hv hdd vo hcj
                        go_wp2_with (at_builtin; refine wpList_appP _ rfl (.tmp 95) (.tmp 99) rfl w.heap.size _ acc rfl (((HOv.out.below hb2).alloc _).alloc _) (w2.heap.size + 1) 1 ⟨key, v⟩ rfl (heap_new2 w2 _ _) (by omega) (by have := (below_then HBW.out hb2).size; simp; omega) ?_; intro v1 w3 o1 b1 g1)
                        refine ⟨?_, by simp [intOf]; omega⟩
                        exact ⟨1, n + (1 + k.toNat) + m, acc ++ [⟨key, v⟩], by omega, by omega, by go_num, by go_num, by rw [List.length_append, hac]; rfl, o1, Lib.hid (fun p hp => by
                          rcases List.mem_append.1 hp with hp | hp
                          · exact HOk.out p hp
                          · simp at hp
                            subst hp
                            exact ⟨by rw [hks]; omega, HVO.out⟩), (below_al (below_al (below_then HBW.out hb2) _) _).trans b1, by rw [← HCJ.out]; exact HN⟩
                      · have HN : Hid (R = none) := Lib.hid (by rw [HT.out, tkP_none (by rw [hdd]; exact hv)])
                        have hk' : (kk == 0) = false := by simpa using hkk
                        have HKK := Lib.hid hkk
                        clear hdd hkk hv
                        go_wp2_with fail
                        go_ret3
                        exact ⟨below_al (below_then HBW.out hb2) _, _, 0, kk, [], rfl, .inr ⟨HKK.out, HN.out, rfl⟩⟩
                  · obtain ⟨j', rfl⟩ : ∃ j', j = j' + 1 := ⟨j - 1, by omega⟩
                    obtain ⟨q, hq⟩ : ∃ q, acc[j']? = some q := ⟨_, List.getElem?_eq_getElem (by omega)⟩
                    have HLT : Hid (lateK acc key = decide (0 ≤ cmpL (runes q.key) (runes key))) := Lib.hid (by
                      unfold lateK
                      rw [List.getLast?_eq_getElem?, hac, Nat.add_sub_cancel, hq])
                    obtain ⟨b2, o2, ha2, hat2⟩ := HPV.out (fun e => by rw [e] at hac; simp at hac)
                    have hqo := hat2.ok q (List.mem_of_getElem? hq)
                    have hv2 := HV.out
                    rw [ha2, hac] at hv2
                    obtain ⟨q0', q1', q2', q3'⟩ := hat2.cells j' q hq
                    have hl2 := hat2.lt
                    have HA2 := Lib.hid hat2
                    have HQ := Lib.hid hq
                    have HQO := Lib.hid hqo.key
                    subst hv2
                    clear hat2 hq hqo ha2
                    go_wp2_with (first | (refine wpList_toStr _ rfl (.tmp 56) rfl _ _ _ ((L.drop (n + 1)).take k.toNat) rfl (by simp; omega) HCV.out ?_; rw [← HK.out]) | fail)
                    refine (lright_one wr.heap.size 1 key 9 (0, 0) _ (heap_new wr _) HKM.out).mono ?_
                    rintro e w1 ⟨rfl, hb1⟩
                    rw [HBD.out]
                    have hbv1 : Below wr.heap.size wr w1 := below_then (below_box wr _) hb1
                    clear q0' q1' q2' q3' hb1
                    obtain ⟨q0', q1', q2', q3'⟩ := (HA2.out.of_block (hbv1.block _ hl2)).cells j' q HQ.out
                    have hl3 : b2 < w1.heap.size := by have := hbv1.size; omega
                    go_wp2_with fail
                    refine (by_any q key w1 HQO.out (by rw [hks]; omega)).mono ?_
                    rintro e wv ⟨rfl, hb2⟩
                    have hbv := below_then hbv1 hb2
                    clear q0' q1' q2' q3' hb2 hbv1
                    obtain ⟨z, hz⟩ : ∃ z, cmpL (runes q.key) (runes key) = z := ⟨_, rfl⟩
                    rw [hz] at HLT ⊢
                    clear hz
                    by_cases hzz : 0 ≤ z
                    · have HN : Hid (R = none) := Lib.hid (by rw [HT.out, tkP_late (by rw [← HK.out, HLT.out]; exact decide_eq_true hzz)])
                      go_wp2_with fail
                      go_ret3
                      exact ⟨below_then hbel hbv, _, 0, 30, [], rfl, .inr ⟨by decide, HN.out, rfl⟩⟩
                    · rw [decide_eq_false hzz] at HLT
                      have hbW := below_then hbel hbv
                      have hatv := HAT.out.below hbv
                      have hlv : b < wv.heap.size := hatv.lt
                      have HAV := Lib.hid hatv
                      have HBW := Lib.hid hbW
                      have HOv := Lib.hid (HO.out.below hbv)
                      clear hatv hbW
                      by_cases hce : cap = n + (1 + k.toNat)
                      · have hz : L.length - (n + (1 + k.toNat)) = 0 := by omega
                        have HN : Hid (R = none) := Lib.hid (by rw [HT.out, tkP_none (by rw [List.drop_drop, List.drop_eq_nil_of_le (by omega)]; rfl)])
                        subst hce
                        go_wp2_with fail
                        rw [hz]
                        refine (vtake_any b off 0 [] wv ⟨by simp, hlv⟩ (by simp) (by simp)).mono ?_
                        rintro e w2 ⟨hb2, v, m, kk, rfl, hor⟩
                        have hkk : kk ≠ 0 := by
                          rcases hor with ⟨_, ho⟩ | ⟨ho, _⟩
                          · cases ho
                          · exact ho
                        have hk' : (kk == 0) = false := by simpa using hkk
                        have HKK := Lib.hid hkk
                        clear hor hkk
                        go_wp2_with fail
                        go_ret3
                        exact ⟨below_al (below_then HBW.out hb2) _, _, 0, kk, [], rfl, .inr ⟨HKK.out, HN.out, rfl⟩⟩
                      · have hvt := vtake_any b (off + (n + (1 + k.toNat))) (cap - (n + (1 + k.toNat))) (L.drop (n + (1 + k.toNat))) wv (HAV.out.drop _) (by simp; omega) (by simp; omega)
                        rw [List.length_drop] at hvt
                        have HVT := Lib.hid hvt
                        clear hvt
                        go_wp2_with fail
                        refine HVT.out.mono ?_
                        rintro e w2 ⟨hb2, v, m, kk, rfl, hor⟩
                        have hdd : (L.drop (n + 1)).drop k.toNat = L.drop (n + (1 + k.toNat)) := by rw [List.drop_drop, Nat.add_assoc]
                        rcases hor with ⟨rfl, hv⟩ | ⟨hkk, hv⟩
                        · have HN : Hid (R = tkP c' (acc ++ [⟨key, v⟩]) (L.drop (n + (1 + k.toNat) + m)) (n + (1 + k.toNat) + m)) := Lib.hid (by
                            rw [HT.out, tkP_step HSH.out (by rw [← HK.out]; exact HBD.out) (by rw [← HK.out]; exact HLT.out) (by rw [hdd]; exact hv), ← HK.out, List.drop_drop, show n + 1 + (k.toNat + m) = n + (1 + k.toNat) + m by omega, show n + 1 + k.toNat + m = n + (1 + k.toNat) + m by omega])
                          obtain ⟨vo, _, _, vl⟩ := tkV_ok hv
                          simp at vl
                          have HVO := Lib.hid vo
                          have hcj : c' = c - (j' + 1 + 1) := by omega
                          have HCJ := Lib.hid hcj
                          clear hv hdd vo hcj
                          go_wp2_with (at_builtin; refine wpList_appP _ rfl (.tmp 95) (.tmp 99) rfl w.heap.size _ acc rfl (((HOv.out.below hb2).alloc _).alloc _) (w2.heap.size + 1) 1 ⟨key, v⟩ rfl (heap_new2 w2 _ _) (by omega) (by have := (below_then HBW.out hb2).size; simp; omega) ?_; intro v1 w3 o1 b1 g1)
                          refine ⟨?_, by simp [intOf]; omega⟩
                          exact ⟨j' + 1 + 1, n + (1 + k.toNat) + m, acc ++ [⟨key, v⟩], by omega, by omega, by go_num, by go_num, by rw [List.length_append, hac]; rfl, o1, Lib.hid (fun p hp => by
                            rcases List.mem_append.1 hp with hp | hp
                            · exact HOk.out p hp
                            · simp at hp
                              subst hp
                              exact ⟨by rw [hks]; omega, HVO.out⟩), (below_al (below_al (below_then HBW.out hb2) _) _).trans b1, by rw [← HCJ.out]; exact HN⟩
                        · have HN : Hid (R = none) := Lib.hid (by rw [HT.out, tkP_none (by rw [hdd]; exact hv)])
                          have hk' : (kk == 0) = false := by simpa using hkk
                          have HKK := Lib.hid hkk
                          clear hdd hkk hv
                          go_wp2_with fail
                          go_ret3
                          exact ⟨below_al (below_then HBW.out hb2) _, _, 0, kk, [], rfl, .inr ⟨HKK.out, HN.out, rfl⟩⟩
                · have HN : Hid (R = none) := Lib.hid (by rw [HT.out, tkP_bad (by rw [← HK.out]; exact hbad)])
                  have HBD := Lib.hid hbad
                  clear hbad
                  go_wp2_with (first | (refine wpList_toStr _ rfl (.tmp 56) rfl _ _ _ ((L.drop (n + 1)).take k.toNat) rfl (by simp; omega) HCV.out ?_; rw [← HK.out]) | fail)
                  refine (lright_one wr.heap.size 1 key 9 (0, 0) _ (heap_new wr _) HKM.out).mono ?_
                  rintro e w1 ⟨rfl, hb1⟩
                  rw [HBD.out]
                  go_wp2_with fail
                  go_ret3
                  exact ⟨below_then hbel (below_then (below_box wr _) hb1), _, 0, 30, [], rfl, .inr ⟨by decide, HN.out, rfl⟩⟩
          · have hnl : n = L.length := by omega
            have HN : Hid (R = none) := Lib.hid (by rw [HT.out, List.drop_eq_nil_of_le (by omega), tkP_nil])
            have ht : ((n : Int) == (L.length : Int)) = true := by simp; omega
            clear hnl hln
            go_wp2_with fail
            go_ret3
            exact ⟨hbel, _, 0, 20, [], rfl, .inr ⟨by decide, HN.out, rfl⟩⟩
        · obtain rfl : j = c := by omega
          have HN : Hid (R = some (acc, n)) := Lib.hid (by rw [HT.out, Nat.sub_self, tkP_zero])
          go_wp2_with fail
          go_ret3
          exact ⟨hbel, _, n, 0, acc, rfl, .inl ⟨rfl, HN.out, hO⟩⟩
end Go.Proofs.YtkbmipmegljidaaGreat
namespace Go.Proofs.YtkbmipmegljidaaGreat
open Go.RowKit Go.Maps Go.Lib

end Go.Proofs.YtkbmipmegljidaaGreat
namespace Go.Proofs.YtkbmipmegljidaaGreat
open Go.RowKit Go.Maps Go.Lib

end Go.Proofs.YtkbmipmegljidaaGreat
namespace Go.Proofs.YtkbmipmegljidaaGreat
open Go.RowKit Go.Maps Go.Lib

end Go.Proofs.YtkbmipmegljidaaGreat
namespace Go.Proofs.YtkbmipmegljidaaGreat
open Go.RowKit Go.Maps Go.Lib

end Go.Proofs.YtkbmipmegljidaaGreat
