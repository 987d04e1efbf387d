/- The reference's Unlock. Conditions: the contract's own premises. -/
import Derived.Test.YtaanohgkdpohhaaRc5
import Derived.Test.YtaanohgkdpohhaaCell9
namespace Go.Proofs.Ytaanohgkdpohhaa
open Go.RowKit Go.Maps

theorem look_upd_ne {k k' : Ky} {y : Cl} (hne : k ≠ k') : ∀ {L : List (Ky × Cl)}, lookL (updL k' y L) k = lookL L k
  | [] => rfl
  | (q, x) :: t => by
    by_cases h : k' = q
    · subst h
      rw [show updL k' y ((k', x) :: t) = (k', y) :: t by simp [updL, Ky.eqB_true rfl]]
      simp [lookL, Ky.eqB_false hne]
    · rw [show updL k' y ((q, x) :: t) = (q, x) :: updL k' y t by simp [updL, Ky.eqB_false h]]
      by_cases e : k = q
      · subst e
        simp [lookL, Ky.eqB_true rfl]
      · simp only [lookL, Ky.eqB_false e, Bool.false_eq_true, if_false]
        exact look_upd_ne hne (L := t)
theorem look_upd_eq {k : Ky} {y : Cl} : ∀ {L : List (Ky × Cl)}, lookL (updL k y L) k = (lookL L k).map (fun _ => y)
  | [] => rfl
  | (q, x) :: t => by
    by_cases h : k = q
    · subst h
      simp [updL, lookL, Ky.eqB_true rfl]
    · rw [show updL k y ((q, x) :: t) = (q, x) :: updL k y t by simp [updL, Ky.eqB_false h]]
      simp only [lookL, Ky.eqB_false h, Bool.false_eq_true, if_false]
      exact look_upd_eq (L := t)
theorem look_del {k k' : Ky} (hne : k ≠ k') : ∀ {L : List (Ky × Cl)}, lookL (delL k' L) k = lookL L k
  | [] => rfl
  | (q, x) :: t => by
    by_cases h : k' = q
    · subst h
      rw [show delL k' ((k', x) :: t) = t by simp [delL, Ky.eqB_true rfl]]
      simp [lookL, Ky.eqB_false hne]
    · rw [show delL k' ((q, x) :: t) = (q, x) :: delL k' t by simp [delL, Ky.eqB_false h]]
      by_cases e : k = q
      · subst e
        simp [lookL, Ky.eqB_true rfl]
      · simp only [lookL, Ky.eqB_false e, Bool.false_eq_true, if_false]
        exact look_del hne (L := t)
theorem del_upd {k : Ky} {y : Cl} : ∀ {L : List (Ky × Cl)}, delL k (updL k y L) = delL k L
  | [] => rfl
  | (q, x) :: t => by
    by_cases h : k = q
    · subst h
      simp [updL, delL, Ky.eqB_true rfl]
    · simp [updL, delL, Ky.eqB_false h, del_upd (L := t)]
def unStepL (L : List (Ky × Cl)) (k : Ky) : List (Ky × Cl) := match lookL L k with
  | none => L
  | some x => if x.st = 0 then delL k L else updL k { x with lk := false } L
def unL (L : List (Ky × Cl)) (ks : List Ky) : List (Ky × Cl) := ks.foldl unStepL L
theorem unL_snoc (L : List (Ky × Cl)) (ks : List Ky) (k : Ky) : unL L (ks ++ [k]) = unStepL (unL L ks) k := by unfold unL; rw [List.foldl_append]; rfl
theorem look_unStep {L : List (Ky × Cl)} {k k' : Ky} (h : k ≠ k') : lookL (unStepL L k') k = lookL L k := by
  unfold unStepL
  split
  · rfl
  · split
    · exact look_del h
    · exact look_upd_ne h
theorem look_un {k : Ky} : ∀ (ks : List Ky) (L : List (Ky × Cl)), k ∉ ks → lookL (unL L ks) k = lookL L k
  | [], _, _ => rfl
  | q :: t, L, h => by
    have h1 : k ≠ q := fun e => h (by simp [e])
    have h2 : k ∉ t := fun e => h (by simp [e])
    show lookL (unL (unStepL L q) t) k = _
    rw [look_un t _ h2, look_unStep h1]
open Classical in
noncomputable def unlL (L : List (Ky × Cl)) (who : Int) (ks : List Ky) : Int × List (Ky × Cl) := if unlockOk (lookL L) who ks ks.length then (0, unL L ks) else (51, L)
def RUn (w : World) (rb D room : Nat) (v : Value) (L : List (Ky × Cl)) (who : Int) (ks : List Ky) (e : Ending) (w' : World) : Prop :=
  e = .returned (.int .i64 (unlL L who ks).1) ∧ RPost w rb D room v (unlL L who ks).2 w'
set_option maxRecDepth 100000 in
set_option maxHeartbeats 8000000 in
theorem runlock_any (rb D room : Nat) (v : Value) (L : List (Ky × Cl)) (who : Int) (ka : Option Addr) (kc : Nat) (ks : List Ky) (w : World) (h : RO w rb D room v L) (hD : D ≤ w.heap.size) (hrb : D ≤ rb) (hks : ks ≠ [] → ∃ b off, ka = some ⟨b, off, none⟩ ∧ KsAt w b off ks ∧ b < D) (hlen : ks.length ≤ 1000) :
    Calls Try.prog 93 #[.pointer (some ⟨rb, 0, none⟩), .int .i64 who, .slice ka ks.length kc] w (RUn w rb D room v L who ks) := by
  obtain ⟨nk, hnk⟩ : ∃ n, n = ks.length := ⟨_, rfl⟩
  have HNK : Hid (nk = ks.length ∧ nk ≤ 1000) := Lib.hid (by omega)
  have HKS : Hid (∀ u, Below D w u → ks ≠ [] → ∃ b off, ka = some ⟨b, off, none⟩ ∧ KsAt u b off ks) := Lib.hid (fun u hu hn => by
    obtain ⟨b, off, e, hat, hb⟩ := hks hn
    exact ⟨b, off, e, hat.of_block (hu.block b hb)⟩)
  have HRO := Lib.hid h
  have HDD : Hid (D ≤ w.heap.size ∧ D ≤ rb) := Lib.hid ⟨hD, hrb⟩
  rw [← hnk]
  clear hnk hks h hD hrb hlen
  go_enter Try.func93, Try.ntmps93
  go_wp2_with fail
  go_loopw [7] (fun iv wr => ∃ i : Nat, iv = .int .i64 (i : Int) ∧ i ≤ nk ∧ Hid (Below w.heap.size w wr) ∧ Hid (unlockOk (lookL L) who ks i)) (fun iv _ => nk - (intOf iv).toNat)
  case atStart => exact ⟨0, rfl, Nat.zero_le _, Lib.hid (Below.refl _ _), Lib.hid (fun i k hi => absurd hi (Nat.not_lt_zero _))⟩
  case round =>
    obtain ⟨i, rfl, hi, HB, HOK⟩ := hrel
    have hn6 := HNK.out.2
    by_cases hlt : i < nk
    · obtain ⟨k, hk⟩ : ∃ k, ks[i]? = some k := ⟨_, List.getElem?_eq_getElem (by have := HNK.out.1; omega)⟩
      have HK := Lib.hid hk
      obtain ⟨b, off, hka, hat⟩ := HKS.out wr (HB.out.mono HDD.out.1) (fun e => by rw [e] at hk; simp at hk)
      subst hka
      obtain ⟨p0, p1, p2, p3⟩ := hat.cells i k hk
      have zk := hat.lt
      obtain ⟨a, cap, hsh⟩ := HRO.out.o.shape
      have hr := HRO.out.below HB.out
      rw [hsh] at hr
      have HHO := Lib.hid (r9holds_any rb cap room a L k who wr hr.rv.1)
      obtain ⟨hb0, hhb⟩ : ∃ b, b = holdsV (lookL L k) who := ⟨_, rfl⟩
      rw [← hhb] at HHO
      have HHB := Lib.hid hhb
      clear hk hat hr hsh hhb
      go_wp2_with fail
      refine HHO.out.mono ?_
      rintro e w1 ⟨rfl, b1⟩
      have HB1 : Hid (Below w.heap.size w w1) := Lib.hid (below_then HB.out b1)
      clear b1 p0 p1 p2 p3 zk
      cases hb0
      case false =>
        go_wp2_with fail
        go_ret
        have hno : ¬ unlockOk (lookL L) who ks ks.length := fun h => by
          have := (h i k (by have := HNK.out.1; omega) HK.out).1
          rw [← HHB.out] at this
          cases this
        unfold RUn unlL
        rw [if_neg hno]
        exact ⟨rfl, RPost.same HRO.out HB1.out⟩
      case true =>
      go_wp2_with fail
      obtain ⟨wo, hwo⟩ : ∃ wo : World, wo = w1 := ⟨_, rfl⟩
      have HB0 : Hid (Below wo.heap.size wo w1) := Lib.hid (by rw [hwo]; exact Below.refl _ _)
      rw [← hwo] at HB1
      clear hwo
      go_loopw [8] (fun jv wk => ∃ j : Nat, jv = .int .i64 (j : Int) ∧ j ≤ i ∧ Hid (Below wo.heap.size wo wk) ∧ Hid (∀ (q : Nat) (z : Ky), q < j → ks[q]? = some z → z ≠ k)) (fun jv _ => i - (intOf jv).toNat)
      case atStart => exact ⟨0, rfl, Nat.zero_le _, HB0, Lib.hid (fun q z hq => absurd hq (Nat.not_lt_zero _))⟩
      case round =>
        obtain ⟨j, rfl, hj, HBJ, HNE⟩ := hrel
        have HB2 : Hid (Below w.heap.size w wr) := Lib.hid (below_then HB1.out HBJ.out)
        by_cases hlj : j < i
        · obtain ⟨z, hz⟩ : ∃ k, ks[j]? = some k := ⟨_, List.getElem?_eq_getElem (by have := HNK.out.1; omega)⟩
          have HZ := Lib.hid hz
          obtain ⟨b2, off2, hka, hat⟩ := HKS.out wr (HB2.out.mono HDD.out.1) (fun e => by rw [e] at hz; simp at hz)
          injection hka with hka
          injection hka with q1 q2
          subst q1 q2
          obtain ⟨p0, p1, p2, p3⟩ := hat.cells i k HK.out
          obtain ⟨r0, r1, r2, r3⟩ := hat.cells j z hz
          have zk := hat.lt
          have hE := eqKy z k
          clear hz hat
          by_cases he : z = k
          · rw [Ky.eqB_true he] at hE
            have HEQ := Lib.hid he
            clear he
            go_wp2_with fail
            go_quiet (fail)
            go_wp2_with fail
            go_ret
            have hno : ¬ unlockOk (lookL L) who ks ks.length := fun h => by
              refine (h i k (by have := HNK.out.1; omega) HK.out).2 ?_
              have h1 : (ks.take i)[j]? = some z := by rw [List.getElem?_take_of_lt hlj]; exact HZ.out
              rw [HEQ.out] at h1
              exact List.mem_of_getElem? h1
            unfold RUn unlL
            rw [if_neg hno]
            exact ⟨rfl, RPost.same HRO.out (below_drewN HB2.out _)⟩
          · rw [Ky.eqB_false he] at hE
            have HNE2 : Hid (∀ (q : Nat) (y : Ky), q < j + 1 → ks[q]? = some y → y ≠ k) := Lib.hid (fun q y hq hy => by
              by_cases hqj : q < j
              · exact HNE.out q y hqj hy
              · obtain rfl : q = j := by omega
                rw [HZ.out] at hy
                injection hy with hy
                rw [← hy]
                exact he)
            clear he
            go_wp2_with fail
            go_quiet (fail)
            go_wp2_with fail
            exact ⟨⟨j + 1, by simp, hlj, Lib.hid (below_drewN HBJ.out _), HNE2⟩, by simp [intOf]; omega⟩
        · have hji : j = i := by omega
          have tk2 : decide (j < i) = false := decide_eq_false hlj
          have tk : decide ((j : Int) < (i : Int)) = false := decide_eq_false (by omega)
          have HOK2 : Hid (unlockOk (lookL L) who ks (i + 1)) := Lib.hid (HOK.out.next HK.out HHB.out.symm (fun hm => by
            obtain ⟨q, hq⟩ := List.getElem?_of_mem hm
            rw [List.getElem?_take] at hq
            split at hq
            · exact HNE.out q k (by omega) hq rfl
            · cases hq))
          go_wp2_with fail
          exact ⟨⟨i + 1, by simp, hlt, HB2, HOK2⟩, by simp [intOf]; omega⟩
    · have hin : i = nk := by omega
      have ti : decide ((i : Int) < (nk : Int)) = false := decide_eq_false (by omega)
      have HYES : Hid (unlockOk (lookL L) who ks ks.length) := Lib.hid (by have h := HOK.out; rw [hin, HNK.out.1] at h; exact h)
      have HROB := Lib.hid (HRO.out.below HB.out)
      go_wp2_with fail
      clear hin ti hlt hi
      go_loopw [9] (fun iv wk => ∃ (i : Nat) (v' : Value), iv = .int .i64 (i : Int) ∧ i ≤ nk ∧ Hid (RO wk rb D room v' (unL L (ks.take i))) ∧ Hid (Chg w wk (RF rb v)) ∧ Hid (∀ j, v'.ownBlock = some j → v.ownBlock = some j ∨ w.heap.size ≤ j)) (fun iv _ => nk - (intOf iv).toNat)
      case atStart => exact ⟨0, v, rfl, Nat.zero_le _, HROB, Lib.hid (Chg.of_below HB.out _), Lib.hid (fun j hj => .inl hj)⟩
      case round =>
        obtain ⟨i, v1, rfl, hi, HR1, HC1, HOB1⟩ := hrel
        have hn6 := HNK.out.2
        have HBD : Hid (Below D w wr) := Lib.hid (HC1.out.below HDD.out.1 (fun j hj => hj.elim (fun e => by rw [e]; exact HDD.out.2) (fun e => (HRO.out.o.lt j e).1)))
        by_cases hlt : i < nk
        · obtain ⟨k, hk⟩ : ∃ k, ks[i]? = some k := ⟨_, List.getElem?_eq_getElem (by have := HNK.out.1; omega)⟩
          have HK := Lib.hid hk
          obtain ⟨b, off, hka, hat⟩ := HKS.out wr HBD.out (fun e => by rw [e] at hk; simp at hk)
          subst hka
          obtain ⟨p0, p1, p2, p3⟩ := hat.cells i k hk
          have zk := hat.lt
          have hyes := HYES.out i k (by have := HNK.out.1; omega) hk
          have hlook : lookL (unL L (ks.take i)) k = lookL L k := look_un _ _ hyes.2
          obtain ⟨x, hl⟩ : ∃ x, lookL L k = some x := by
            cases hl : lookL L k with
            | none => rw [hl] at hyes; cases hyes.1
            | some x => exact ⟨x, rfl⟩
          rw [hl] at hlook
          obtain ⟨a, cap, rfl⟩ := HR1.out.o.shape
          obtain ⟨L1, hL1⟩ : ∃ M, M = unL L (ks.take i) := ⟨_, rfl⟩
          have HL1 := Lib.hid hL1
          rw [← hL1] at HR1 HOB1 hlook
          obtain ⟨m, hm⟩ : ∃ m, m = L1.length := ⟨_, rfl⟩
          rw [← hm] at HR1 HOB1
          have HM : Hid (m = L1.length ∧ m ≤ 1048576) := Lib.hid ⟨hm, by have := HR1.out.len; omega⟩
          have HLK := Lib.hid hlook
          have HF := Lib.hid (r9find_at rb cap room a L1 k x wr HR1.out.rv.1 hlook)
          clear hk hat hyes hlook hl hL1 hm
          go_wp2_with fail
          refine HF.out.mono ?_
          rintro e w2 ⟨p, rfl, hp, hpf, b2⟩
          have HR2 := Lib.hid (HR1.out.below b2)
          have HC2 : Hid (Chg w w2 (RF rb v)) := Lib.hid (HC1.out.trans (Chg.of_below b2 (RF rb v)) (fun _ _ h => h))
          have HP := Lib.hid hp
          have HPF := Lib.hid hpf
          obtain ⟨g, cp, hve, _, _, _⟩ := HR2.out.o.at' (fun e => by rw [e] at hp; simp at hp)
          injection hve with hv1 hv2 hv3
          subst hv1
          clear hp hpf b2 hv2 hv3 p0 p1 p2 p3 zk
          have hat := HR2.out.at_ HP.out
          have q1 := cell_of_blk HR2.out.blk 1
          have zr := HR2.out.lt
          have c7 := hat.cells p (k, x) HP.out 7 _ rfl
          simp [kC] at q1 c7
          have zg := hat.lt
          have f7 := HR2.out.fz (p * 9 + 7)
          have hpm : p < m := by have h1 := (List.getElem?_eq_some_iff.1 HP.out).1; have := HM.out; omega
          have hpm2 : (p : Int) < (m : Int) := by omega
          have hm6 := HM.out.2
          obtain ⟨x1, hx1⟩ : ∃ y : Cl, y = { x with lk := false } := ⟨_, rfl⟩
          have hpp := HR2.out.put1 (y := x1) HP.out 7 (by omega) (.bool false) (by rw [hx1]; rfl)
          obtain ⟨U1, hU1⟩ : ∃ U, U = w2.setCell ⟨g, p * 9 + 7, none⟩ (.bool false) := ⟨_, rfl⟩
          rw [← hU1] at hpp
          have HRU := Lib.hid hpp.1
          have HCU : Hid (Chg w U1 (RF rb v)) := Lib.hid (HC2.out.trans hpp.2 (fun j hj hs => hs.elim .inl (fun q => (HOB1.out j q).elim .inr (fun q2 => absurd hj (by omega)))))
          have HPU : Hid ((L1.set p (k, x1))[p]? = some (k, x1)) := Lib.hid (List.getElem?_set_self (List.getElem?_eq_some_iff.1 HP.out).1)
          have HX1 := Lib.hid hx1
          have HEU := Lib.hid hU1.symm
          have HSU : Hid (L1.set p (k, x1) = updL k x1 L1) := Lib.hid (set_upd HP.out HPF.out)
          clear hpp hU1 hx1 hat
          go_upto_region 16 with fail
          rw [HEU.out]
          clear q1 zr c7 zg f7
          have hat := HRU.out.at_ HPU.out
          have q1 := cell_of_blk HRU.out.blk 1
          have zr := HRU.out.lt
          have c4 := hat.cells p (k, x1) HPU.out 4 _ rfl
          simp [kC] at q1 c4
          have zg := hat.lt
          clear hat
          have HTK : Hid (ks.take (i + 1) = ks.take i ++ [k]) := Lib.hid (by rw [List.take_add_one, HK.out]; rfl)
          by_cases hst : x1.st = 0
          · have t0 : ((x1.st : Int) == 0) = true := by rw [hst]; rfl
            have HST := Lib.hid hst
            have HDR := Lib.hid (rdrop_any rb D room _ (L1.set p (k, x1)) p U1 HRU.out (Nat.le_trans HDD.out.1 HCU.out.size) (by rw [List.length_set]; have := HM.out; omega))
            clear hst
            go_wp2_with fail
            refine HDR.out.mono ?_
            rintro e w4 ⟨rfl, ⟨v4, hro, hob⟩, hch⟩
            have HR4 : Hid (RO w4 rb D room v4 (unL L (ks.take (i + 1)))) := Lib.hid (by
              rw [HTK.out, unL_snoc, ← HL1.out]
              unfold unStepL
              rw [HLK.out]
              simp only
              rw [if_pos (by have := HST.out; rw [HX1.out] at this; exact this)]
              rw [cut_del HPU.out (fst_set HPF.out), HSU.out, del_upd] at hro
              exact hro)
            have HC4 : Hid (Chg w w4 (RF rb v)) := Lib.hid (HCU.out.trans hch (fun j hj hs => hs.elim .inl (fun q => (HOB1.out j q).elim .inr (fun q2 => absurd hj (by omega)))))
            have HOB4 : Hid (∀ j, v4.ownBlock = some j → v.ownBlock = some j ∨ w.heap.size ≤ j) := Lib.hid (fun j hj => (hob j hj).elim (HOB1.out j) (fun q => .inr (Nat.le_trans HCU.out.size q)))
            clear hro hob hch q1 zr c4 zg t0
            go_wp2_with fail
            exact ⟨⟨i + 1, v4, by simp, hlt, HR4, HC4, HOB4⟩, by simp [intOf]; omega⟩
          · have t0 : ((x1.st : Int) == 0) = false := by simp; exact hst
            have HR4 : Hid (RO U1 rb D room (.slice (some ⟨g, 0, none⟩) m cap) (unL L (ks.take (i + 1)))) := Lib.hid (by
              have hro := HRU.out
              rw [HTK.out, unL_snoc, ← HL1.out]
              unfold unStepL
              rw [HLK.out]
              simp only
              rw [if_neg (by rw [HX1.out] at hst; exact hst)]
              rw [HSU.out, HX1.out] at hro
              exact hro)
            clear hst
            go_wp2_with fail
            exact ⟨⟨i + 1, _, by simp, hlt, HR4, HCU, HOB1⟩, by simp [intOf]; omega⟩
        · have hin : i = nk := by omega
          have ti : decide ((i : Int) < (nk : Int)) = false := decide_eq_false (by omega)
          go_wp2_with fail
          go_ret
          unfold RUn unlL
          rw [if_pos HYES.out]
          refine ⟨rfl, ⟨v1, ?_, HOB1.out⟩, HC1.out⟩
          have h := HR1.out
          rw [List.take_of_length_le (by have := HNK.out.1; omega)] at h
          exact h
end Go.Proofs.Ytaanohgkdpohhaa
