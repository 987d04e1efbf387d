/- A walk: Next. Conditions: each contract's own premises. -/
import Derived.Test.YtaanohgkdpohhaaWk2
namespace Go.Proofs.Ytaanohgkdpohhaa
open Go.RowKit Go.Maps

/-- who is next by an edge -/
def nx (E : List Eg) (out : Bool) (lab : ByteArray) (id : Int) : List Int :=
  if lab.toList = [] ∨ (getE E id).label = lab then [if out then (getE E id).to else (getE E id).fr] else []
/-- .. by the edges of a vertex -/
def nextL (E : List Eg) (out : Bool) (lab : ByteArray) (n : Int) : List Int := setI ((idsE E (sideP out n)).flatMap (nx E out lab))
/-- what Next leaves -/
def NxPost (w0 w : World) (wb gb : Nat) (st : Option Nat) (E : List Eg) (n : Int) (out : Bool) (lab : ByteArray) (e : Ending) (w' : World) : Prop :=
  ∃ v, e = .returned v ∧ kI.Own w' w.heap.size v (if (payS st (1 + (idsE E (sideP out n)).length)).isSome then nextL E out lab n else []) ∧ WkS w0 w' wb gb (payS st (1 + (idsE E (sideP out n)).length)) ∧ Chg w w' (fun i => i = wb)
theorem nx_len (E : List Eg) (out : Bool) (lab : ByteArray) : ∀ l : List Int, (l.flatMap (nx E out lab)).length ≤ l.length
  | [] => Nat.le_refl _
  | x :: l => by
    rw [List.flatMap_cons, List.length_append, List.length_cons]
    have h1 := nx_len E out lab l
    have h2 : (nx E out lab x).length ≤ 1 := by unfold nx; split <;> simp
    omega
theorem take_flat {l : List Int} {k : Nat} {x : Int} (f : Int → List Int) (h : l[k]? = some x) : (l.take (k + 1)).flatMap f = (l.take k).flatMap f ++ f x := by
  rw [List.take_add_one, h, List.flatMap_append]
  simp
theorem ids_found {E : List Eg} (hs : SortB Eg.id E) {p : Eg → Bool} {x : Int} (h : x ∈ idsE E p) : ∃ e, e ∈ E ∧ p e = true ∧ e.id = x ∧ findB Eg.id E x = some e ∧ getE E x = e := by
  unfold idsE at h
  obtain ⟨e, he, rfl⟩ := List.mem_map.1 h
  obtain ⟨h1, h2⟩ := List.mem_filter.1 he
  have h3 := findB_mem hs h1
  exact ⟨e, h1, h2, rfl, h3, by unfold getE; rw [h3]; rfl⟩
def NxRel (w0 w : World) (wb gb : Nat) (st1 : Option Nat) (E : List Eg) (out : Bool) (lab : ByteArray) (L : List Int) (a : Option Addr) (cap : Nat) (v i : Value) (wr : World) : Prop :=
  ∃ k : Nat, k ≤ L.length ∧ i = .int .i64 k ∧ kI.Own wr w.heap.size v ((L.take k).flatMap (nx E out lab)) ∧ WkS w0 wr wb gb (payS st1 k) ∧ (k = 0 ∨ (payS st1 k).isSome = true) ∧ kI.Own wr w.heap.size (.slice a L.length cap) L ∧ Chg w wr (fun i => i = wb) ∧ (∀ j, v.ownBlock = some j → (Value.slice a L.length cap).ownBlock ≠ some j)
theorem ba_ne' {a b : ByteArray} (h : a ≠ b) : (a.toList == b.toList) = false := by
  refine Bool.eq_false_iff.2 fun e => h ?_
  have e2 : a.toList = b.toList := by simpa using e
  cases a; cases b
  simp only [ByteArray.toList_eq] at e2
  congr 1
  exact Array.toList_inj.1 e2
theorem WkS.belowN {w0 w w' : World} {wb gb B : Nat} {st : Option Nat} (h : WkS w0 w wb gb st) (hB : wb < B) (hb : Below B w w') : WkS w0 w' wb gb st :=
  ⟨h.bel.trans (hb.mono (Nat.le_of_lt (Nat.lt_of_le_of_lt h.new hB))), h.new, (hb.block wb hB).trans h.blk, h.small⟩
theorem Chg.andBelow {a b c : World} {S : Nat → Prop} (h : Chg a b S) (hb : Below a.heap.size b c) : Chg a c S :=
  ⟨hb.os.trans h.os, hb.tape.trans h.tape, hb.output.trans h.output, Nat.le_trans h.size hb.size, fun k hk hn => (hb.block k hk).trans (h.block k hk hn)⟩
theorem NxRel.app {w0 w u w8 : World} {wb gb : Nat} {st1 : Option Nat} {E : List Eg} {out : Bool} {lab : ByteArray} {L acc : List Int} {a : Option Addr} {cap k r : Nat} {x f : Int} {va v8 : Value} {X : Obj}
    (hx : L[k]? = some x) (hac : acc = (L.take k).flatMap (nx E out lab)) (hnx : nx E out lab x = [f]) (hok : some r = payS st1 (k + 1)) (hOl : kI.Own u w.heap.size (.slice a L.length cap) L) (hS : WkS w0 u wb gb (some r)) (hK : Chg w u (fun i => i = wb)) (hwb : wb < w.heap.size)
    (hOA : kI.Own (u.alloc X) w.heap.size va acc) (_hz : w.heap.size ≤ (u.alloc X).heap.size) (oA : kI.Own w8 w.heap.size v8 (acc ++ [f])) (gA : (u.alloc X).grownBy w8 va.ownBlock) (hsep : ∀ j, va.ownBlock = some j → (Value.slice a L.length cap).ownBlock ≠ some j) (kA : v8.ownBlock = va.ownBlock ∨ v8.ownBlock = some (u.alloc X).heap.size) :
    NxRel w0 w wb gb st1 E out lab L a cap v8 (.int .i64 ((k : Int) + 1)) w8 := by
  have hw : some wb ≠ va.ownBlock := fun e => by have := (hOA.lt wb e.symm).1; omega
  refine ⟨k + 1, (List.getElem?_eq_some_iff.1 hx).1, by simp, ?_, ?_, .inr (by rw [← hok]; rfl), ?_, ?_, fun j hj e => ?_⟩
  · rw [take_flat _ hx, ← hac, hnx]; exact oA
  · rw [← hok]
    have h1 := hS.below (below_box u X)
    refine ⟨h1.bel.grown gA (Nat.le_trans h1.bel.size (Nat.le_refl _)) (fun j hj => ?_), h1.new, (gA.block wb h1.lt hw).trans h1.blk, h1.small⟩
    have := (hOA.lt j hj).1
    have := hS.new
    have := hK.size
    omega
  · exact (hOl.alloc X).grown gA (fun j hj e => hsep j e.symm hj)
  · exact (hK.alloc X).grown gA (fun m hm hml => by have := (hOA.lt m hm).1; omega)
  · rcases kA with h | h
    · exact hsep j (h ▸ hj) e
    · rw [h] at hj
      injection hj with hj
      have := (hOl.lt j e).2
      simp at hj
      omega
set_option maxRecDepth 100000 in
set_option maxHeartbeats 4000000 in
theorem wnext_any (w0 w : World) (wb gb vb eb : Nat) (V : List Vt) (E : List Eg) (st : Option Nat) (n : Int) (out : Bool) (lab : ByteArray) (hG : GrC w0 gb vb eb V E) (h : WkS w0 w wb gb st) (hE : E.length ≤ 1000000) :
    Calls Try.prog 49 #[.pointer (some ⟨wb, 0, none⟩), .int .i64 n, .bool out, .string lab] w (NxPost w0 w wb gb st E n out lab) := by
  have HG := Lib.hid hG
  have HE := Lib.hid hE
  have HWB := Lib.hid h.lt
  have HEG := Lib.hid (wedges_any w0 w wb gb vb eb V E st n out hG h hE)
  clear h hG hE
  go_enter Try.func49, Try.ntmps49
  go_wp2_with fail
  refine HEG.out.mono ?_
  rintro e w1 ⟨v, rfl, o1, s1, k1⟩
  obtain ⟨ids, hids⟩ : ∃ ids, ids = idsE E (sideP out n) := ⟨_, rfl⟩
  unfold NxPost
  rw [← hids] at o1 ⊢
  obtain ⟨st1, hst1⟩ : ∃ s, s = payS st 1 := ⟨_, rfl⟩
  rw [← hst1] at o1 s1
  obtain ⟨L, hL⟩ : ∃ L : List Int, L = if st1.isSome then ids else [] := ⟨_, rfl⟩
  rw [← hL] at o1
  obtain ⟨a, cap, rfl⟩ := o1.shape
  have hLE : L.length ≤ E.length := by
    rw [hL]
    split
    · rw [hids]; exact idsE_len _ _
    · exact Nat.zero_le _
  have HI := Lib.hid hids
  have HS1 := Lib.hid hst1
  have HL := Lib.hid hL
  have K1 := Lib.hid k1
  have S1 := Lib.hid s1
  have O1 := Lib.hid o1
  have HLE := Lib.hid hLE
  have HFIN : Hid (payS st (1 + ids.length) = payS st1 ids.length) := Lib.hid (by rw [hst1, payS_add])
  have HEL := Lib.hid (Nat.le_trans hLE HE.out)
  clear hids hst1 hL k1 s1 HEG o1 hLE
  go_wp2_with fail
  go_loopw [9, 19] (fun v i wr => NxRel w0 w wb gb st1 E out lab L a cap v i wr) (fun _ i _ => L.length - (intOf i).toNat)
  case atStart => exact ⟨0, Nat.zero_le _, rfl, by rw [List.take_zero]; exact RowK.Own.nil kI _ _, by rw [payS_zero]; exact S1.out, .inl rfl, O1.out, K1.out, fun j hj => by cases hj⟩
  case round =>
    obtain ⟨k, hk, rfl, hacc, hS, hor, hOl, hK, hsep⟩ := hrel
    obtain ⟨va, vc, rfl⟩ := hacc.shape
    obtain ⟨acc, hac⟩ : ∃ acc, acc = (L.take k).flatMap (nx E out lab) := ⟨_, rfl⟩
    rw [← hac] at hacc hsep
    rw [← hac]
    have HAC := Lib.hid hac
    have HACC := Lib.hid hacc
    have HS := Lib.hid hS
    have HOR := Lib.hid hor
    have HOL := Lib.hid hOl
    have HK := Lib.hid hK
    have HSEP := Lib.hid hsep
    have HAL : Hid (acc.length ≤ k) := Lib.hid (by rw [hac]; exact Nat.le_trans (nx_len _ _ _ _) (by rw [List.length_take]; omega))
    clear hac hacc hS hor hOl hK hsep
    have hkb : k ≤ 1000000 := Nat.le_trans hk HEL.out
    by_cases hlt : k < L.length
    · obtain ⟨x, hx⟩ : ∃ x, L[k]? = some x := ⟨_, List.getElem?_eq_getElem hlt⟩
      obtain ⟨lb, lc, hsl, hlb, _, hat⟩ := HOL.out.at' (fun e => by rw [e] at hlt; simp at hlt)
      injection hsl with e1 e2 e3
      subst e1 e3
      have q0 := hat.cells k x hx 0 _ rfl
      have e4 : 0 + k * kI.size + 0 = k := by show 0 + k * 1 + 0 = k; omega
      rw [e4] at q0
      have hlbl := hat.lt
      have hxi : x ∈ ids ∧ L = ids := by
        have h1 := HL.out
        split at h1
        · exact ⟨by rw [← h1]; exact List.mem_of_getElem? hx, h1⟩
        · rw [h1] at hlt; simp at hlt
      have HX := Lib.hid hx
      have HXI := Lib.hid hxi
      clear hx hat hxi hlb
      go_wp2_with fail
      obtain ⟨ed, hed1, _, hed3, hed4, hed5⟩ := ids_found HG.out.ok.se (by rw [← HI.out]; exact HXI.out.1 : x ∈ idsE E (sideP out n))
      refine (wedge_any w0 wr wb gb vb eb V E _ x HG.out HS.out (by rw [← hed3]; exact checkR_ids (HG.out.ok.e ed hed1) (by simp))).mono ?_
      rintro e w3 ⟨a3, c3, rfl, s3, k3⟩
      rw [payS_add] at s3 ⊢
      rw [hed4, hed5]
      have HED := Lib.hid hed5
      have S3 := Lib.hid s3
      have K3 := Lib.hid k3
      clear s3 k3 hed1 hed3 hed4 hed5 q0
      obtain ⟨ok, hok⟩ : ∃ ok, ok = payS st1 (k + 1) := ⟨_, rfl⟩
      rw [← hok] at S3 ⊢
      have HOK := Lib.hid hok
      clear hok
      cases ok with
      | none =>
        simp only [Option.isSome_none, Bool.false_eq_true, if_false, Bool.false_and]
        obtain ⟨_, _, c2, _, _⟩ := S3.out.cells
        have hwl := S3.out.lt
        have HFN : Hid (payS st (1 + (idsE E (sideP out n)).length) = none) := Lib.hid (by
          rw [← HI.out, HFIN.out, show ids.length = (k + 1) + (ids.length - (k + 1)) by rw [← HXI.out.2]; omega, ← payS_add, ← HOK.out]
          rfl)
        have HKF : Hid (Chg w w3 (fun i => i = wb)) := Lib.hid (HK.out.trans K3.out (fun _ _ h => h))
        as_aux_lemma =>
          unfold Eg.val Eg.zero
          go_wp2_with fail
          go_ret
          refine ⟨_, rfl, ?_, ?_, ?_⟩
          · rw [HFN.out]; exact RowK.Own.nil kI _ _
          · rw [HFN.out]; exact S3.out.below (below_box _ _)
          · exact HKF.out.trans (Chg.of_below (below_box _ _) (fun _ => False)) (fun _ _ e => e.elim)
      | some r =>
        simp only [Option.isSome_some, if_true, Bool.true_and]
        obtain ⟨_, _, c2, _, _⟩ := S3.out.cells
        have hwl := S3.out.lt
        have HSB : Hid (∀ j, (Value.slice va acc.length vc).ownBlock = some j → ¬ j = wb) := Lib.hid (fun j hj e => by have := (HACC.out.lt j hj).1; have := HWB.out; omega)
        have HSC : Hid (∀ j, (Value.slice (some ⟨lb, 0, none⟩) L.length cap).ownBlock = some j → ¬ j = wb) := Lib.hid (fun j hj e => by have := (HOL.out.lt j hj).1; have := HWB.out; omega)
        have HU : Hid (kI.Own (w3.alloc (.cells #[.int .i64 ed.id, .string ed.label, .int .i64 ed.fr, .int .i64 ed.to, .slice a3 ed.ps.length c3] 86)) w.heap.size (.slice va acc.length vc) acc ∧ kI.Own (w3.alloc (.cells #[.int .i64 ed.id, .string ed.label, .int .i64 ed.fr, .int .i64 ed.to, .slice a3 ed.ps.length c3] 86)) w.heap.size (.slice (some ⟨lb, 0, none⟩) L.length cap) L ∧ WkS w0 (w3.alloc (.cells #[.int .i64 ed.id, .string ed.label, .int .i64 ed.fr, .int .i64 ed.to, .slice a3 ed.ps.length c3] 86)) wb gb (some r) ∧ Chg w (w3.alloc (.cells #[.int .i64 ed.id, .string ed.label, .int .i64 ed.fr, .int .i64 ed.to, .slice a3 ed.ps.length c3] 86)) (fun i => i = wb)) :=
          Lib.hid ⟨(HACC.out.chg K3.out HSB.out).alloc _, (HOL.out.chg K3.out HSC.out).alloc _, S3.out.below (below_box _ _), (HK.out.trans K3.out (fun _ _ h => h)).alloc _⟩
        have HZW : Hid (w.heap.size ≤ w3.heap.size) := Lib.hid (HK.out.trans K3.out (fun _ _ h => h)).size
        unfold Eg.val
        by_cases hl0 : lab.toList = []
        · have t1 : lab.toList.isEmpty = true := by simp [hl0]
          have HNX : Hid (nx E out lab x = [if out then ed.to else ed.fr]) := Lib.hid (by unfold nx; rw [if_pos (.inl hl0), HED.out])
          have HL0 := Lib.hid hl0
          cases out
          · as_aux_lemma =>
              have HXV := Lib.hid (int_new (w3.alloc (.cells #[.int .i64 ed.id, .string ed.label, .int .i64 ed.fr, .int .i64 ed.to, .slice a3 ed.ps.length c3] 86)) (w3.heap.size + 1) (by simp) ed.fr)
              have HOA := Lib.hid (HU.out.1.alloc (.cells #[.int .i64 ed.fr] 3))
              go_wp2_with (first | (at_builtin; refine RowK.wpList_app (k := kI) rfl (.tmp 51) (.tmp 54) rfl rfl HOA.out (some ⟨w3.heap.size + 1, 0, none⟩) 1 [ed.fr] 1 rfl rfl HXV.out (fun e => by cases e) (by have := HAL.out; have := HEL.out; simp; omega) (by have := HZW.out; simp; omega) ?_; intro v8 w8 hA; have HA8 := Lib.hid hA; clear hA) | fail)
              obtain ⟨oA, gA, kA⟩ := HA8.out
              refine ⟨NxRel.app (f := ed.fr) HX.out HAC.out HNX.out HOK.out HU.out.2.1 HU.out.2.2.1 HU.out.2.2.2 HWB.out HOA.out (by have := HZW.out; simp; omega) oA gA HSEP.out kA, by simp [intOf]; omega⟩
          · as_aux_lemma =>
              have HXV := Lib.hid (int_new (w3.alloc (.cells #[.int .i64 ed.id, .string ed.label, .int .i64 ed.fr, .int .i64 ed.to, .slice a3 ed.ps.length c3] 86)) (w3.heap.size + 1) (by simp) ed.to)
              have HOA := Lib.hid (HU.out.1.alloc (.cells #[.int .i64 ed.to] 3))
              go_wp2_with (first | (at_builtin; refine RowK.wpList_app (k := kI) rfl (.tmp 46) (.tmp 49) rfl rfl HOA.out (some ⟨w3.heap.size + 1, 0, none⟩) 1 [ed.to] 1 rfl rfl HXV.out (fun e => by cases e) (by have := HAL.out; have := HEL.out; simp; omega) (by have := HZW.out; simp; omega) ?_; intro v8 w8 hA; have HA8 := Lib.hid hA; clear hA) | fail)
              obtain ⟨oA, gA, kA⟩ := HA8.out
              refine ⟨NxRel.app (f := ed.to) HX.out HAC.out HNX.out HOK.out HU.out.2.1 HU.out.2.2.1 HU.out.2.2.2 HWB.out HOA.out (by have := HZW.out; simp; omega) oA gA HSEP.out kA, by simp [intOf]; omega⟩
        · have t1 : lab.toList.isEmpty = false := by simpa using hl0
          by_cases hle : ed.label = lab
          · have t2 : (ed.label.toList == lab.toList) = true := by simp [hle]
            have HNX : Hid (nx E out lab x = [if out then ed.to else ed.fr]) := Lib.hid (by unfold nx; rw [if_pos (.inr (by rw [HED.out]; exact hle)), HED.out])
            have HL0 := Lib.hid hl0
            have HLE2 := Lib.hid hle
            clear hle
            cases out
            · as_aux_lemma =>
                have HXV := Lib.hid (int_new (w3.alloc (.cells #[.int .i64 ed.id, .string ed.label, .int .i64 ed.fr, .int .i64 ed.to, .slice a3 ed.ps.length c3] 86)) (w3.heap.size + 1) (by simp) ed.fr)
                have HOA := Lib.hid (HU.out.1.alloc (.cells #[.int .i64 ed.fr] 3))
                go_wp2_with (first | (at_builtin; refine RowK.wpList_app (k := kI) rfl (.tmp 51) (.tmp 54) rfl rfl HOA.out (some ⟨w3.heap.size + 1, 0, none⟩) 1 [ed.fr] 1 rfl rfl HXV.out (fun e => by cases e) (by have := HAL.out; have := HEL.out; simp; omega) (by have := HZW.out; simp; omega) ?_; intro v8 w8 hA; have HA8 := Lib.hid hA; clear hA) | fail)
                obtain ⟨oA, gA, kA⟩ := HA8.out
                refine ⟨NxRel.app (f := ed.fr) HX.out HAC.out HNX.out HOK.out HU.out.2.1 HU.out.2.2.1 HU.out.2.2.2 HWB.out HOA.out (by have := HZW.out; simp; omega) oA gA HSEP.out kA, by simp [intOf]; omega⟩
            · as_aux_lemma =>
                have HXV := Lib.hid (int_new (w3.alloc (.cells #[.int .i64 ed.id, .string ed.label, .int .i64 ed.fr, .int .i64 ed.to, .slice a3 ed.ps.length c3] 86)) (w3.heap.size + 1) (by simp) ed.to)
                have HOA := Lib.hid (HU.out.1.alloc (.cells #[.int .i64 ed.to] 3))
                go_wp2_with (first | (at_builtin; refine RowK.wpList_app (k := kI) rfl (.tmp 46) (.tmp 49) rfl rfl HOA.out (some ⟨w3.heap.size + 1, 0, none⟩) 1 [ed.to] 1 rfl rfl HXV.out (fun e => by cases e) (by have := HAL.out; have := HEL.out; simp; omega) (by have := HZW.out; simp; omega) ?_; intro v8 w8 hA; have HA8 := Lib.hid hA; clear hA) | fail)
                obtain ⟨oA, gA, kA⟩ := HA8.out
                refine ⟨NxRel.app (f := ed.to) HX.out HAC.out HNX.out HOK.out HU.out.2.1 HU.out.2.2.1 HU.out.2.2.2 HWB.out HOA.out (by have := HZW.out; simp; omega) oA gA HSEP.out kA, by simp [intOf]; omega⟩
          · have t2 : (ed.label.toList == lab.toList) = false := ba_ne' hle
            have HNX : Hid (nx E out lab x = []) := Lib.hid (by unfold nx; rw [if_neg (fun h => h.elim hl0 (fun h => hle (by rw [← h, HED.out])))])
            have HLE2 := Lib.hid hle
            clear hle
            as_aux_lemma =>
              go_wp2_with fail
              refine ⟨⟨k + 1, by omega, by go_num, ?_, ?_, ?_, HU.out.2.1, HU.out.2.2.2, HSEP.out⟩, by simp [intOf]; omega⟩
              · rw [take_flat _ HX.out, ← HAC.out, HNX.out, List.append_nil]; exact HU.out.1
              · rw [← HOK.out]; exact HU.out.2.2.1
              · exact .inr (by rw [← HOK.out]; rfl)
    · obtain rfl : k = L.length := by omega
      as_aux_lemma =>
        rw [List.take_length] at HAC
        go_wp2_with fail
        refine (sortI_any HACC.out (by have := HAL.out; have := HEL.out; omega)).mono ?_
        rintro e w2 ⟨rfl, o2, b2⟩
        have O2 := Lib.hid o2
        have S2 := Lib.hid (HS.out.belowN HWB.out b2)
        have HK2 : Hid (Chg w w2 (fun i => i = wb)) := Lib.hid (HK.out.andBelow b2)
        have HSL : Hid ((sortI acc).length = acc.length) := Lib.hid (sortI_perm acc).length_eq
        clear o2 b2
        go_wp2_with fail
        refine (compactI_any O2.out (by rw [HSL.out]; have := HAL.out; have := HEL.out; omega)).mono ?_
        rintro e w5 ⟨v5, rfl, o5, b5⟩
        obtain ⟨a5, c5, rfl⟩ := o5.shape
        have O5 := Lib.hid o5
        have S5 := Lib.hid (S2.out.belowN HWB.out b5)
        have HK5 : Hid (Chg w w5 (fun i => i = wb)) := Lib.hid (HK2.out.andBelow b5)
        clear o5 b5
        go_wp2_with fail
        go_ret
        have hfin : payS st (1 + (idsE E (sideP out n)).length) = payS st1 ids.length := by rw [← HI.out, HFIN.out]
        have hset : Lib.compact (sortI acc) = if (payS st1 ids.length).isSome then nextL E out lab n else [] := by
          have h1 := HL.out
          split at h1
          · rename_i h2
            have h3 : (payS st1 ids.length).isSome = true := by
              rcases HOR.out with h | h
              · rw [← h1, h, payS_zero]; exact h2
              · rw [← h1]; exact h
            rw [if_pos h3]
            unfold nextL setI
            rw [HAC.out, ← HI.out, h1]
          · rename_i h2
            have h3 : st1 = none := by simpa using h2
            rw [HAC.out, h1, h3]
            show Lib.compact (sortI []) = []
            rw [show sortI [] = [] from List.mergeSort_nil]
            rfl
        have hst : payS st1 ids.length = payS st1 L.length := by
          have h1 := HL.out
          split at h1
          · rw [h1]
          · rename_i h2
            have h3 : st1 = none := by simpa using h2
            rw [h3]; rfl
        refine ⟨_, rfl, ?_, ?_, HK5.out⟩
        · rw [hfin, ← hset]; exact O5.out
        · rw [hfin, hst]; exact S5.out
end Go.Proofs.Ytaanohgkdpohhaa
