/- Layer 13's statements: the document's example. Conditions: each contract's own premises. -/
import Derived.Test.YtcghgnncmnoalaaSx17
namespace Go.Proofs.Ytcghgnncmnoalaa
open Go.RowKit Go.Maps

/-- sets of the call's own -/
structure SP (w u : World) (sb bs bw bm ns nw nm : Nat) (gs : Ky → Option Sn) (gw gm : Ky → Option Tx) : Prop where
  p : StX u sb bs bw bm ns nw nm gs gw gm
  b : Below w.heap.size w u
  g0 : w.heap.size ≤ sb
  g1 : w.heap.size ≤ bs
  g2 : w.heap.size ≤ bw
  g3 : w.heap.size ≤ bm
theorem SP.step {w u u' : World} {sb bs bw bm ns nw nm bw' bm' ns' nw' nm' : Nat} {gs gs' : Ky → Option Sn} {gw gm gw' gm' : Ky → Option Tx} (h : SP w u sb bs bw bm ns nw nm gs gw gm) (h2 : StX u' sb bs bw' bm' ns' nw' nm' gs' gw' gm') {S : Nat → Prop} (hc : Chg u u' S) (hS : ∀ j, S j → w.heap.size ≤ j) (k1 : w.heap.size ≤ bw') (k2 : w.heap.size ≤ bm') : SP w u' sb bs bw' bm' ns' nw' nm' gs' gw' gm' :=
  ⟨h2, h.b.trans (hc.below h.b.size hS), h.g0, h.g1, k1, k2⟩
theorem SP.below {w u u' : World} {sb bs bw bm ns nw nm : Nat} {gs : Ky → Option Sn} {gw gm : Ky → Option Tx} (h : SP w u sb bs bw bm ns nw nm gs gw gm) (hb : Below u.heap.size u u') : SP w u' sb bs bw bm ns nw nm gs gw gm :=
  ⟨h.p.below hb, below_then h.b hb, h.g0, h.g1, h.g2, h.g3⟩
theorem ks_one {β : Type} {g : Ky → Option β} {n : Nat} {ks : List Ky} {k : Ky} (hk : k.Ok) (hg : ∀ j, (g j).isSome = true ↔ j = k) (h : KsG g n ks) : ks = [k] :=
  sorted_unique _ _ h.1 (List.pairwise_singleton _ _) (fun j => by
    rw [List.mem_singleton]
    constructor
    · intro hj
      exact (hg j).1 ((h.2.2.2 j (h.2.1 j hj)).1 hj)
    · rintro rfl
      exact (h.2.2.2 _ hk).2 ((hg _).2 rfl))
theorem ks_none {β : Type} {g : Ky → Option β} {n : Nat} {ks : List Ky} (hg : ∀ j, (g j).isSome = false) (h : KsG g n ks) : ks = [] :=
  sorted_unique _ _ h.1 List.Pairwise.nil (fun j => by
    constructor
    · intro hj
      have := (h.2.2.2 j (h.2.1 j hj)).1 hj
      rw [hg j] at this
      cases this
    · intro hj; simp at hj)
theorem updK_one {β : Type} {g : Ky → Option β} {k : Ky} {x : β} (hg : ∀ j, (g j).isSome = true → j = k) (j : Ky) : (updK g k (some x) j).isSome = true ↔ j = k := by
  unfold updK
  by_cases e : j = k
  · rw [if_pos e]; exact ⟨fun _ => e, fun _ => rfl⟩
  · rw [if_neg e]; exact ⟨hg j, fun h => absurd h e⟩
theorem updK_at {β : Type} {g : Ky → Option β} {k : Ky} {x : Option β} : updK g k x k = x := by unfold updK; rw [if_pos rfl]
theorem key13_ok (n : Int) (h : I64 n) : (key13 n).Ok := ⟨⟨by show (-9223372036854775808 : Int) ≤ 1; decide, by show (1 : Int) ≤ 9223372036854775807; decide⟩, h, ⟨by show (-9223372036854775808 : Int) ≤ 0; decide, by show (0 : Int) ≤ 9223372036854775807; decide⟩, Nat.zero_le _⟩
theorem wrOut_one (gs : Ky → Option Sn) (gw : Ky → Option Tx) (k : Ky) (s : Sn) (t : Tx) (hs : gs k = some s) (ht : gw k = some t) : wrOut gs gw [k] = if txB ⟨s.val, s.has⟩ t = true then [] else [⟨k, t.val, t.has⟩] := by
  show wrAt gs gw k ++ [] = _
  rw [List.append_nil]
  unfold wrAt
  rw [hs, ht]
  rfl
set_option maxRecDepth 100000 in
set_option maxHeartbeats 4000000 in
theorem awake13_any (w : World) : Calls Try.prog 30 #[] w (BoolPost w true) := by
  have hk : (key13 1).Ok := key13_ok 1 ⟨by decide, by decide⟩
  have HK := Lib.hid hk
  obtain ⟨bx, hx⟩ : ∃ b : ByteArray, b = ⟨#[120]⟩ := ⟨_, rfl⟩
  obtain ⟨by', hy⟩ : ∃ b : ByteArray, b = ⟨#[121]⟩ := ⟨_, rfl⟩
  obtain ⟨bz, hz⟩ : ∃ b : ByteArray, b = ⟨#[122]⟩ := ⟨_, rfl⟩
  have HXY : Hid (txB ⟨bx, true⟩ ⟨by', true⟩ = false ∧ txB ⟨bx, true⟩ ⟨bx, true⟩ = true) := Lib.hid ⟨Bool.eq_false_iff.2 (fun h => by have h2 := (txB_iff _ _).1 h; rw [hx, hy] at h2; simp at h2), (txB_iff _ _).2 rfl⟩
  have HZ := Lib.hid (And.intro hx (And.intro hy hz))
  clear hk hx hy hz
  go_enter Try.func30, Try.ntmps30
  go_wp2_with fail
  refine (sxNew_any _).mono ?_
  rintro e w1 ⟨sb, bs, bw, bm, rfl, g0, g1, g2, g3, s1, b1⟩
  have H1 : Hid (SP w w1 sb bs bw bm 0 0 0 (fun _ => none) (fun _ => none) (fun _ => none)) := Lib.hid ⟨s1, b1, g0, g1, g2, g3⟩
  clear s1 b1 g0 g1 g2 g3
  go_wp2_with fail
  refine (key13_any _ _).mono ?_
  rintro e w2 ⟨rfl, b2⟩
  have H2 := Lib.hid (H1.out.below b2)
  clear b2
  go_wp2_with fail
  refine (sxSee_any H2.out.p (by omega) HK.out ⟨3, ⟨#[120]⟩, true⟩).mono ?_
  rintro e w3 h3
  unfold SeePost at h3
  rw [if_neg (by rintro ⟨_, h⟩; cases h), if_neg (by decide)] at h3
  obtain ⟨rfl, ns', hn, s3, c3⟩ := h3
  have H3 := Lib.hid (H2.out.step s3 c3 (fun j hj => by rw [hj]; exact H2.out.g1) H2.out.g2 H2.out.g3)
  have HN := Lib.hid hn
  clear s3 c3 hn
  obtain ⟨gs, hgs⟩ : ∃ g : Ky → Option Sn, g = updK (fun _ => none) (key13 1) (some ⟨3, ⟨#[120]⟩, true⟩) := ⟨_, rfl⟩
  rw [← hgs] at H3
  have HGS : Hid (gs (key13 1) = some ⟨3, bx, true⟩) := Lib.hid (by rw [hgs, updK_at, HZ.out.1])
  clear hgs
  go_wp2_with fail
  refine (key13_any _ _).mono ?_
  rintro e w4 ⟨rfl, b4⟩
  have H4 := Lib.hid (H3.out.below b4)
  clear b4
  go_wp2_with fail
  refine (sxPut_any H4.out.p (by omega) HK.out ⟨#[121]⟩).mono ?_
  rintro e w5 h5
  unfold PutPost at h5
  rw [if_pos (by rw [HGS.out]; rfl)] at h5
  obtain ⟨rfl, nw5, n5, s5, c5⟩ := h5
  have H5 := Lib.hid (H4.out.step s5 c5 (fun j hj => by rw [hj]; exact H4.out.g2) H4.out.g2 H4.out.g3)
  have HN5 := Lib.hid n5
  clear s5 c5 n5
  obtain ⟨g5, hg5⟩ : ∃ g : Ky → Option Tx, g = updK (fun _ => none) (key13 1) (some ⟨⟨#[121]⟩, true⟩) := ⟨_, rfl⟩
  rw [← hg5] at H5
  have HG5 : Hid (g5 (key13 1) = some ⟨by', true⟩ ∧ ∀ j, (g5 j).isSome = true ↔ j = key13 1) := Lib.hid ⟨by rw [hg5, updK_at, HZ.out.2.1], fun j => by rw [hg5]; exact updK_one (fun j hj => by cases hj) j⟩
  clear hg5
  go_wp2_with fail
  refine (key13_any _ _).mono ?_
  rintro e w6 ⟨rfl, b6⟩
  have H6 := Lib.hid (H5.out.below b6)
  clear b6
  go_wp2_with fail
  refine (sxGet_any H6.out.p HK.out).mono ?_
  rintro e w7 ⟨rfl, b7⟩
  have H7 := Lib.hid (H6.out.below b7)
  have hget : getX gs g5 (key13 1) = (by', true, true) := by unfold getX; rw [HG5.out.1]
  rw [hget]
  clear b7 hget
  go_wp2_with fail
  refine (sxWrites_any H7.out.p (by have := HN5.out; omega)).mono ?_
  rintro e w8 ⟨v8, ks8, rfl, k8, o8, b8⟩
  have hk8 := ks_one HK.out HG5.out.2 k8
  subst hk8
  rw [wrOut_one gs g5 _ _ _ HGS.out HG5.out.1, HXY.out.1, if_neg (by decide)] at o8
  obtain ⟨a8, p8, hv8⟩ := o8.shape
  subst hv8
  have H8 := Lib.hid (H7.out.below b8)
  clear k8 o8 b8
  go_wp2_with fail
  refine (key13_any _ _).mono ?_
  rintro e w9 ⟨rfl, b9⟩
  have H9 := Lib.hid (H8.out.below b9)
  clear b9
  go_wp2_with fail
  refine (sxPut_any H9.out.p (by have := HN5.out; omega) HK.out ⟨#[120]⟩).mono ?_
  rintro e w10 h10
  unfold PutPost at h10
  rw [if_pos (by rw [HGS.out]; rfl)] at h10
  obtain ⟨rfl, nw10, n10, s10, c10⟩ := h10
  have H10 := Lib.hid (H9.out.step s10 c10 (fun j hj => by rw [hj]; exact H9.out.g2) H9.out.g2 H9.out.g3)
  have HN10 : Hid (nw10 ≤ 10) := Lib.hid (by have := HN5.out; omega)
  clear s10 c10 n10
  obtain ⟨g10, hg10⟩ : ∃ g : Ky → Option Tx, g = updK g5 (key13 1) (some ⟨⟨#[120]⟩, true⟩) := ⟨_, rfl⟩
  rw [← hg10] at H10
  have HG10 : Hid (g10 (key13 1) = some ⟨bx, true⟩ ∧ ∀ j, (g10 j).isSome = true ↔ j = key13 1) := Lib.hid ⟨by rw [hg10, updK_at, HZ.out.1], fun j => by rw [hg10]; exact updK_one (fun j hj => (HG5.out.2 j).1 hj) j⟩
  clear hg10
  go_wp2_with fail
  refine (sxWrites_any H10.out.p (by have := HN10.out; omega)).mono ?_
  rintro e w11 ⟨v11, ks11, rfl, k11, o11, b11⟩
  have hk11 := ks_one HK.out HG10.out.2 k11
  subst hk11
  rw [wrOut_one gs g10 _ _ _ HGS.out HG10.out.1, HXY.out.2, if_pos rfl] at o11
  obtain ⟨a11, p11, hv11⟩ := o11.shape
  subst hv11
  have H11 := Lib.hid (H10.out.below b11)
  clear k11 o11 b11
  go_wp2_with fail
  refine (key13_any _ _).mono ?_
  rintro e w12 ⟨rfl, b12⟩
  have H12 := Lib.hid (H11.out.below b12)
  clear b12
  go_wp2_with fail
  refine (sxPut_any H12.out.p (by have := HN10.out; omega) HK.out ⟨#[122]⟩).mono ?_
  rintro e w13 h13
  unfold PutPost at h13
  rw [if_pos (by rw [HGS.out]; rfl)] at h13
  obtain ⟨rfl, nw13, n13, s13, c13⟩ := h13
  have H13 := Lib.hid (H12.out.step s13 c13 (fun j hj => by rw [hj]; exact H12.out.g2) H12.out.g2 H12.out.g3)
  clear s13 c13 n13
  go_wp2_with fail
  refine (sxBack_any H13.out.p).mono ?_
  rintro e w14 ⟨rfl, s14, c14⟩
  have H14 := Lib.hid (H13.out.step s14 c14 (fun j hj => by rw [hj]; exact H13.out.g0) H13.out.b.size H13.out.g3)
  clear s14 c14
  have hyy : (by'.toList == ([121] : List UInt8)) = true := by rw [HZ.out.2.1, ByteArray.toList_eq]; rfl
  go_wp2_with fail
  clear hyy
  refine (sxWrites_any H14.out.p (by omega)).mono ?_
  rintro e w15 ⟨v15, ks15, rfl, k15, o15, b15⟩
  have hk15 := ks_none (fun _ => rfl) k15
  subst hk15
  obtain ⟨a15, p15, hv15⟩ := o15.shape
  subst hv15
  have H15 := Lib.hid (H14.out.below b15)
  clear k15 o15 b15
  go_wp2_with fail
  go_ret
  exact ⟨rfl, H15.out.b⟩
end Go.Proofs.Ytcghgnncmnoalaa
