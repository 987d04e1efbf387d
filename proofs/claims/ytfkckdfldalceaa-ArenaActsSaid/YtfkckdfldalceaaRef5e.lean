/- The reference's arena: FreeAll. Conditions: each contract's own premises. -/
import Derived.Test.YtfkckdfldalceaaRef5d
import Derived.Deep.RegionLaw
import Derived.BigRegion
namespace Go.Proofs.Ytfkckdfldalceaa
open Go.RowKit Go.Maps

/-- FreeAll's check -/
def rchk (T hs : List (Int × Int)) : Bool := hs.all T.contains && decide hs.Nodup
/-- what FreeAll does for one handle -/
def rdrop (s : List (Int × Int) × List (Int × Int)) (p : Int × Int) : List (Int × Int) × List (Int × Int) := ((p.1, p.2 + 1) :: s.1, s.2.filter (· != p))
def rdrops (F T hs : List (Int × Int)) : List (Int × Int) × List (Int × Int) := hs.foldl rdrop (F, T)

def RFreePost (w0 w : World) (rb : Nat) (fv tv : Value) (F T hs : List (Int × Int)) (e : Ending) (w' : World) : Prop :=
  (rchk T hs = true → e = .returned (.int .i64 0) ∧ RfPost w0 w rb fv tv (rdrops F T hs).1 (rdrops F T hs).2 w') ∧ (rchk T hs = false → e = .returned (.int .i64 51) ∧ Below w.heap.size w w')

def RFRel1 (w : World) (T hs : List (Int × Int)) (i : Value) (wr : World) : Prop :=
  ∃ j : Nat, j ≤ hs.length ∧ i = .int .i64 j ∧ Below w.heap.size w wr ∧ (hs.take j).all T.contains = true ∧ (hs.take j).Nodup
def RFRel2 (w : World) (hs : List (Int × Int)) (j : Nat) (p : Int × Int) (i : Value) (wr : World) : Prop :=
  ∃ k : Nat, k ≤ j ∧ i = .int .i64 k ∧ Below w.heap.size w wr ∧ (hs.take k).contains p = false

theorem rchk_out {T hs : List (Int × Int)} {j : Nat} {p : Int × Int} (he : hs[j]? = some p) (h : T.contains p = false) : rchk T hs = false := by
  unfold rchk
  rw [Bool.and_eq_false_iff]
  left
  rw [List.all_eq_false]
  exact ⟨p, List.mem_of_getElem? he, by simpa using h⟩
theorem rchk_twice {T hs : List (Int × Int)} {j k : Nat} {p : Int × Int} (he : hs[j]? = some p) (hk : hs[k]? = some p) (h : k < j) : rchk T hs = false := by
  unfold rchk
  rw [Bool.and_eq_false_iff]
  right
  rw [decide_eq_false_iff_not]
  intro hn
  obtain ⟨a1, b1⟩ := List.getElem?_eq_some_iff.1 he
  obtain ⟨a2, b2⟩ := List.getElem?_eq_some_iff.1 hk
  exact List.pairwise_iff_getElem.1 hn k j a2 a1 h (by rw [b1, b2])
theorem rchk_mem {T hs : List (Int × Int)} {j : Nat} {p : Int × Int} (h : rchk T hs = true) (he : hs[j]? = some p) : p ∈ T := by
  unfold rchk at h
  rw [Bool.and_eq_true, List.all_eq_true] at h
  simpa using h.1 p (List.mem_of_getElem? he)
theorem RFRel1.step {T hs : List (Int × Int)} {j : Nat} {p : Int × Int} (he : hs[j]? = some p) (h1 : (hs.take j).all T.contains = true) (h2 : (hs.take j).Nodup) (h3 : T.contains p = true) (h4 : (hs.take j).contains p = false) : (hs.take (j + 1)).all T.contains = true ∧ (hs.take (j + 1)).Nodup := by
  obtain ⟨a, b⟩ := List.getElem?_eq_some_iff.1 he
  rw [List.take_succ_eq_append_getElem a, b]
  refine ⟨by rw [List.all_append, h1]; simp only [List.all_cons, h3, List.all_nil]; rfl, ?_⟩
  rw [List.nodup_append]
  refine ⟨h2, by simp, fun x hx y hy => ?_⟩
  simp at hy
  subst hy
  rintro rfl
  simp at h4
  exact h4 hx

def RFRel3 (w0 w : World) (rb : Nat) (fv tv : Value) (F T hs : List (Int × Int)) (i : Value) (wr : World) : Prop :=
  ∃ j : Nat, j ≤ hs.length ∧ i = .int .i64 j ∧ RfPost w0 w rb fv tv (rdrops F T (hs.take j)).1 (rdrops F T (hs.take j)).2 wr

theorem rdrops_snoc (F T l : List (Int × Int)) (p : Int × Int) : rdrops F T (l ++ [p]) = rdrop (rdrops F T l) p := by simp [rdrops]
theorem rdrops_len : ∀ (l F T : List (Int × Int)), (rdrops F T l).1.length = F.length + l.length ∧ (rdrops F T l).2.length ≤ T.length
  | [], F, T => by simp [rdrops]
  | p :: l, F, T => by
    have e : rdrops F T (p :: l) = rdrops ((p.1, p.2 + 1) :: F) (T.filter (· != p)) l := rfl
    have h := rdrops_len l ((p.1, p.2 + 1) :: F) (T.filter (· != p))
    have := List.length_filter_le (· != p) T
    rw [e]
    simp at h ⊢
    omega

/-- the inner loop: what is left of the taken ones -/
def RFRel4 (w0 w : World) (T : List (Int × Int)) (p : Int × Int) (lv i : Value) (wr : World) : Prop :=
  ∃ k : Nat, k ≤ T.length ∧ i = .int .i64 k ∧ Below w.heap.size w wr ∧ RowH w0 wr lv ((T.take k).filter (· != p)) ∧ ∀ b, lv.ownBlock = some b → w.heap.size ≤ b
theorem filter_snoc {T : List (Int × Int)} {k : Nat} {p q : Int × Int} (he : T[k]? = some q) : (T.take (k + 1)).filter (· != p) = (T.take k).filter (· != p) ++ (if q = p then [] else [q]) := by
  obtain ⟨a, b⟩ := List.getElem?_eq_some_iff.1 he
  rw [List.take_succ_eq_append_getElem a, b, List.filter_append]
  by_cases e : q = p
  · simp [e]
  · simp [e]
theorem RfPost.start {w0 w wr : World} {rb : Nat} {fv tv : Value} {F T : List (Int × Int)} (h : RfC w0 w rb fv tv F T) (hb : Below w.heap.size w wr) : RfPost w0 w rb fv tv F T wr :=
  ⟨fv, tv, h.below hb, Chg.of_below hb _, fun _ hk => .inl hk⟩
theorem own_one (w : World) (base : Nat) (x g : Int) (hb : base ≤ w.heap.size) : (w.alloc (.cells #[.int .i64 x, .int .i64 g] 30)).ownsRow base 30 2 (.slice (some ⟨w.heap.size, 0, none⟩) 1 1) [(x, g)].length (hcells [(x, g)]) :=
  ⟨by simp [hcells], .inr ⟨w.heap.size, 1, _, rfl, hb, heap_new w _, Nat.le_refl _, by unfold maxLen; omega, rfl, rfl⟩⟩

theorem RFRel4.step {w0 w wr w4 : World} {T : List (Int × Int)} {p q : Int × Int} {lv v' : Value} {k n : Nat} {X : Obj} {nq : Nat} (hk : k < T.length) (hb : Below w.heap.size w wr) (hr : RowH w0 wr lv ((T.take k).filter (· != p))) (hln : ∀ b, lv.ownBlock = some b → w.heap.size ≤ b)
    (hfs : (T.take (k + 1)).filter (· != p) = (T.take k).filter (· != p) ++ (if q = p then [] else [q])) (hqp : q ≠ p) (hqi : I64 q.1 ∧ I64 q.2) (hn : n = ((T.take k).filter (· != p) ++ [q]).length)
    (hrow : w4.ownsRow w0.heap.size 30 2 v' n (hcells ((T.take k).filter (· != p) ++ [q]))) (hg : ((wr.alloc X).drewN nq).grownBy w4 lv.ownBlock) (hat : v'.ownBlock = lv.ownBlock ∨ v'.ownBlock = some ((wr.alloc X).drewN nq).heap.size) :
    RFRel4 w0 w T p v' (.int .i64 ((k : Int) + 1)) w4 := by
  rw [if_neg hqp] at hfs
  have z : ((wr.alloc X).drewN nq).heap.size = wr.heap.size + 1 := size_alloc _ _
  have hb1 : Below w.heap.size w ((wr.alloc X).drewN nq) := below_drewN (hb.alloc hb.size X) nq
  subst hn
  refine ⟨k + 1, hk, by simp, hb1.grown hg hb1.size (fun b hb' => hln b hb'), ⟨by rw [hfs]; exact hrow, by
    rw [hfs]
    intro r hr'
    rw [List.mem_append, List.mem_singleton] at hr'
    rcases hr' with h | rfl
    · exact hr.i64 r h
    · exact hqi⟩, fun b hb' => ?_⟩
  rcases hat with e | e
  · exact hln b (e ▸ hb')
  · rw [e, z] at hb'; cases hb'
    have := hb.size; omega

theorem RFRel3.step {w0 w wq W w5 : World} {rb j n5 : Nat} {fv tv fv' tv' lv v5 : Value} {F T hs Fj Tj : List (Int × Int)} {x g : Int} {X : Obj} (hjl : j < hs.length) (he : hs[j]? = some (x, g)) (hF : Fj = (rdrops F T (hs.take j)).1) (hT : Tj = (rdrops F T (hs.take j)).2)
    (C : Chg w wq (rfFp rb fv tv)) (P : ∀ k, rfFp rb fv' tv' k → rfFp rb fv tv k ∨ w.heap.size ≤ k) (R3 : RfC w0 W rb fv' lv Fj (Tj.filter (· != (x, g)))) (C3 : Chg wq W (rfFp rb fv' tv')) (P3 : ∀ k, rfFp rb fv' lv k → rfFp rb fv' tv' k ∨ wq.heap.size ≤ k)
    (hn : n5 = ([(x, g + 1)] ++ Fj).length) (hrow : w5.ownsRow w0.heap.size 30 2 v5 n5 (hcells ([(x, g + 1)] ++ Fj))) (hgr : (W.alloc X).drew.grownBy w5 (some W.heap.size)) (hat : v5.ownBlock = some W.heap.size ∨ v5.ownBlock = some (W.alloc X).drew.heap.size) (hxi : I64 x) (hgi : I64 (g + 1)) :
    RFRel3 w0 w rb fv tv F T hs (.int .i64 ((j : Int) + 1)) (w5.setCell ⟨rb, 0, none⟩ v5) := by
  have z : (W.alloc X).drew.heap.size = W.heap.size + 1 := size_alloc _ _
  have b5 : Below W.heap.size W w5 := ((Below.refl W.heap.size W).alloc (Nat.le_refl _) X).drew.grown hgr (by rw [z]; omega) (fun k hk => by cases hk; exact Nat.le_refl _)
  subst hn
  obtain ⟨R5, C5, P5⟩ := R3.setF b5 (grown_refl w5 _) (F' := [(x, g + 1)] ++ Fj) hrow (fun p hp => by
    rcases List.mem_append.1 hp with h | h
    · simp at h; subst h; exact ⟨hxi, hgi⟩
    · exact R3.hF.i64 p h) (fun k hk => by
      rcases hat with e | e
      · rw [e] at hk; cases hk; exact .inr (Nat.le_refl _)
      · rw [e, z] at hk; cases hk; right; omega)
  obtain ⟨ha, hb⟩ := List.getElem?_eq_some_iff.1 he
  refine ⟨j + 1, hjl, by simp, v5, lv, ?_, ?_, ?_⟩
  · rw [List.take_succ_eq_append_getElem ha, hb, rdrops_snoc]
    show RfC w0 _ rb v5 lv ((x, g + 1) :: (rdrops F T (hs.take j)).1) ((rdrops F T (hs.take j)).2.filter (· != (x, g)))
    rw [← hF, ← hT]
    exact R5
  · refine (C.trans C3 (fun i hi hf => ?_)).trans C5 (fun i hi hf => ?_)
    · rcases P i hf with e | e
      · exact e
      · omega
    · rcases P3 i hf with e | e
      · rcases P i e with e' | e'
        · exact e'
        · omega
      · have := C.size; omega
  · intro k hk
    have s1 := C.size
    have s2 := C3.size
    rcases P5 k hk with e | e
    · rcases P3 k e with e' | e'
      · exact P k e'
      · right; omega
    · right; omega

set_option maxRecDepth 100000 in
set_option maxHeartbeats 800000 in
theorem rfree_any (w0 w : World) (rb : Nat) (fv tv : Value) (F T hs : List (Int × Int)) (a : Option Addr) (hc : Nat) (h : RfC w0 w rb fv tv F T) (hh : HsV w a hs) (hhl : hs.length ≤ 1048576) (hFl : F.length ≤ 1048576) (hTl : T.length ≤ 1048576)
    (hbf : ∀ b o, a = some ⟨b, o, none⟩ → 0 < hs.length → ¬ rfFp rb fv tv b) (hg : ∀ p ∈ T, 0 ≤ p.2 ∧ p.2 ≤ 1099511627776) :
    Calls Try.prog 26 #[.pointer (some ⟨rb, 0, none⟩), .slice a hs.length hc] w (RFreePost w0 w rb fv tv F T hs) := by
  go_enter Try.func26, Try.ntmps26
  go_wp2_with fail
  go_loopw [5] (fun i wr => RFRel1 w T hs i wr) (fun i _ => hs.length - (intOf i).toNat)
  case atStart => exact ⟨0, Nat.zero_le _, rfl, Below.refl _ _, rfl, List.nodup_nil⟩
  case round =>
    obtain ⟨j, hj, rfl, hbw, hall, hnd⟩ := hrel
    have ALL := Lib.hid hall
    have ND := Lib.hid hnd
    clear hall hnd
    by_cases hjl : j < hs.length
    · obtain ⟨b, off, rfl, ha⟩ := hh.at' (by omega)
      obtain ⟨x, g, he⟩ : ∃ x g, hs[j]? = some (x, g) := ⟨_, _, List.getElem?_eq_getElem hjl⟩
      obtain ⟨q0, q1⟩ := (ha.of_below hbw ha.lt).cells j x g he
      have HE := Lib.hid he
      clear he
      have R := h.below hbw
      cases hct : T.contains (x, g)
      all_goals
        have HCT := Lib.hid hct
        clear hct
      · go_wp2_with (go_at_call 29; refine (rlive_any w0 _ rb fv tv F T x g R (by omega)).mono ?_; rintro e w2 ⟨rfl, hb2⟩; rw [HCT.out])
        go_ret
        exact ⟨fun e => (by rw [rchk_out HE.out HCT.out] at e; cases e), fun _ => ⟨rfl, below_then hbw hb2⟩⟩
      · go_wp2_with (go_at_call 29; refine (rlive_any w0 _ rb fv tv F T x g R (by omega)).mono ?_; rintro e w2 ⟨rfl, hb2⟩; rw [HCT.out])
        have hb02 := below_then hbw hb2
        obtain ⟨wo, rfl⟩ : ∃ wo : World, wo = wr := ⟨_, rfl⟩
        clear hbw hb2 q0 q1 R
        go_loopw [6] (fun i wx => RFRel2 w hs j (x, g) i wx) (fun i _ => j - (intOf i).toNat)
        case atStart => exact ⟨0, Nat.zero_le _, rfl, hb02, rfl⟩
        case round =>
          obtain ⟨k, hk, rfl, hbw, hno⟩ := hrel
          have NO := Lib.hid hno
          clear hno
          by_cases hkl : k < j
          · obtain ⟨y, g', he2⟩ : ∃ y g', hs[k]? = some (y, g') := ⟨_, _, List.getElem?_eq_getElem (by omega)⟩
            obtain ⟨q0, q1⟩ := (ha.of_below hbw ha.lt).cells j x g HE.out
            obtain ⟨q2, q3⟩ := (ha.of_below hbw ha.lt).cells k y g' he2
            have HE2 := Lib.hid he2
            clear he2
            have i0 : (0 : Int) ≤ (j : Int) := by omega
            have i1 : (j : Int) < (hs.length : Int) := by omega
            have i2 : (0 : Int) ≤ (k : Int) := by omega
            have i3 : (k : Int) < (hs.length : Int) := by omega
            by_cases hxy : y = x ∧ g' = g
            · obtain ⟨rfl, rfl⟩ := hxy
              go_wp2_with fail
              go_quiet (fail)
              go_wp2_with fail
              go_ret
              exact ⟨fun e => (by rw [rchk_twice HE.out HE2.out hkl] at e; cases e), fun _ => ⟨rfl, below_drewN hbw _⟩⟩
            · have hnx : (y, g') ≠ (x, g) := fun e => hxy (by simpa using e)
              have HN := Lib.hid hnx
              clear hnx
              by_cases hx : y = x
              · subst hx
                have hgg : (g' == g) = false := by rw [beq_eq_false_iff_ne]; exact fun e => hxy ⟨rfl, e⟩
                clear hxy
                go_wp2_with fail
                go_quiet (fail)
                go_wp2_with fail
                exact ⟨⟨k + 1, by omega, by simp, below_drewN hbw _, contains_snoc HE2.out NO.out HN.out⟩, by simp [intOf]; omega⟩
              · have hx' : (y == x) = false := by rw [beq_eq_false_iff_ne]; exact hx
                clear hxy hx
                go_wp2_with fail
                go_quiet (fail)
                go_wp2_with fail
                exact ⟨⟨k + 1, by omega, by simp, below_drewN hbw _, contains_snoc HE2.out NO.out HN.out⟩, by simp [intOf]; omega⟩
          · obtain rfl : k = j := by omega
            go_wp2_with fail
            obtain ⟨s1, s2⟩ := RFRel1.step HE.out ALL.out ND.out HCT.out NO.out
            exact ⟨⟨k + 1, by omega, by simp, hbw, s1, s2⟩, by simp [intOf]; omega⟩
    · have hck : rchk T hs = true := by
        have a1 := ALL.out
        have a2 := ND.out
        rw [List.take_of_length_le (by omega)] at a1 a2
        simp [rchk, a2]
        simpa using a1
      have HCK := Lib.hid hck
      clear hck ALL ND
      go_wp2_with fail
      obtain ⟨wo, rfl⟩ : ∃ wo : World, wo = wr := ⟨_, rfl⟩
      go_loopw [7] (fun i wx => RFRel3 w0 w rb fv tv F T hs i wx) (fun i _ => hs.length - (intOf i).toNat)
      case atStart => exact ⟨0, Nat.zero_le _, rfl, RfPost.start h hbw⟩
      case round =>
        obtain ⟨j, hj, rfl, fv', tv', R, C, P⟩ := hrel
        clear hbw
        by_cases hjl : j < hs.length
        · obtain ⟨b, off, rfl, ha⟩ := hh.at' (by omega)
          have hnb := hbf b off rfl (by omega)
          obtain ⟨x, g, he⟩ : ∃ x g, hs[j]? = some (x, g) := ⟨_, _, List.getElem?_eq_getElem hjl⟩
          have haw := ha.of_chg C hnb
          obtain ⟨hxi, hgi⟩ := ha.i64 _ (List.mem_of_getElem? he)
          obtain ⟨hg0, hg1⟩ := hg _ (rchk_mem HCK.out he)
          simp only at hg0 hg1
          obtain ⟨Tj, hTj⟩ : ∃ Tj, Tj = (rdrops F T (hs.take j)).2 := ⟨_, rfl⟩
          obtain ⟨Fj, hFj⟩ : ∃ Fj, Fj = (rdrops F T (hs.take j)).1 := ⟨_, rfl⟩
          rw [← hTj, ← hFj] at R
          have hlens := rdrops_len (hs.take j) F T
          rw [← hTj, ← hFj, List.length_take] at hlens
          have hTjl : Tj.length ≤ 1048576 := by omega
          have hFjl : Fj.length ≤ 2097152 := by omega
          have HTJ := Lib.hid hTj
          have HFJ := Lib.hid hFj
          have HE := Lib.hid he
          clear hTj hFj hlens he
          obtain ⟨ta, tc, hts⟩ := R.hT.shape
          rw [hts] at R P
          clear hts
          have hrb := C.size
          go_wp2_with fail
          obtain ⟨wq, rfl⟩ : ∃ wq : World, wq = wr := ⟨_, rfl⟩
          go_loopw [8, 9] (fun lv i wx => RFRel4 w0 wq Tj (x, g) lv i wx) (fun _ i _ => Tj.length - (intOf i).toNat)
          case atStart => exact ⟨0, Nat.zero_le _, rfl, Below.refl _ _, ⟨World.ownsRow_nil _ _ _ _, by simp⟩, by simp [Value.ownBlock]⟩
          case round =>
            obtain ⟨k, hk, rfl, hbw, hlr, hln⟩ := hrel
            have R2 := R.below hbw
            have c1 := cell_of_blk R2.blk 1
            have c0 := cell_of_blk R2.blk 0
            simp at c1 c0
            have haw2 := haw.of_below hbw haw.lt
            obtain ⟨q0, q1⟩ := haw2.cells j x g HE.out
            have lr := R2.ltR
            by_cases hkl : k < Tj.length
            · obtain ⟨tg, tc', hge⟩ := R2.hT.shape_pos (by omega)
              obtain rfl : ta = some ⟨tg, 0, none⟩ := by simp only [Value.slice.injEq] at hge; exact hge.1
              obtain ⟨y, g', he2⟩ : ∃ y g', Tj[k]? = some (y, g') := ⟨_, _, List.getElem?_eq_getElem hkl⟩
              obtain ⟨q2, q3⟩ := R2.hT.at.cells k y g' he2
              obtain ⟨hyi, hgi'⟩ := R2.hT.i64 _ (List.mem_of_getElem? he2)
              simp only [Nat.zero_add] at q2 q3
              have HFS := Lib.hid (filter_snoc (p := (x, g)) he2)
              clear he2 hge
              have i0 : (0 : Int) ≤ (j : Int) := by omega
              have i1 : (j : Int) < (hs.length : Int) := by omega
              have i2 : (0 : Int) ≤ (k : Int) := by omega
              have i3 : (k : Int) < (Tj.length : Int) := by omega
              by_cases hxy : y = x ∧ g' = g
              · obtain ⟨rfl, rfl⟩ := hxy
                go_wp2_with fail
                go_quiet (fail)
                go_wp2_with fail
                exact ⟨⟨k + 1, by omega, by simp, below_drewN hbw _, by rw [HFS.out]; simpa using hlr.of_block (w' := wr.drewN nq) (fun _ _ => rfl), hln⟩, by simp [intOf]; omega⟩
              · have HQP : Hid ((y, g') ≠ (x, g)) := fun e => hxy (by simpa using e)
                have KR : Hid (∀ n, ((wr.alloc (.cells #[.int .i64 y, .int .i64 g'] 30)).drewN n).ownsRow w0.heap.size 30 2 _ ((Tj.take k).filter (· != (x, g))).length (hcells ((Tj.take k).filter (· != (x, g))))) := fun n => hlr.row.alloc _
                have KS : Hid (∀ n, HsS ((wr.alloc (.cells #[.int .i64 y, .int .i64 g'] 30)).drewN n) (.slice (some ⟨wr.heap.size, 0, none⟩) 1 1) [(y, g')]) := fun n => HsS.one (heap_new wr _) hyi hgi'
                have KB : Hid (∀ n, w0.heap.size ≤ ((wr.alloc (.cells #[.int .i64 y, .int .i64 g'] 30)).drewN n).heap.size) := fun n => by
                  show w0.heap.size ≤ (wr.alloc _).heap.size
                  rw [size_alloc]; have := R2.base; omega
                have KL : Hid (((Tj.take k).filter (· != (x, g))).length + [(y, g')].length ≤ 1099511627776) := by
                  have := List.length_filter_le (· != (x, g)) (Tj.take k)
                  have := List.length_take_le k Tj
                  show _ ≤ _
                  simp; omega
                by_cases hx : y = x
                · subst hx
                  have hgg : (g' == g) = false := by rw [beq_eq_false_iff_ne]; exact fun e => hxy ⟨rfl, e⟩
                  clear hxy
                  go_wp2_with fail
                  go_quiet (fail)
                  go_wp2_with (at_builtin; go_must (refine wpList_appH _ rfl _ _ rfl w0.heap.size _ (.slice (some ⟨wr.heap.size, 0, none⟩) 1 1) ((Tj.take k).filter (· != (y, g))) [(y, g')] rfl rfl (KR.out nq) (KS.out nq) KL.out (KB.out nq) ?_; intro v4 w4 n4 HN4 hrow4 hgrow4 hat4; obtain ⟨g4, cap4, hv4⟩ := row_shape3 hrow4 (by rw [HN4.out]; simp); rw [hv4] at hrow4 hat4 ⊢; clear hv4))
                  exact ⟨RFRel4.step hkl hbw hlr hln HFS.out HQP.out ⟨hyi, hgi'⟩ HN4.out hrow4 hgrow4 hat4, by simp [intOf]; omega⟩
                · have hx' : (y == x) = false := by rw [beq_eq_false_iff_ne]; exact hx
                  clear hxy hx
                  go_wp2_with fail
                  go_quiet (fail)
                  go_wp2_with (at_builtin; go_must (refine wpList_appH _ rfl _ _ rfl w0.heap.size _ (.slice (some ⟨wr.heap.size, 0, none⟩) 1 1) ((Tj.take k).filter (· != (x, g))) [(y, g')] rfl rfl (KR.out nq) (KS.out nq) KL.out (KB.out nq) ?_; intro v4 w4 n4 HN4 hrow4 hgrow4 hat4; obtain ⟨g4, cap4, hv4⟩ := row_shape3 hrow4 (by rw [HN4.out]; simp); rw [hv4] at hrow4 hat4 ⊢; clear hv4))
                  exact ⟨RFRel4.step hkl hbw hlr hln HFS.out HQP.out ⟨hyi, hgi'⟩ HN4.out hrow4 hgrow4 hat4, by simp [intOf]; omega⟩
            · obtain ⟨la, lc, rfl⟩ := hlr.shape
              have y0 := frozen_of_blk R2.blk 0
              have y1 := frozen_of_blk R2.blk 1
              have hlr' : RowH w0 wr (.slice la ((Tj.take k).filter (· != (x, g))).length lc) (Tj.filter (· != (x, g))) := by
                have := hlr
                rwa [List.take_of_length_le (by omega)] at this ⊢
              obtain ⟨nl, hnl⟩ : ∃ nl, nl = ((Tj.take k).filter (· != (x, g))).length := ⟨_, rfl⟩
              rw [← hnl] at hlr' hln ⊢
              clear hnl
              obtain ⟨R3, C3, P3⟩ := R.setT hbw (grown_refl wr _) (T' := Tj.filter (· != (x, g))) (by have := hlr'.row; obtain ⟨_, _, e⟩ := hlr'.shape; cases e; exact this) hlr'.i64 (fun b hb => .inr (hln b hb))
              have HR3 := Lib.hid R3
              have HC3 := Lib.hid C3
              have HP3 := Lib.hid P3
              clear R3 C3 P3
              go_upto_region 21 with (fail)
              obtain ⟨W, hW⟩ : ∃ W, W = wr.setCell ⟨rb, 1, none⟩ (.slice la nl lc) := ⟨_, rfl⟩
              have hWb : W.heap[b]? = wr.heap[b]? := by rw [hW]; exact Below.heap_setCell _ _ _ _ (fun e => hnb (.inl e))
              have R3 := HR3.out
              have C3 := HC3.out
              rw [← hW] at R3 C3 ⊢
              have HC3' := Lib.hid C3
              obtain ⟨fa, fcap, hfs⟩ := R3.hF.shape
              rw [hfs] at R3
              have e0 : W.cell? ⟨b, off + j * 2, none⟩ = some (.int .i64 x) := (World.cell?_of_block (a := ⟨b, off + j * 2, none⟩) hWb).trans q0
              have e1 : W.cell? ⟨b, off + j * 2 + 1, none⟩ = some (.int .i64 g) := (World.cell?_of_block (a := ⟨b, off + j * 2 + 1, none⟩) hWb).trans q1
              have e2 := cell_of_blk R3.blk 0
              have e3 := frozen_of_blk R3.blk 0
              simp at e2
              have lW := R3.ltR
              have lb : b < W.heap.size := by have := World.block_lt_of_cell? W _ e0; exact this
              have hg1i : I64 (g + 1) := by constructor <;> omega
              have KR : Hid ((W.alloc (.cells #[.int .i64 x, .int .i64 (g + 1)] 30)).drew.ownsRow w0.heap.size 30 2 (.slice (some ⟨W.heap.size, 0, none⟩) 1 1) [(x, g + 1)].length (hcells [(x, g + 1)])) := own_one W w0.heap.size x (g + 1) R3.base
              have KS : Hid (HsS (W.alloc (.cells #[.int .i64 x, .int .i64 (g + 1)] 30)).drew (.slice fa Fj.length fcap) Fj) := HsS.row (w0 := w0) (R3.hF.of_block (fun k hk => Below.heap_alloc W _ _ (R3.hF.lt hk).2))
              have KB : Hid (w0.heap.size ≤ (W.alloc (.cells #[.int .i64 x, .int .i64 (g + 1)] 30)).drew.heap.size) := by
                show w0.heap.size ≤ (W.alloc _).heap.size
                rw [size_alloc]; have := R3.base; omega
              have KL : Hid ([(x, g + 1)].length + Fj.length ≤ 1099511627776) := by show _ ≤ _; simp; omega
              have KF : Hid (∀ w5 : World, (W.alloc (.cells #[.int .i64 x, .int .i64 (g + 1)] 30)).drew.grownBy w5 (some W.heap.size) → w5.cell? ⟨rb, 0, none⟩ = some (.slice fa Fj.length fcap) ∧ w5.frozen? ⟨rb, 0, none⟩ = false) := fun w5 hg5 => by
                have hb5 : w5.heap[rb]? = W.heap[rb]? := (hg5.block rb (by show rb < (W.alloc _).heap.size; rw [size_alloc]; omega) (by simp; omega)).trans (Below.heap_alloc W _ _ lW)
                exact ⟨(World.cell?_of_block (a := ⟨rb, 0, none⟩) hb5).trans e2, (World.frozen?_of_block (a := ⟨rb, 0, none⟩) hb5).trans e3⟩
              have KP : Hid (∀ n, n = ([(x, g + 1)] ++ Fj).length → 0 < n) := fun n hn => by subst hn; simp
              have hwr : IntKind.i64.wrap (g + 1) = g + 1 := IntWalk.i64_in _ (by omega)
              have i0 : (0 : Int) ≤ (j : Int) := by omega
              have i1 : (j : Int) < (hs.length : Int) := by omega
              have HR3' := Lib.hid R3
              have HFS := Lib.hid hfs
              clear R3 C3 hfs hW hWb q0 q1 c0 c1 y0 y1 R2 haw2 hlr hlr' HR3 HC3
              go_region_law (refine step_appH _ rfl _ _ rfl w0.heap.size (.slice (some ⟨W.heap.size, 0, none⟩) 1 1) (.slice fa Fj.length fcap) [(x, g + 1)] Fj rfl rfl KR.out KS.out KL.out KB.out ?_; intro v5 w5 n5 HN5 hrow5 hgrow5 hat5; have hcf := KF.out w5 hgrow5; obtain ⟨c5, f5⟩ := hcf; obtain ⟨g5, cap5, hv5⟩ := row_shape3 hrow5 (KP.out n5 HN5.out); rw [hv5] at hrow5 hat5 ⊢; clear hv5)
              all_goals clear hwr
              all_goals go_wp2_with fail
              all_goals exact ⟨RFRel3.step hjl HE.out HFJ.out HTJ.out C P (by rw [HFS.out]; exact HR3'.out) HC3'.out HP3.out HN5.out hrow5 hgrow5 hat5 hxi hg1i, by simp [intOf]; omega⟩
        · go_wp2_with fail
          go_ret
          obtain rfl : j = hs.length := by omega
          rw [List.take_length] at R
          exact ⟨fun _ => ⟨rfl, fv', tv', R, C, P⟩, fun e => by rw [HCK.out] at e; cases e⟩
end Go.Proofs.Ytfkckdfldalceaa
