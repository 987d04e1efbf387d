/- named (layer 5): the taken handles of some slots. Conditions: the contract's own premises. -/
import Derived.Test.YtfkckdfldalceaaActsPlain
namespace Go.Proofs.Ytfkckdfldalceaa
open Go.RowKit Go.Maps

def nameds (T hs : List (Int × Int)) : List (Int × Int) := hs.flatMap (fun h => T.filter (fun q => q.1 == h.1))
theorem nameds_len (T : List (Int × Int)) : ∀ hs : List (Int × Int), (nameds T hs).length ≤ hs.length * T.length
  | [] => by simp [nameds]
  | h :: hs => by
    have := nameds_len T hs
    have := List.length_filter_le (fun q => q.1 == h.1) T
    simp only [nameds, List.flatMap_cons, List.length_append, List.length_cons] at *
    rw [Nat.succ_mul]; omega
theorem nameds_mem {T hs : List (Int × Int)} {p : Int × Int} (h : p ∈ nameds T hs) : p ∈ T := by
  simp only [nameds, List.mem_flatMap, List.mem_filter] at h
  obtain ⟨_, _, h, _⟩ := h
  exact h
theorem nameds_snoc {T hs : List (Int × Int)} {j : Nat} {p : Int × Int} (he : hs[j]? = some p) : nameds T (hs.take (j + 1)) = nameds T (hs.take j) ++ T.filter (fun q => q.1 == p.1) := by
  obtain ⟨a, b⟩ := List.getElem?_eq_some_iff.1 he
  rw [List.take_succ_eq_append_getElem a, b]
  simp [nameds]
theorem filter1_snoc {T : List (Int × Int)} {k : Nat} {q : Int × Int} (x : Int) (he : T[k]? = some q) : (T.take (k + 1)).filter (fun r => r.1 == x) = (T.take k).filter (fun r => r.1 == x) ++ (if q.1 = x then [q] else []) := by
  obtain ⟨a, b⟩ := List.getElem?_eq_some_iff.1 he
  rw [List.take_succ_eq_append_getElem a, b, List.filter_append]
  by_cases e : q.1 = x
  · simp [e]
  · simp [e]

def NRow (w0 w : World) (lv : Value) (L : List (Int × Int)) (wr : World) : Prop :=
  Below w.heap.size w wr ∧ RowH w0 wr lv L ∧ ∀ b, lv.ownBlock = some b → w.heap.size ≤ b
def NRel1 (w0 w : World) (T hs : List (Int × Int)) (lv i : Value) (wr : World) : Prop :=
  ∃ j : Nat, j ≤ hs.length ∧ i = .int .i64 j ∧ NRow w0 w lv (nameds T (hs.take j)) wr
def NRel2 (w0 w : World) (T L : List (Int × Int)) (x : Int) (lv i : Value) (wr : World) : Prop :=
  ∃ k : Nat, k ≤ T.length ∧ i = .int .i64 k ∧ NRow w0 w lv (L ++ (T.take k).filter (fun r => r.1 == x)) wr

theorem NRow.step {w0 w wr w4 : World} {L L' : List (Int × Int)} {q : Int × Int} {lv v' : Value} {n : Nat} {X : Obj} {nq : Nat} (h : NRow w0 w lv L wr)
    (hL : L' = L ++ [q]) (hqi : I64 q.1 ∧ I64 q.2) (hn : n = (L ++ [q]).length)
    (hrow : w4.ownsRow w0.heap.size 30 2 v' n (hcells (L ++ [q]))) (hg : ((wr.drewN nq).alloc X).grownBy w4 lv.ownBlock) (hat : v'.ownBlock = lv.ownBlock ∨ v'.ownBlock = some ((wr.drewN nq).alloc X).heap.size) :
    NRow w0 w v' L' w4 := by
  obtain ⟨hb, hr, hln⟩ := h
  have z : ((wr.drewN nq).alloc X).heap.size = wr.heap.size + 1 := size_alloc _ _
  have hb1 : Below w.heap.size w ((wr.drewN nq).alloc X) := (below_drewN hb nq).alloc hb.size X
  subst hn hL
  refine ⟨hb1.grown hg hb1.size (fun b hb' => hln b hb'), ⟨hrow, by
    intro r hr'
    rw [List.mem_append, List.mem_singleton] at hr'
    rcases hr' with h | rfl
    · exact hr.i64 r h
    · exact hqi⟩, fun b hb' => ?_⟩
  rcases hat with e | e
  · exact hln b (e ▸ hb')
  · rw [e, z] at hb'; cases hb'
    have := hb.size; omega

set_option maxRecDepth 100000 in
set_option maxHeartbeats 800000 in
theorem named_any (w0 w : World) (rb : Nat) (fv tv : Value) (F T hs : List (Int × Int)) (a : Option Addr) (hc : Nat) (h : RfC w0 w rb fv tv F T) (hh : HsV w a hs) (hhl : hs.length ≤ 1000) (hTl : T.length ≤ 1000) :
    Calls Try.prog 27 #[.pointer (some ⟨rb, 0, none⟩), .slice a hs.length hc] w fun e w' => ∃ lv, e = .returned lv ∧ NRow w0 w lv (nameds T hs) w' := by
  go_enter Try.func27, Try.ntmps27
  go_wp2_with fail
  go_loopw [5, 6] (fun lv i wr => NRel1 w0 w T hs lv i wr) (fun _ i _ => hs.length - (intOf i).toNat)
  case atStart => exact ⟨0, Nat.zero_le _, rfl, Below.refl _ _, ⟨row_nil _ _, by simp [nameds]⟩, by simp [Value.ownBlock]⟩
  case round =>
    obtain ⟨j, hj, rfl, hn⟩ := hrel
    by_cases hjl : j < hs.length
    · obtain ⟨b, off, rfl, ha⟩ := hh.at' (by omega)
      obtain ⟨x, g, he⟩ : ∃ x g, hs[j]? = some (x, g) := ⟨_, _, List.getElem?_eq_getElem hjl⟩
      obtain ⟨L, hL⟩ : ∃ L, L = nameds T (hs.take j) := ⟨_, rfl⟩
      have hLl : L.length ≤ 1000000 := by
        rw [hL]
        refine Nat.le_trans (nameds_len T _) ?_
        have h1 : (hs.take j).length ≤ 1000 := by rw [List.length_take]; omega
        exact Nat.le_trans (Nat.mul_le_mul h1 hTl) (by omega)
      rw [← hL] at hn
      have HSN := Lib.hid (nameds_snoc (T := T) he)
      rw [← hL] at HSN
      have HE := Lib.hid he
      clear he hL
      go_wp2_with fail
      obtain ⟨wo, rfl⟩ : ∃ wo : World, wo = wr := ⟨_, rfl⟩
      go_loopw [5, 7] (fun lv i wx => NRel2 w0 w T L x lv i wx) (fun _ i _ => T.length - (intOf i).toNat)
      case atStart => exact ⟨0, Nat.zero_le _, rfl, by simpa using hn⟩
      case round =>
        clear hn
        obtain ⟨k, hk, rfl, hn⟩ := hrel
        have R := h.below hn.1
        obtain ⟨ta, tc, rfl⟩ := R.hT.shape
        have c1 := cell_of_blk R.blk 1
        simp at c1
        have lr := R.ltR
        by_cases hkl : k < T.length
        · obtain ⟨tg, tc', hge⟩ := R.hT.shape_pos (by omega)
          obtain rfl : ta = some ⟨tg, 0, none⟩ := by simp only [Value.slice.injEq] at hge; exact hge.1
          obtain ⟨q0, q1⟩ := (ha.of_below hn.1 ha.lt).cells j x g HE.out
          obtain ⟨y, g', he2⟩ : ∃ y g', T[k]? = some (y, g') := ⟨_, _, List.getElem?_eq_getElem hkl⟩
          obtain ⟨q2, q3⟩ := R.hT.at.cells k y g' he2
          obtain ⟨hyi, hgi'⟩ := R.hT.i64 _ (List.mem_of_getElem? he2)
          simp only [Nat.zero_add] at q2 q3
          have HFS := Lib.hid (filter1_snoc x he2)
          clear he2 hge
          have i0 : (0 : Int) ≤ (j : Int) := by omega
          have i1 : (j : Int) < (hs.length : Int) := by omega
          have i2 : (0 : Int) ≤ (k : Int) := by omega
          have i3 : (k : Int) < (T.length : Int) := by omega
          obtain ⟨M, hM⟩ : ∃ M, M = L ++ (T.take k).filter (fun r => r.1 == x) := ⟨_, rfl⟩
          have hMl : M.length ≤ 1001000 := by
            rw [hM]
            have := List.length_filter_le (fun r : Int × Int => r.1 == x) (T.take k)
            have := List.length_take_le k T
            simp; omega
          have HM := Lib.hid hM
          rw [← hM] at hn
          clear hM
          by_cases hx : y = x
          · subst hx
            have HN2 : Hid (L ++ (T.take (k + 1)).filter (fun r => r.1 == y) = M ++ [(y, g')]) := by
              show _ = _
              rw [HFS.out, HM.out]; simp
            clear HM HFS
            go_wp2_with fail
            go_quiet (fail)
            have hlr := hn.2.1
            have KR : Hid (((wr.drewN nq).alloc (.cells #[.int .i64 y, .int .i64 g'] 30)).ownsRow w0.heap.size 30 2 _ M.length (hcells M)) := hlr.row.alloc _
            have KS : Hid (HsS ((wr.drewN nq).alloc (.cells #[.int .i64 y, .int .i64 g'] 30)) (.slice (some ⟨wr.heap.size, 0, none⟩) 1 1) [(y, g')]) := HsS.one (heap_new (wr.drewN nq) _) hyi hgi'
            have KB : Hid (w0.heap.size ≤ ((wr.drewN nq).alloc (.cells #[.int .i64 y, .int .i64 g'] 30)).heap.size) := by
              show _ ≤ _
              rw [size_alloc]; have := R.base; show w0.heap.size ≤ wr.heap.size + 1; omega
            have KL : Hid (M.length + [(y, g')].length ≤ 1099511627776) := by
              show _ ≤ _
              simp; omega
            go_wp2_with (at_builtin; go_must (refine wpList_appH _ rfl _ _ rfl w0.heap.size _ (.slice (some ⟨wr.heap.size, 0, none⟩) 1 1) M [(y, g')] rfl rfl KR.out KS.out KL.out KB.out ?_; intro v4 w4 n4 HN4 hrow4 hgrow4 hat4; obtain ⟨g4, cap4, hv4⟩ := row_shape3 hrow4 (by rw [HN4.out]; simp); rw [hv4] at hrow4 hat4 ⊢; clear hv4))
            exact ⟨⟨k + 1, by omega, by simp, hn.step HN2.out ⟨hyi, hgi'⟩ HN4.out hrow4 hgrow4 hat4⟩, by simp [intOf]; omega⟩
          · have hx' : (y == x) = false := by rw [beq_eq_false_iff_ne]; exact hx
            have HN2 : Hid (L ++ (T.take (k + 1)).filter (fun r => r.1 == x) = M) := by
              show _ = _
              rw [HFS.out, HM.out, if_neg hx]; simp
            clear hx HM HFS
            go_wp2_with fail
            go_quiet (fail)
            go_wp2_with fail
            exact ⟨⟨k + 1, by omega, by simp, below_drewN hn.1 _, by rw [HN2.out]; exact hn.2.1.of_block (fun _ _ => rfl), hn.2.2⟩, by simp [intOf]; omega⟩
        · obtain rfl : k = T.length := by omega
          rw [List.take_length] at hn
          rw [← HSN.out] at hn
          go_wp2_with fail
          exact ⟨⟨j + 1, by omega, by simp, hn⟩, by simp [intOf]; omega⟩
    · obtain rfl : j = hs.length := by omega
      rw [List.take_length] at hn
      go_wp2_with fail
      go_ret
      exact ⟨_, rfl, hn⟩
end Go.Proofs.Ytfkckdfldalceaa
