/- Values: value.thing, slices.ContainsFunc at values, value.Right; letter.Right. Conditions: each contract's own premises. Printed by gen_wb2.py. -/
import Derived.Test.YtonilojjahfboaaGreatWb2
namespace Go.Proofs.YtonilojjahfboaaGreat
open Go.RowKit Go.Maps

set_option maxHeartbeats 1000000 in
theorem thing_any (v : Vl) (w : World) (h : v.Ok) : Calls Tryz.prog 317 #[.agg #[.int .i64 v.kind, .int .i64 v.n, .string v.s]] w fun e w' => e = .returned v.thing ∧ Below w.heap.size w w' := by
  have hs := h.s
  unfold maxLen at hs
  have fin := Lib.hid (fun X => below_box w X)
  unfold Vl.thing Vl.isN Vl.isT
  by_cases k1 : v.kind = 1
  · have n1 : (v.kind == 1) = true := by simpa using k1
    have n2 : (v.kind == 2) = false := by simp; omega
    rw [decide_eq_true k1, decide_eq_false (show ¬ v.kind = 2 by omega)]
    clear k1
    cases he : v.s.toList.isEmpty
    · have he2 : (v.s.toList == []) = false := by simpa using he
      go_enter Tryz.func317, Tryz.ntmps317
      go_wp2
      go_ret
      exact ⟨rfl, fin.out _⟩
    · have he2 : (v.s.toList == []) = true := by simpa using he
      go_enter Tryz.func317, Tryz.ntmps317
      go_wp2
      go_ret
      exact ⟨rfl, fin.out _⟩
  · have n1 : (v.kind == 1) = false := by simpa using k1
    rw [decide_eq_false k1]
    clear k1
    by_cases k2 : v.kind = 2
    · have n2 : (v.kind == 2) = true := by simpa using k2
      rw [decide_eq_true k2]
      clear k2
      by_cases k3 : v.n = 0
      · have n3 : (v.n == 0) = true := by simpa using k3
        rw [decide_eq_true k3]
        clear k3
        by_cases k4 : v.s.size ≤ 200
        · rw [decide_eq_true k4]
          go_enter Tryz.func317, Tryz.ntmps317
          go_wp2
          go_ret
          exact ⟨rfl, fin.out _⟩
        · rw [decide_eq_false k4]
          go_enter Tryz.func317, Tryz.ntmps317
          go_wp2
          go_ret
          exact ⟨rfl, fin.out _⟩
      · have n3 : (v.n == 0) = false := by simpa using k3
        rw [decide_eq_false k3]
        clear k3
        go_enter Tryz.func317, Tryz.ntmps317
        go_wp2
        go_ret
        exact ⟨rfl, fin.out _⟩
    · have n2 : (v.kind == 2) = false := by simpa using k2
      rw [decide_eq_false k2]
      clear k2
      go_enter Tryz.func317, Tryz.ntmps317
      go_wp2
      go_ret
      exact ⟨rfl, fin.out _⟩
theorem vright1_any (v : Vl) (w : World) (h : v.Ok) : Calls Tryz.prog 316 #[.agg #[.int .i64 v.kind, .int .i64 v.n, .string v.s]] w fun e w' => e = .returned (.bool (!v.right)) ∧ Below w.heap.size w w' := by
  have fin := Lib.hid (fun X w1 (hb : Below (w.alloc X).heap.size (w.alloc X) w1) => below_then (below_box w X) hb)
  unfold Vl.right
  have ht : v.thing = v.thing := rfl
  cases h1 : v.isN
  · cases h2 : v.isT
    · have HT : Hid (v.thing = .nilIface) := Lib.hid (by unfold Vl.thing; rw [h1, h2]; rfl)
      clear h1 h2 ht
      go_enter Tryz.func316, Tryz.ntmps316
      go_wp2_with (go_at_call 317; refine (thing_any v _ h).mono ?_; rintro e w1 ⟨rfl, hb⟩; rw [HT.out])
      go_ret
      exact ⟨rfl, fin.out _ _ hb⟩
    · have HT : Hid (v.thing = .iface 9 (.string v.s)) := Lib.hid (by unfold Vl.thing; rw [h1, h2]; rfl)
      clear h1 h2 ht
      go_enter Tryz.func316, Tryz.ntmps316
      go_wp2_with (go_at_call 317; refine (thing_any v _ h).mono ?_; rintro e w1 ⟨rfl, hb⟩; rw [HT.out])
      go_ret
      exact ⟨rfl, fin.out _ _ hb⟩
  · have HT : Hid (v.thing = .iface 3 (.int .i64 v.n)) := Lib.hid (by unfold Vl.thing; rw [h1]; rfl)
    clear h1 ht
    go_enter Tryz.func316, Tryz.ntmps316
    go_wp2_with (go_at_call 317; refine (thing_any v _ h).mono ?_; rintro e w1 ⟨rfl, hb⟩; rw [HT.out])
    go_ret
    exact ⟨rfl, fin.out _ _ hb⟩
def wrongV (v : Vl) : Bool := !v.right
theorem vright1_bad (v : Vl) (w : World) (h : v.Ok) : Calls Tryz.prog 316 #[.agg #[.int .i64 v.kind, .int .i64 v.n, .string v.s]] w fun e w' => e = .returned (.bool (wrongV v)) ∧ Below w.heap.size w w' := vright1_any v w h

/-- values in memory, one behind the other -/
structure VsAt (w : World) (b off : Nat) (l : List Vl) : Prop where
  ok : ∀ x ∈ l, x.Ok
  cells : ∀ (i : Nat) (x : Vl), l[i]? = some x → w.cell? ⟨b, off + i * 3, none⟩ = some (.int .i64 x.kind) ∧ w.cell? ⟨b, off + i * 3 + 1, none⟩ = some (.int .i64 x.n) ∧ w.cell? ⟨b, off + i * 3 + 2, none⟩ = some (.string x.s)
  lt : b < w.heap.size
def VsV (w : World) (a : Option Addr) (l : List Vl) : Prop := l ≠ [] → ∃ b off, a = some ⟨b, off, none⟩ ∧ VsAt w b off l
theorem VsAt.of_block {w w' : World} {b off : Nat} {l : List Vl} (h : VsAt w b off l) (hb : w'.heap[b]? = w.heap[b]?) : VsAt w' b off l :=
  ⟨h.ok, fun i x hx => by
    have e : ∀ j, w'.cell? ⟨b, j, none⟩ = w.cell? ⟨b, j, none⟩ := fun j => World.cell?_of_block (a := ⟨b, j, none⟩) hb
    simp only [e]; exact h.cells i x hx, (Array.getElem?_eq_some_iff.1 (hb.trans (Array.getElem?_eq_getElem h.lt))).1⟩
theorem VsV.below {w w' : World} {a : Option Addr} {l : List Vl} (h : VsV w a l) (hb : Below w.heap.size w w') : VsV w' a l := fun e => by
  obtain ⟨b, off, h1, h2⟩ := h e
  exact ⟨b, off, h1, h2.of_block (hb.block _ h2.lt)⟩
def VsPost (w : World) (l : List Vl) (e : Ending) (w' : World) : Prop := ∃ r : Int, e = .returned (.int .i64 r) ∧ (r = -1 ∧ l.any wrongV = false ∨ 0 ≤ r ∧ l.any wrongV = true) ∧ Below w.heap.size w w'
set_option maxHeartbeats 400000 in
theorem idxVs_any (a : Option Addr) (cap : Nat) (l : List Vl) (w : World) (h : VsV w a l) (hl : l.length ≤ 100000) :
    Calls Tryz.prog 367 #[.slice a l.length cap, .func (Fn.func 316) #[] #[]] w (VsPost w l) := by
  go_enter Tryz.func367, Tryz.ntmps367
  go_wp2_with fail
  go_loopw [8] (fun i wr => ∃ j : Nat, j ≤ l.length ∧ i = .int .i64 j ∧ Hid ((l.take j).any wrongV = false) ∧ Below w.heap.size w wr) (fun i _ => l.length - (intOf i).toNat)
  case atStart => exact ⟨0, Nat.zero_le _, rfl, Lib.hid rfl, Below.refl _ _⟩
  case round =>
    obtain ⟨j, hj, rfl, HN, hbel⟩ := hrel
    by_cases hlt : j < l.length
    · obtain ⟨x, hx⟩ : ∃ x, l[j]? = some x := ⟨_, List.getElem?_eq_getElem hlt⟩
      obtain ⟨b, off, rfl, hat⟩ := (h.below hbel) (fun e => by rw [e] at hlt; simp at hlt)
      have hc := hat.cells j x hx
      have hok := hat.ok x (List.mem_of_getElem? hx)
      have hlb := hat.lt
      have HX := Lib.hid hx
      have HOK := Lib.hid hok
      have tk : Hid ((l.take (j + 1)).any wrongV = wrongV x) := Lib.hid (by rw [List.take_succ_eq_append_getElem hlt, List.any_append, HN.out]; obtain ⟨_, e⟩ := List.getElem?_eq_some_iff.1 hx; rw [e]; simp)
      clear hx hat hok h
      obtain ⟨q0, q1, q2⟩ := hc
      obtain ⟨pv, hpv⟩ : ∃ pv, wrongV x = pv := ⟨_, rfl⟩
      have HP := Lib.hid hpv
      rw [hpv] at tk
      clear hpv
      have hany : Hid (pv = true → l.any wrongV = true) := Lib.hid (fun e => List.any_eq_true.2 ⟨x, List.mem_of_getElem? HX.out, HP.out.trans e⟩)
      cases pv
      · go_wp2_with (go_at_call 316; refine (vright1_bad _ _ HOK.out).mono ?_; rintro e w1 ⟨rfl, hb1⟩; rw [HP.out])
        exact ⟨⟨j + 1, by omega, by go_num, tk, below_then hbel hb1⟩, by simp [intOf]; omega⟩
      · go_wp2_with (go_at_call 316; refine (vright1_bad _ _ HOK.out).mono ?_; rintro e w1 ⟨rfl, hb1⟩; rw [HP.out])
        go_ret
        exact ⟨_, rfl, .inr ⟨by omega, hany.out (by first | rfl | trivial)⟩, below_then hbel hb1⟩
    · obtain rfl : j = l.length := by omega
      go_wp2_with fail
      go_ret
      exact ⟨_, rfl, .inl ⟨rfl, by rw [← HN.out, List.take_length]⟩, hbel⟩
theorem conVs_any (a : Option Addr) (cap : Nat) (l : List Vl) (w : World) (h : VsV w a l) (hl : l.length ≤ 100000) :
    Calls Tryz.prog 315 #[.slice a l.length cap, .func (Fn.func 316) #[] #[]] w fun e w' => e = .returned (.bool (l.any wrongV)) ∧ Below w.heap.size w w' := by
  go_enter Tryz.func315, Tryz.ntmps315
  go_wp2_with fail
  refine (idxVs_any a cap l _ h hl).mono ?_
  rintro e w1 ⟨r, rfl, hr, hb⟩
  clear h
  rcases hr with ⟨rfl, ha⟩ | ⟨h0, ha⟩
  · have HA := Lib.hid ha
    clear ha
    go_wp2_with fail
    go_ret
    exact ⟨ret_bool HA.out.symm, hb⟩
  · have HA := Lib.hid ha
    clear ha
    go_wp2_with fail
    go_ret
    exact ⟨ret_bool HA.out.symm, hb⟩

theorem SsV.one {w : World} {b : Nat} {s : ByteArray} {t : TypeId} {z : Nat × Nat} (hb : w.heap[b]? = some (.cells #[.string s] t z)) (hs : s.size ≤ maxLen) : SsV w (some ⟨b, 0, none⟩) [s] := fun _ =>
  ⟨b, 0, rfl, ⟨by simp [hs], fun i x hx => by
    cases i with
    | zero => simp at hx; subst hx; rw [cell_of_blk hb]; rfl
    | succ i => simp at hx, (Array.getElem?_eq_some_iff.1 hb).1⟩⟩
theorem VsV.one {w : World} {b : Nat} {v : Vl} {t : TypeId} {z : Nat × Nat} (hb : w.heap[b]? = some (.cells #[.int .i64 v.kind, .int .i64 v.n, .string v.s] t z)) (hv : v.Ok) : VsV w (some ⟨b, 0, none⟩) [v] := fun _ =>
  ⟨b, 0, rfl, ⟨by simp [hv], fun i x hx => by
    cases i with
    | zero => simp at hx; subst hx; exact ⟨by rw [cell_of_blk hb]; rfl, by rw [cell_of_blk hb]; rfl, by rw [cell_of_blk hb]; rfl⟩
    | succ i => simp at hx, (Array.getElem?_eq_some_iff.1 hb).1⟩⟩
/-- letter.Right of one -/
theorem lright_one (b cap : Nat) (s : ByteArray) (t : TypeId) (z : Nat × Nat) (w : World) (hb : w.heap[b]? = some (.cells #[.string s] t z)) (hs : s.size ≤ maxLen) :
    Calls Tryz.prog 131 #[.slice (some ⟨b, 0, none⟩) 1 cap] w fun e w' => e = .returned (.bool (!badS s)) ∧ Below w.heap.size w w' := by
  have hc := conSs_any (some ⟨b, 0, none⟩) cap [s] w (SsV.one hb hs) (by simp)
  simp only [List.any_cons, List.any_nil, Bool.or_false] at hc
  go_enter Tryz.func131, Tryz.ntmps131
  go_wp2_with fail
  refine hc.mono ?_
  rintro e w1 ⟨rfl, hb1⟩
  clear hc
  go_wp2_with fail
  go_ret
  exact ⟨rfl, hb1⟩
/-- value.Right of one -/
theorem vright_one (b cap : Nat) (v : Vl) (t : TypeId) (z : Nat × Nat) (w : World) (hb : w.heap[b]? = some (.cells #[.int .i64 v.kind, .int .i64 v.n, .string v.s] t z)) (hv : v.Ok) :
    Calls Tryz.prog 230 #[.slice (some ⟨b, 0, none⟩) 1 cap] w fun e w' => e = .returned (.bool v.right) ∧ Below w.heap.size w w' := by
  have hc := conVs_any (some ⟨b, 0, none⟩) cap [v] w (VsV.one hb hv) (by simp)
  simp only [List.any_cons, List.any_nil, Bool.or_false] at hc
  go_enter Tryz.func230, Tryz.ntmps230
  go_wp2_with fail
  refine hc.mono ?_
  rintro e w1 ⟨rfl, hb1⟩
  clear hc
  go_wp2_with fail
  go_ret
  exact ⟨ret_bool (by unfold wrongV; simp), hb1⟩
end Go.Proofs.YtonilojjahfboaaGreat
