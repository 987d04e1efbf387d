/- The reference of layer 14: the tape. Conditions: each contract's own premises. -/
import Derived.Test.YtcghgnncmnoalaaRd12
namespace Go.Proofs.Ytcghgnncmnoalaa
open Go.RowKit Go.Maps

/-- a tape and what it has left -/
structure TpS (w : World) (tb D : Nat) (l : List UInt8) (bad : Bool) : Prop where
  ex : ∃ a cap, w.heap[tb]? = some (.cells #[.slice a l.length cap, .bool bad] 146) ∧ l.length ≤ cap ∧ BsV w a l ∧ ((a = none ∧ cap = 0) ∨ ∃ b off, a = some ⟨b, off, none⟩ ∧ b ≠ tb ∧ b < D)
theorem TpS.lt {w : World} {tb D : Nat} {l : List UInt8} {bad : Bool} (h : TpS w tb D l bad) : tb < w.heap.size := by
  obtain ⟨a, cap, h1, _⟩ := h.ex
  exact (Array.getElem?_eq_some_iff.1 h1).1
theorem TpS.of {w w' : World} {tb D : Nat} {l : List UInt8} {bad : Bool} (h : TpS w tb D l bad) (h1 : w'.heap[tb]? = w.heap[tb]?) (h2 : ∀ i, i < D → i ≠ tb → w'.heap[i]? = w.heap[i]?) : TpS w' tb D l bad := by
  obtain ⟨a, cap, r1, r2, r3, r4⟩ := h.ex
  refine ⟨a, cap, h1.trans r1, r2, fun hne => ?_, r4⟩
  obtain ⟨b, off, e, hat⟩ := r3 hne
  rcases r4 with ⟨e2, _⟩ | ⟨b', off', e2, hn, hl⟩
  · rw [e2] at e; cases e
  · rw [e2] at e
    injection e with e
    injection e with e3 e4
    subst e3 e4
    exact ⟨b', off', e2, hat.of_block (h2 b' hl hn)⟩
theorem TpS.set {w : World} {tb D : Nat} {l : List UInt8} {bad : Bool} (h : TpS w tb D l bad) {b i : Nat} {u : Value} (hb : b ≠ tb) (hD : D ≤ b) : TpS (w.setCell ⟨b, i, none⟩ u) tb D l bad :=
  h.of (set_other _ (fun e => hb e.symm)) (fun j hj _ => set_other _ (by omega))
theorem TpS.below {w w' : World} {tb D : Nat} {l : List UInt8} {bad : Bool} (h : TpS w tb D l bad) (hb : Below w.heap.size w w') : TpS w' tb D l bad := by
  obtain ⟨a, cap, h1, h2, h3, h4⟩ := h.ex
  exact ⟨a, cap, (hb.block _ h.lt).trans h1, h2, h3.below hb, h4⟩
/-- what taking bytes leaves -/
def TtPost (w : World) (tb D : Nat) (l : List UInt8) (bad : Bool) (n : Nat) (e : Ending) (w' : World) : Prop :=
  Chg w w' (· = tb) ∧ ∃ (a : Option Addr) (x : List UInt8) (cap : Nat) (l' : List UInt8) (bad' : Bool), e = .returned (.slice a x.length cap) ∧ BsV w' a x ∧ x.length ≤ cap ∧ ((a = none ∧ cap = 0) ∨ ∃ b off, a = some ⟨b, off, none⟩ ∧ b ≠ tb ∧ b < D) ∧
    TpS w' tb D l' bad' ∧ l'.length ≤ l.length ∧ ((n ≤ l.length ∧ x = l.take n ∧ l' = l.drop n ∧ bad' = bad) ∨ (l.length < n ∧ x = [] ∧ l' = l ∧ bad' = true))
theorem chg_set2 {w : World} {tb i : Nat} (v : Value) : Chg w (w.setCell ⟨tb, i, none⟩ v) (· = tb) := (Chg.refl w (· = tb)).setCell (p := ⟨tb, i, none⟩) (fun _ => rfl) v
theorem tp_set {w : World} {tb D cap : Nat} {a : Option Addr} {l' : List UInt8} {v : Value} {bad : Bool} (h : w.heap[tb]? = some (.cells #[v, .bool bad] 146)) (hl : l'.length ≤ cap) (hv : BsV w a l') (ha : (a = none ∧ cap = 0) ∨ ∃ b off, a = some ⟨b, off, none⟩ ∧ b ≠ tb ∧ b < D) :
    TpS (w.setCell ⟨tb, 0, none⟩ (.slice a l'.length cap)) tb D l' bad := by
  have hc := chg_set2 (w := w) (tb := tb) (i := 0) (.slice a l'.length cap)
  refine ⟨a, cap, ?_, hl, hv.chg hc ?_, ha⟩
  · rw [blk_setCell h]; rfl
  · intro b off e
    rcases ha with ⟨e2, _⟩ | ⟨b', off', e2, hne, _⟩
    · rw [e2] at e; cases e
    · rw [e2] at e; injection e with e; injection e with e; rw [← e]; exact hne
set_option maxRecDepth 100000 in
set_option maxHeartbeats 1000000 in
theorem ttake_any (tb D : Nat) (l : List UInt8) (bad : Bool) (n : Nat) (w : World) (h : TpS w tb D l bad) (hl : l.length ≤ 3000000) (hn : n ≤ 3000000) :
    Calls Try.prog 93 #[.pointer (some ⟨tb, 0, none⟩), .int .i64 n] w (TtPost w tb D l bad n) := by
  obtain ⟨a, cap, hb, hcap, hv, ha⟩ := h.ex
  have hlt := h.lt
  have c0 := cell_of_blk hb 0
  have f0 := frozen_of_blk hb 0
  have c1 := cell_of_blk hb 1
  have f1 := frozen_of_blk hb 1
  simp at c0 c1
  have HB := Lib.hid hb
  by_cases hs : l.length < n
  · have HT : Hid (TpS (w.setCell ⟨tb, 1, none⟩ (.bool true)) tb D l true) := Lib.hid (by
      refine ⟨a, cap, by rw [blk_setCell hb]; rfl, hcap, hv.chg (chg_set2 _) ?_, ha⟩
      intro b off e
      rcases ha with ⟨e2, _⟩ | ⟨b', off', e2, hne, _⟩
      · rw [e2] at e; cases e
      · rw [e2] at e; injection e with e; injection e with e; rw [← e]; exact hne)
    clear hb h ha hv
    go_enter Try.func93, Try.ntmps93
    go_wp2_with fail
    go_ret
    exact ⟨chg_set2 _, none, [], 0, l, true, rfl, fun e => absurd rfl e, Nat.le_refl _, .inl ⟨rfl, rfl⟩, HT.out, Nat.le_refl _, .inr ⟨hs, rfl, rfl, rfl⟩⟩
  · have hle : n ≤ l.length := by omega
    have HV := Lib.hid hv
    have HLD : Hid ((l.drop n).length = l.length - n) := Lib.hid (by simp)
    have HTK : Hid (n = (l.take n).length) := Lib.hid (by simp; omega)
    rcases ha with ⟨rfl, rfl⟩ | ⟨b, off, rfl, hne, hbl⟩
    · have hl0 : l = [] := List.eq_nil_of_length_eq_zero (by omega)
      subst hl0
      obtain rfl : n = 0 := by simpa using hle
      have HT : Hid (TpS (w.setCell ⟨tb, 0, none⟩ (.slice none 0 0)) tb D [] bad) := Lib.hid (tp_set (l' := []) hb (by simp) (fun e => absurd rfl e) (.inl ⟨rfl, rfl⟩))
      clear hb h hv
      go_enter Try.func93, Try.ntmps93
      go_wp2_with fail
      go_ret
      exact ⟨chg_set2 _, none, [], 0, [], bad, rfl, fun e => absurd rfl e, Nat.le_refl _, .inl ⟨rfl, rfl⟩, HT.out, Nat.le_refl _, .inl ⟨Nat.le_refl _, rfl, rfl, rfl⟩⟩
    · have hnc : n ≤ cap := by omega
      have HAT : Hid (BsV w (some ⟨b, off, none⟩) (l.take n)) := Lib.hid (fun e => by
        obtain ⟨b', off', e', hat⟩ := hv (fun e2 => e (by rw [e2]; simp))
        exact ⟨b', off', e', hat.take n⟩)
      by_cases hcn : cap = n
      · have HT : Hid (TpS (w.setCell ⟨tb, 0, none⟩ (.slice (some ⟨b, off, none⟩) 0 0)) tb D (l.drop n) bad) := Lib.hid (by
          have h0 : (l.drop n).length = 0 := by rw [HLD.out]; omega
          have := tp_set (l' := l.drop n) (cap := 0) (a := some ⟨b, off, none⟩) hb (by omega) (fun e => absurd (List.eq_nil_of_length_eq_zero h0) e) (.inr ⟨b, off, rfl, hne, hbl⟩)
          rw [h0] at this
          exact this)
        subst hcn
        have hsub : cap - cap = 0 := Nat.sub_self _
        clear hb h hv
        go_enter Try.func93, Try.ntmps93
        go_wp2_with fail
        go_ret
        exact ⟨chg_set2 _, some ⟨b, off, none⟩, l.take cap, cap, l.drop cap, bad, by rw [← HTK.out]; rfl, HAT.out.chg (chg_set2 _) (fun b' o' e => by injection e with e; injection e with e; rw [← e]; exact hne), by rw [← HTK.out]; exact Nat.le_refl _, .inr ⟨b, off, rfl, hne, hbl⟩, HT.out, by simp, .inl ⟨hle, rfl, rfl, rfl⟩⟩
      · have HT : Hid (TpS (w.setCell ⟨tb, 0, none⟩ (.slice (some ⟨b, off + n, none⟩) (l.length - n) (cap - n))) tb D (l.drop n) bad) := Lib.hid (by
          rw [← HLD.out]
          refine tp_set hb (by rw [HLD.out]; omega) (fun e => ?_) (.inr ⟨b, off + n, rfl, hne, hbl⟩)
          obtain ⟨b', off', e, hat⟩ := hv (fun e2 => by rw [e2] at e; simp at e)
          injection e with e
          injection e with e1 e2
          subst e1 e2
          exact ⟨b, off + n, rfl, hat.drop n⟩)
        clear hb h hv
        go_enter Try.func93, Try.ntmps93
        go_wp2_with fail
        go_ret
        exact ⟨chg_set2 _, some ⟨b, off, none⟩, l.take n, cap, l.drop n, bad, by rw [← HTK.out]; rfl, HAT.out.chg (chg_set2 _) (fun b' o' e => by injection e with e; injection e with e; rw [← e]; exact hne), by rw [← HTK.out]; exact hnc, .inr ⟨b, off, rfl, hne, hbl⟩, HT.out, by simp, .inl ⟨hle, rfl, rfl, rfl⟩⟩
theorem numL_tiny {l : List UInt8} {k : Nat} (hk : k ≤ l.length) (h7 : k ≤ 4) : numL (l.take k) < 4294967296 :=
  Nat.lt_of_lt_of_le (numL_take l k hk) (Nat.le_trans (Nat.pow_le_pow_right (by omega) h7) (by decide))
/-- what taking a number leaves -/
def TnPost (w : World) (tb D : Nat) (l : List UInt8) (bad : Bool) (n : Nat) (e : Ending) (w' : World) : Prop :=
  Chg w w' (· = tb) ∧ ∃ (v : Nat) (l' : List UInt8) (bad' : Bool), e = .returned (.int .i64 (v : Nat)) ∧ TpS w' tb D l' bad' ∧ v < 256 ^ n ∧ l'.length ≤ l.length ∧ ((bad' = bad ∧ nuN l n = some (v, l')) ∨ (bad' = true ∧ nuN l n = none))
set_option maxRecDepth 100000 in
set_option maxHeartbeats 1000000 in
theorem tnum_any (tb D : Nat) (l : List UInt8) (bad : Bool) (n : Nat) (w : World) (h : TpS w tb D l bad) (hl : l.length ≤ 3000000) (hn : n ≤ 5) :
    Calls Try.prog 92 #[.pointer (some ⟨tb, 0, none⟩), .int .i64 n] w (TnPost w tb D l bad n) := by
  have HH := Lib.hid h
  clear h
  go_enter Try.func92, Try.ntmps92
  go_wp2_with fail
  refine (ttake_any tb D l bad n _ HH.out hl (by omega)).mono ?_
  rintro e w1 ⟨hc, a, x, cap, l', bad', rfl, hv, hxc, hsrc, hts, hll, hor⟩
  have hx5 : x.length ≤ 5 := by
    rcases hor with ⟨_, rfl, _⟩ | ⟨_, rfl, _⟩
    · simp; omega
    · simp
  have HF : Hid (TnPost w tb D l bad n (.returned (.int .i64 (numL x : Nat))) w1) := Lib.hid (by
    refine ⟨hc, numL x, l', bad', rfl, hts, ?_, hll, ?_⟩
    · rcases hor with ⟨h1, rfl, _⟩ | ⟨_, rfl, _⟩
      · exact numL_take l n h1
      · exact Nat.pow_pos (by omega)
    · rcases hor with ⟨h1, rfl, rfl, rfl⟩ | ⟨h1, rfl, rfl, rfl⟩
      · exact .inl ⟨rfl, if_pos h1⟩
      · exact .inr ⟨rfl, if_neg (by omega)⟩)
  have HV := Lib.hid hv
  have HXC := Lib.hid hxc
  clear hc hv hsrc hts hll hor hxc
  obtain ⟨xn, hxn⟩ : ∃ n, n = x.length := ⟨_, rfl⟩
  rw [← hxn] at hx5 ⊢
  have HXN := Lib.hid hxn
  clear hxn
  go_wp2_with fail
  go_loopw [6, 7] (fun s i wr => ∃ k : Nat, k ≤ xn ∧ i = .int .i64 k ∧ s = .int .i64 (numL (x.take k) : Nat) ∧ w1 = wr) (fun _ i _ => xn - (intOf i).toNat)
  case atStart => exact ⟨0, by omega, rfl, rfl, rfl⟩
  case round =>
    obtain ⟨k, hk, rfl, rfl, rfl⟩ := hrel
    by_cases hlt : k < xn
    · have hkm : k < x.length := by rw [← HXN.out]; exact hlt
      obtain ⟨b, off, rfl, hat⟩ := HV.out (fun e => by rw [e] at hkm; simp at hkm)
      have c1 := hat.cells k x[k] (List.getElem?_eq_getElem hkm)
      unfold bv at c1
      have hlt2 := hat.lt
      have HS := Lib.hid (numL_snoc hkm)
      have hs := numL_tiny (l := x) (k := k) (by omega) (by omega)
      obtain ⟨s, hse⟩ : ∃ s, numL (x.take k) = s := ⟨_, rfl⟩
      have hx := x[k].toNat_lt
      obtain ⟨y, hxe⟩ : ∃ y, x[k].toNat = y := ⟨_, rfl⟩
      rw [hxe] at c1 HS hx
      rw [hse] at hs HS ⊢
      have hw1 : IntKind.i64.wrap ((s : Int) * 256) = (s : Int) * 256 := by rw [IntKind.wrap_i64]; omega
      have hw2 : IntKind.i64.wrap ((s : Int) * 256 + (y : Int)) = (s : Int) * 256 + (y : Int) := by rw [IntKind.wrap_i64]; omega
      have hw3 : IntKind.i64.wrap (y : Int) = y := by rw [IntKind.wrap_i64]; omega
      clear hse hxe hat hkm
      go_wp2_with fail
      exact ⟨⟨k + 1, by omega, by go_num, by rw [HS.out]; simp, trivial⟩, by simp [intOf]; omega⟩
    · obtain rfl : k = xn := by omega
      have HTK : Hid (numL (x.take k) = numL x) := Lib.hid (by rw [HXN.out, List.take_length])
      go_wp2_with fail
      go_ret
      have := HF.out
      rw [← HTK.out] at this
      exact this
end Go.Proofs.Ytcghgnncmnoalaa
