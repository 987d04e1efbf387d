/- The reference of layer 2 (cobwebref02) and cobwebref21.Five: Right, Order, Compare, Bytes. Conditions: each contract's own premises. The reference's bytes of a value (cobwebref02.Bytes) and five bytes of a number (cobwebref21.Five); web.Span. Conditions: each contract's own premises. The bytes of values are ordered as the values are: plain facts. No program here beyond plain values. WebSpans: the walk. Conditions: the theorem's own premises. Layer 21: small lists of properties (cobweblaw21.props), as they come in. Conditions: each contract's own premises. Appending a string, or bytes, to a call's own bytes, at a step of a region that draws its order. Conditions: each law's own premises. -/
import Derived.Test.YtkbmipmegljidaaGreatWsD
import Derived.Test.YtkbmipmegljidaaGreatWsK
import Derived.Test.YtkbmipmegljidaaGreatWb7
import Derived.Laws.AppendOwnNone
import Derived.Test.YtkbmipmegljidaaGreatGr1
import Derived.Test.YtkbmipmegljidaaGreatWsM
import Derived.Test.YtkbmipmegljidaaGreatWsN
import Derived.Deep.AppendSrc
namespace Go.Proofs.YtkbmipmegljidaaGreat
open Go.RowKit Go.Maps

/-- two values -/
def Vl.cmp (a b : Vl) : Int := if a.kind = b.kind then (if a.n = b.n then Lib.compareBytes a.s.data.toList b.s.data.toList else if a.n < b.n then -1 else 1) else if a.kind < b.kind then -1 else 1
end Go.Proofs.YtkbmipmegljidaaGreat
namespace Go.Proofs.YtkbmipmegljidaaGreat
open Go.RowKit Go.Maps

theorem BsO.one {w : World} {B : Nat} {x : Value} {b : UInt8} (hB : B ≤ w.heap.size) (h : x = bv b) : BsO (w.alloc (.cells #[x] 5)) B (.slice (some ⟨w.heap.size, 0, none⟩) 1 1) [b] := by
  subst h
  exact BsO.new (l := [b]) (heap_new w _) hB rfl (by unfold maxLen; simp)

theorem bytes_ne (v : Vl) : v.bytes ≠ [] := by unfold Vl.bytes; split <;> simp
theorem bytes_len {v : Vl} (h : v.right = true) : v.bytes.length ≤ 1000 := by
  unfold Vl.bytes
  split
  · simp [numBytes, eight]
  · next hn =>
    have ht : v.isT = true := by unfold Vl.right at h; simp at hn; rw [hn] at h; simpa using h
    have hs : v.s.size ≤ 200 := by unfold Vl.isT at ht; simp at ht; exact ht.2
    have := escL_len v.s.data.toList
    simp at this ⊢
    omega
end Go.Proofs.YtkbmipmegljidaaGreat
namespace Go.Proofs.YtkbmipmegljidaaGreat
open Go.RowKit Go.Maps

theorem cmpB_cons_same (b : UInt8) (x y : List UInt8) : Lib.compareBytes (b :: x) (b :: y) = Lib.compareBytes x y := by
  conv => lhs; unfold Lib.compareBytes
  have : ¬ b < b := by rw [UInt8.lt_iff_toNat_lt]; omega
  rw [if_neg this, if_neg this]
theorem cmpB_lt {b c : UInt8} (h : b < c) (x y : List UInt8) : Lib.compareBytes (b :: x) (c :: y) = -1 := by
  unfold Lib.compareBytes; rw [if_pos h]
theorem cmpB_gt {b c : UInt8} (h : c < b) (x y : List UInt8) : Lib.compareBytes (b :: x) (c :: y) = 1 := by
  unfold Lib.compareBytes
  have : ¬ b < c := by rw [UInt8.lt_iff_toNat_lt] at *; omega
  rw [if_neg this, if_pos h]
theorem u8_ways (b c : UInt8) : b < c ∨ b = c ∨ c < b := by
  rcases Nat.lt_trichotomy b.toNat c.toNat with h | h | h
  · exact .inl (UInt8.lt_iff_toNat_lt.2 h)
  · exact .inr (.inl (UInt8.toNat_inj.1 h))
  · exact .inr (.inr (UInt8.lt_iff_toNat_lt.2 h))
theorem numL_eight {u : Nat} (h : u < 18446744073709551616) : numL (eight u) = u := by
  simp [numL, eight]
  omega
theorem numL_five {n : Nat} (h : n < 1099511627776) : numL (fiveL n) = n := by
  simp [numL, fiveL]
  omega
theorem cmpBS_zero : ∀ {a b : List UInt8}, Lib.compareBytes a b = 0 → a = b
  | [], [], _ => rfl
  | [], _ :: _, h => by simp [Lib.compareBytes] at h
  | _ :: _, [], h => by simp [Lib.compareBytes] at h
  | x :: a, y :: b, h => by
    rcases u8_ways x y with e | e | e
    · rw [cmpB_lt e] at h; cases h
    · subst e; rw [cmpB_cons_same] at h; rw [cmpBS_zero h]
    · rw [cmpB_gt e] at h; cases h
theorem cmpBS_neg : ∀ (a b : List UInt8), Lib.compareBytes b a = - Lib.compareBytes a b
  | [], [] => rfl
  | [], _ :: _ => rfl
  | _ :: _, [] => rfl
  | x :: a, y :: b => by
    rcases u8_ways x y with e | e | e
    · rw [cmpB_lt e, cmpB_gt e]; rfl
    · subst e; rw [cmpB_cons_same, cmpB_cons_same, cmpBS_neg a b]
    · rw [cmpB_gt e, cmpB_lt e]
theorem Vl.cmp_neg (a b : Vl) : b.cmp a = - a.cmp b := by
  unfold Vl.cmp
  by_cases h1 : a.kind = b.kind
  · rw [if_pos h1, if_pos h1.symm]
    by_cases h2 : a.n = b.n
    · rw [if_pos h2, if_pos h2.symm]; exact cmpBS_neg _ _
    · rw [if_neg h2, if_neg (Ne.symm h2)]
      by_cases h3 : a.n < b.n
      · rw [if_pos h3, if_neg (by omega)]; rfl
      · rw [if_neg h3, if_pos (by omega)]
  · rw [if_neg h1, if_neg (Ne.symm h1)]
    by_cases h3 : a.kind < b.kind
    · rw [if_pos h3, if_neg (by omega)]; rfl
    · rw [if_neg h3, if_pos (by omega)]
theorem Vl.cmp_zero {a b : Vl} (h : a.cmp b = 0) : a = b := by
  unfold Vl.cmp at h
  by_cases h1 : a.kind = b.kind
  · rw [if_pos h1] at h
    by_cases h2 : a.n = b.n
    · rw [if_pos h2] at h
      have := cmpBS_zero h
      cases a; cases b
      simp only at h1 h2 this
      subst h1 h2
      congr 1
      apply ByteArray.ext
      apply Array.ext'
      exact this
    · rw [if_neg h2] at h
      split at h <;> cases h
  · rw [if_neg h1] at h
    split at h <;> cases h
end Go.Proofs.YtkbmipmegljidaaGreat
namespace Go.Proofs.YtkbmipmegljidaaGreat
open Go.RowKit Go.Maps

end Go.Proofs.YtkbmipmegljidaaGreat
namespace Go.Proofs.YtkbmipmegljidaaGreat
open Go.RowKit Go.Maps

set_option maxHeartbeats 1000000 in
theorem props21_any (a : Option Addr) (cap : Nat) (ps : List Pr) (w : World) (h : PrV w a ps) (hm : ps.length ≤ maxLen) :
    Calls Tryz.prog 5 #[.slice a ps.length cap] w fun e w' => e = .returned (.bool (smallP ps)) ∧ w = w' := by
  unfold maxLen at hm
  by_cases h30 : 30 < ps.length
  · have HS := Lib.hid (smallP_many h30)
    go_enter Tryz.func5, Tryz.ntmps5
    go_wp2_with fail
    go_ret
    exact ⟨by rw [HS.out]; rfl, rfl⟩
  have h30' : ps.length ≤ 30 := by omega
  clear h30
  go_enter Tryz.func5, Tryz.ntmps5
  go_wp2_with fail
  go_loopw [3] (fun i wr => wr = w ∧ ∃ j : Nat, j ≤ ps.length ∧ i = .int .i64 j ∧ ∀ (k : Nat) (p : Pr), k < j → ps[k]? = some p → p.key.size ≤ 100 ∧ p.v.s.size ≤ 300) (fun i _ => ps.length - (intOf i).toNat)
  case atStart => exact ⟨rfl, 0, by omega, rfl, fun k p hk => by omega⟩
  case round =>
    obtain ⟨rfl, j, hj, rfl, hall⟩ := hrel
    have HALL := Lib.hid hall
    clear hall
    by_cases hlt : j < ps.length
    · obtain ⟨p, hp⟩ : ∃ p, ps[j]? = some p := ⟨ps[j], List.getElem?_eq_getElem hlt⟩
      obtain ⟨b, off, rfl, hat⟩ := h (fun e => by rw [e] at hlt; simp at hlt)
      obtain ⟨q0, q1, q2, q3⟩ := hat.cells j p hp
      have hr := hat.raw p (List.mem_of_getElem? hp)
      have r1 := hr.1
      have r2 := hr.2.s
      unfold maxLen at r1 r2
      have hlb := hat.lt
      have HP := Lib.hid hp
      clear hat hp hr h
      by_cases k1 : 100 < p.key.size
      · have HS := Lib.hid (smallP_no HP.out (.inl k1))
        go_wp2_with fail
        go_ret
        exact ⟨by rw [HS.out]; rfl, rfl⟩
      · by_cases k2 : 300 < p.v.s.size
        · have HS := Lib.hid (smallP_no HP.out (.inr k2))
          go_wp2_with fail
          go_ret
          exact ⟨by rw [HS.out]; rfl, rfl⟩
        · have HA : Hid (∀ (k : Nat) (p : Pr), k < j + 1 → ps[k]? = some p → p.key.size ≤ 100 ∧ p.v.s.size ≤ 300) := Lib.hid (fun k q hk hq => by
            by_cases e : k = j
            · subst e
              obtain rfl : p = q := Option.some.inj (HP.out.symm.trans hq)
              omega
            · exact HALL.out k q (by omega) hq)
          go_wp2_with fail
          exact ⟨⟨trivial, j + 1, by omega, by go_num, HA.out⟩, by simp [intOf]; omega⟩
    · have HS := Lib.hid (smallP_yes h30' (fun i p hp => HALL.out i p (by have := (List.getElem?_eq_some_iff.1 hp).1; omega) hp))
      go_wp2_with fail
      go_ret
      exact ⟨by rw [HS.out]; rfl, rfl⟩
end Go.Proofs.YtkbmipmegljidaaGreat
namespace Go.Proofs.YtkbmipmegljidaaGreat
open Go.RowKit Go.Maps

theorem byteCells_bv (s : ByteArray) : byteCells s = s.data.toList.map bv := rfl
/-- 'append(b, s...)' of a string, b the call's own -/
theorem run_appS (w : World) (ty : TypeId) (B : Nat) (v : Value) (l : List UInt8) (hown : BsO w B v l) (hne : l ≠ []) (s : ByteArray) (hlen : l.length + s.size ≤ 4000000) (hB : B ≤ w.heap.size) :
    ∃ v' w', (Builtin.append_ #[102, 9] ty #[v, .string s]).run Tryz.prog w = .ok v' w' ∧ BsO w' B v' (l ++ s.data.toList) ∧ w.grownBy w' v.ownBlock ∧ (v'.ownBlock = v.ownBlock ∨ v'.ownBlock = some w.heap.size) := by
  obtain ⟨i0, hi, hz0, hz1, hz2⟩ := info_parts infoU8
  have hs : Src Tryz.prog i0.size 9 (.string s) s.size (byteCells s) w := by rw [hz1]; exact Src.ofString w Tryz.underlying9 s
  have hbl : (byteCells s).length = s.size := byteCells_length s
  have hll : (l ++ s.data.toList).length = l.length + s.size := by rw [List.length_append]; rfl
  rcases hown.2 with ⟨_, h0⟩ | ⟨g, cap, cur, rfl, hbg, hg, hnc, hcm, hcs, htake⟩
  · exact absurd (List.eq_nil_of_length_eq_zero h0) hne
  rw [Nat.mul_one] at hcs htake
  by_cases hroom : l.length + s.size ≤ cap
  · have hst := run_storeCells_at Tryz.prog g l.length 5 (byteCells s) 0 cur w hg (by rw [hbl]; omega) hs.one
    simp only [Nat.add_zero] at hst
    have hr : (Builtin.append_ #[102, 9] ty #[.slice (some ⟨g, 0, none⟩) l.length cap, .string s]).run Tryz.prog w = .ok (.slice (some ⟨g, 0, none⟩) (l.length + s.size) cap) (w.setRow g (cur.toList.take l.length ++ byteCells s ++ cur.toList.drop (l.length + (byteCells s).length)).toArray) := by
      have hf := hs.cells
      rw [hz1] at hf
      simp [Builtin.append_, run_underlying Tryz.underlying102, run_underlying Tryz.underlying9, sizeOf, typeInfo, hi, hz1, hs.len, hroom, hf, Addr.add_lit, hst]
    refine ⟨_, _, hr, ⟨by simp, .inr ⟨g, cap, _, by rw [hll], hbg, setRow_heap w g cur _ 5 _ hg, by omega, hcm, ?_, ?_⟩⟩, ⟨rfl, rfl, rfl, by simp, fun k _ hk => setRow_other w g k _ (fun e => hk (by simp [Value.ownBlock, e]))⟩, Or.inl rfl⟩
    · simp only [List.size_toArray, List.length_append, List.length_take, List.length_drop, Array.length_toList]
      omega
    · rw [htake, List.map_append, byteCells_bv, Nat.mul_one]
      have : (l ++ s.data.toList).length = (List.map bv l ++ List.map bv s.data.toList).length := by simp
      rw [this]
      exact List.take_left
  · have holds : ∀ (j : Nat) (u : Value), (l.map bv)[j]? = some u → w.cell? ((⟨g, 0, none⟩ : Addr).add j) = some u := hown.cells (g := g) rfl
    have hold := run_firstCells_some (P := Tryz.prog) w.drew i0.size l.length ⟨g, 0, none⟩ l.length cap (l.map bv) (by rw [hz1]; simp) (by simpa using holds)
    have hr := run_append_grow_src (P := Tryz.prog) w 102 9 ty 5 i0 _ Tryz.underlying102 hi hz0 (some ⟨g, 0, none⟩) l.length cap (l.map bv) hold (.string s) s.size (byteCells s) hs (by omega) (by omega) (growslice_fits (by omega) (by rw [hz2]; omega))
    have hge := grownCap_ge w (l.length + s.size) cap 5
    have hgm : grownCap w (l.length + s.size) cap 5 ≤ maxLen := grownCap_le_maxLen w (l.length + s.size) cap 5 (by unfold maxLen; omega)
    refine ⟨_, _, hr, ⟨by simp, .inr ⟨w.heap.size, _, _, by rw [hll], hB, heap_alloc_new w.drew _, by rw [hll]; exact hge, hgm, ?_, ?_⟩⟩, ⟨rfl, rfl, rfl, by simp, fun k hk _ => heap_alloc_old w.drew _ hk⟩, Or.inr rfl⟩
    · simp only [Array.size_append, List.size_toArray, size_zeroCells, List.length_append, hbl, List.length_map]
      show l.length + s.size + (grownCap w (l.length + s.size) cap 5 - (l.length + s.size)) * 1 = grownCap w (l.length + s.size) cap 5 * 1
      omega
    · simp only [Array.toList_append, List.append_assoc]
      rw [List.map_append, byteCells_bv, ← List.append_assoc, Nat.mul_one]
      have : (l ++ s.data.toList).length = (List.map bv l ++ List.map bv s.data.toList).length := by simp
      rw [this]
      exact List.take_left
/-- at a step -/
theorem step_appS (w : World) {ops : Array Oper} {o : Oper} {a : Act} {K : Act → World → Prop} {Q : Exit → Act → World → Prop} {E : Prop} (hgd : o.guard = none) (s x : Operand)
    (ho : o.op = .call { callee := .builtin .append, args := #[s, x], argTypes := #[102, 9] }) (B : Nat) (v : Value) (l : List UInt8) (hs : a.eval s = v) (hown : BsO w B v l) (hne : l ≠ [])
    (t : ByteArray) (hx : a.eval x = .string t) (hlen : l.length + t.size ≤ 4000000) (hB : B ≤ w.heap.size)
    (h : ∀ v' w', BsO w' B v' (l ++ t.data.toList) → Below B w w' → w.grownBy w' v.ownBlock → (v'.ownBlock = v.ownBlock ∨ v'.ownBlock = some w.heap.size) → K (a.put o.dst v') w') :
    if Region.wanted o (yielded ops a.tmps) = true then Oper.wp Tryz.prog o a w K Q else E := by
  have hw : Region.wanted o (yielded ops a.tmps) = true := by simp [Region.wanted, hgd]
  rw [if_pos hw]
  obtain ⟨v', w', hr, h2, h3, h4⟩ := run_appS w o.type B v l hown hne t hlen hB
  unfold Oper.wp execOp
  simp only [ho, resolve, invoke, builtin, Sem.run_bind, Sem.run_pure, Result.andThen_ok, List.map_toArray, List.map_cons, List.map_nil, hs, hx, hr]
  exact h v' w' h2 (below_grown hown h3 hB) h3 h4
theorem step_appB (w : World) {ops : Array Oper} {o : Oper} {a : Act} {K : Act → World → Prop} {Q : Exit → Act → World → Prop} {E : Prop} (hgd : o.guard = none) (s x : Operand)
    (ho : o.op = .call { callee := .builtin .append, args := #[s, x], argTypes := #[102, 102] }) (B : Nat) (v : Value) (l : List UInt8) (hs : a.eval s = v) (hown : BsO w B v l)
    (ad : Addr) (m c : Nat) (news : List UInt8) (hx : a.eval x = .slice (some ad) m c) (hm : news.length = m) (hnews : ∀ j (hj : j < news.length), w.cell? (ad.add j) = some (.int .u8 (news[j].toNat : Int)))
    (hlen : l.length + news.length ≤ 4000000) (hB : B ≤ w.heap.size)
    (h : ∀ v' w', BsO w' B v' (l ++ news) → Below B w w' → w.grownBy w' v.ownBlock → (v'.ownBlock = v.ownBlock ∨ v'.ownBlock = some w.heap.size) → K (a.put o.dst v') w') :
    if Region.wanted o (yielded ops a.tmps) = true then Oper.wp Tryz.prog o a w K Q else E := by
  have hw : Region.wanted o (yielded ops a.tmps) = true := by simp [Region.wanted, hgd]
  rw [if_pos hw]
  obtain ⟨i0, hi, hz0, hz1, hz2⟩ := info_parts infoU8
  obtain ⟨v', w', hr, h2, h3, _, h5⟩ := run_append_own_at (P := Tryz.prog) w B 102 o.type 5 i0 _ 1 1 Tryz.underlying102 hi hz0 hz1 hz2 rfl (by omega) v l.length (l.map bv) hown ad m c (news.map bv) (by simp [hm])
    (by
      intro j u hu
      simp at hu
      obtain ⟨y, hy, rfl⟩ := hu
      obtain ⟨hj, rfl⟩ := List.getElem?_eq_some_iff.1 hy
      exact hnews j hj) bv_one (by unfold maxLen; omega) (by omega) hB
  unfold Oper.wp execOp
  simp only [ho, resolve, invoke, builtin, Sem.run_bind, Sem.run_pure, Result.andThen_ok, List.map_toArray, List.map_cons, List.map_nil, hs, hx, hr]
  refine h v' w' ?_ (below_grown hown h3 hB) h3 h5
  unfold BsO
  rw [List.length_append, hm, List.map_append]
  exact h2
end Go.Proofs.YtkbmipmegljidaaGreat
