/- Appending a string, or bytes, to a call's own bytes, at a step of a region that draws its order. Conditions: each law's own premises. -/
import Derived.Test.YtcafedfldmcbiaaWb10
import Derived.Deep.AppendSrc
namespace Go.Proofs.Ytcafedfldmcbiaa
open Go.RowKit Go.Maps

theorem byteCells_bv (s : ByteArray) : byteCells s = s.data.toList.map bv := rfl
/-- 'append(b, s...)' of a string, b the call's own -/
theorem run_appS (w : World) (ty : TypeId) (B : Nat) (v : Value) (l : List UInt8) (hown : BsO w B v l) (hne : l ≠ []) (s : ByteArray) (hlen : l.length + s.size ≤ 4000000) (hB : B ≤ w.heap.size) :
    ∃ v' w', (Builtin.append_ #[46, 9] ty #[v, .string s]).run Try.prog w = .ok v' w' ∧ BsO w' B v' (l ++ s.data.toList) ∧ w.grownBy w' v.ownBlock ∧ (v'.ownBlock = v.ownBlock ∨ v'.ownBlock = some w.heap.size) := by
  obtain ⟨i0, hi, hz0, hz1, hz2⟩ := info_parts infoU8
  have hs : Src Try.prog i0.size 9 (.string s) s.size (byteCells s) w := by rw [hz1]; exact Src.ofString w Try.underlying9 s
  have hbl : (byteCells s).length = s.size := byteCells_length s
  have hll : (l ++ s.data.toList).length = l.length + s.size := by rw [List.length_append]; rfl
  rcases hown.2 with ⟨_, h0⟩ | ⟨g, cap, cur, rfl, hbg, hg, hnc, hcm, hcs, htake⟩
  · exact absurd (List.eq_nil_of_length_eq_zero h0) hne
  rw [Nat.mul_one] at hcs htake
  by_cases hroom : l.length + s.size ≤ cap
  · have hst := run_storeCells_at Try.prog g l.length 5 (byteCells s) 0 cur w hg (by rw [hbl]; omega) hs.one
    simp only [Nat.add_zero] at hst
    have hr : (Builtin.append_ #[46, 9] ty #[.slice (some ⟨g, 0, none⟩) l.length cap, .string s]).run Try.prog w = .ok (.slice (some ⟨g, 0, none⟩) (l.length + s.size) cap) (w.setRow g (cur.toList.take l.length ++ byteCells s ++ cur.toList.drop (l.length + (byteCells s).length)).toArray) := by
      have hf := hs.cells
      rw [hz1] at hf
      simp [Builtin.append_, run_underlying Try.underlying46, run_underlying Try.underlying9, sizeOf, typeInfo, hi, hz1, hs.len, hroom, hf, Addr.add_lit, hst]
    refine ⟨_, _, hr, ⟨by simp, .inr ⟨g, cap, _, by rw [hll], hbg, setRow_heap w g cur _ 5 _ hg, by omega, hcm, ?_, ?_⟩⟩, ⟨rfl, rfl, rfl, by simp, fun k _ hk => setRow_other w g k _ (fun e => hk (by simp [Value.ownBlock, e]))⟩, Or.inl rfl⟩
    · simp only [List.size_toArray, List.length_append, List.length_take, List.length_drop, Array.length_toList]
      omega
    · rw [htake, List.map_append, byteCells_bv, Nat.mul_one]
      have : (l ++ s.data.toList).length = (List.map bv l ++ List.map bv s.data.toList).length := by simp
      rw [this]
      exact List.take_left
  · have holds : ∀ (j : Nat) (u : Value), (l.map bv)[j]? = some u → w.cell? ((⟨g, 0, none⟩ : Addr).add j) = some u := hown.cells (g := g) rfl
    have hold := run_firstCells_some (P := Try.prog) w.drew i0.size l.length ⟨g, 0, none⟩ l.length cap (l.map bv) (by rw [hz1]; simp) (by simpa using holds)
    have hr := run_append_grow_src (P := Try.prog) w 46 9 ty 5 i0 _ Try.underlying46 hi hz0 (some ⟨g, 0, none⟩) l.length cap (l.map bv) hold (.string s) s.size (byteCells s) hs (by omega) (by omega) (growslice_fits (by omega) (by rw [hz2]; omega))
    have hge := grownCap_ge w (l.length + s.size) cap 5
    have hgm : grownCap w (l.length + s.size) cap 5 ≤ maxLen := grownCap_le_maxLen w (l.length + s.size) cap 5 (by unfold maxLen; omega)
    refine ⟨_, _, hr, ⟨by simp, .inr ⟨w.heap.size, _, _, by rw [hll], hB, heap_alloc_new w.drew _, by rw [hll]; exact hge, hgm, ?_, ?_⟩⟩, ⟨rfl, rfl, rfl, by simp, fun k hk _ => heap_alloc_old w.drew _ hk⟩, Or.inr rfl⟩
    · simp only [Array.size_append, List.size_toArray, size_zeroCells, List.length_append, hbl, List.length_map]
      show l.length + s.size + (grownCap w (l.length + s.size) cap 5 - (l.length + s.size)) * 1 = grownCap w (l.length + s.size) cap 5 * 1
      omega
    · simp only [Array.toList_append, List.append_assoc]
      rw [List.map_append, byteCells_bv, ← List.append_assoc, Nat.mul_one]
      have : (l ++ s.data.toList).length = (List.map bv l ++ List.map bv s.data.toList).length := by simp
      rw [this]
      exact List.take_left
/-- at a step -/
theorem step_appS (w : World) {ops : Array Oper} {o : Oper} {a : Act} {K : Act → World → Prop} {Q : Exit → Act → World → Prop} {E : Prop} (hgd : o.guard = none) (s x : Operand)
    (ho : o.op = .call { callee := .builtin .append, args := #[s, x], argTypes := #[46, 9] }) (B : Nat) (v : Value) (l : List UInt8) (hs : a.eval s = v) (hown : BsO w B v l) (hne : l ≠ [])
    (t : ByteArray) (hx : a.eval x = .string t) (hlen : l.length + t.size ≤ 4000000) (hB : B ≤ w.heap.size)
    (h : ∀ v' w', BsO w' B v' (l ++ t.data.toList) → Below B w w' → w.grownBy w' v.ownBlock → (v'.ownBlock = v.ownBlock ∨ v'.ownBlock = some w.heap.size) → K (a.put o.dst v') w') :
    if Region.wanted o (yielded ops a.tmps) = true then Oper.wp Try.prog o a w K Q else E := by
  have hw : Region.wanted o (yielded ops a.tmps) = true := by simp [Region.wanted, hgd]
  rw [if_pos hw]
  obtain ⟨v', w', hr, h2, h3, h4⟩ := run_appS w o.type B v l hown hne t hlen hB
  unfold Oper.wp execOp
  simp only [ho, resolve, invoke, builtin, Sem.run_bind, Sem.run_pure, Result.andThen_ok, List.map_toArray, List.map_cons, List.map_nil, hs, hx, hr]
  exact h v' w' h2 (below_grown hown h3 hB) h3 h4
theorem step_appB (w : World) {ops : Array Oper} {o : Oper} {a : Act} {K : Act → World → Prop} {Q : Exit → Act → World → Prop} {E : Prop} (hgd : o.guard = none) (s x : Operand)
    (ho : o.op = .call { callee := .builtin .append, args := #[s, x], argTypes := #[46, 46] }) (B : Nat) (v : Value) (l : List UInt8) (hs : a.eval s = v) (hown : BsO w B v l)
    (ad : Addr) (m c : Nat) (news : List UInt8) (hx : a.eval x = .slice (some ad) m c) (hm : news.length = m) (hnews : ∀ j (hj : j < news.length), w.cell? (ad.add j) = some (.int .u8 (news[j].toNat : Int)))
    (hlen : l.length + news.length ≤ 4000000) (hB : B ≤ w.heap.size)
    (h : ∀ v' w', BsO w' B v' (l ++ news) → Below B w w' → w.grownBy w' v.ownBlock → (v'.ownBlock = v.ownBlock ∨ v'.ownBlock = some w.heap.size) → K (a.put o.dst v') w') :
    if Region.wanted o (yielded ops a.tmps) = true then Oper.wp Try.prog o a w K Q else E := by
  have hw : Region.wanted o (yielded ops a.tmps) = true := by simp [Region.wanted, hgd]
  rw [if_pos hw]
  obtain ⟨i0, hi, hz0, hz1, hz2⟩ := info_parts infoU8
  obtain ⟨v', w', hr, h2, h3, _, h5⟩ := run_append_own_at (P := Try.prog) w B 46 o.type 5 i0 _ 1 1 Try.underlying46 hi hz0 hz1 hz2 rfl (by omega) v l.length (l.map bv) hown ad m c (news.map bv) (by simp [hm])
    (by
      intro j u hu
      simp at hu
      obtain ⟨y, hy, rfl⟩ := hu
      obtain ⟨hj, rfl⟩ := List.getElem?_eq_some_iff.1 hy
      exact hnews j hj) bv_one (by unfold maxLen; omega) (by omega) hB
  unfold Oper.wp execOp
  simp only [ho, resolve, invoke, builtin, Sem.run_bind, Sem.run_pure, Result.andThen_ok, List.map_toArray, List.map_cons, List.map_nil, hs, hx, hr]
  refine h v' w' ?_ (below_grown hown h3 hB) h3 h5
  unfold BsO
  rw [List.length_append, hm, List.map_append]
  exact h2
end Go.Proofs.Ytcafedfldmcbiaa
