/- Bytes in memory, bytes of the call's own; conversions and appends at the operation. Conditions: each lemma's own premises. -/
import Derived.Test.YtcghgnncmnoalaaWb0
import Derived.Laws.Concat
import Derived.Laws.BitsAllLaws
import Derived.Maps.AppendAt
import Derived.Lib.AppendStr
import Derived.Deep.AppendSrc
namespace Go.Proofs.Ytcghgnncmnoalaa
open Go.RowKit Go.Maps

/-- a byte as a value -/
def bv (b : UInt8) : Value := .int .u8 (b.toNat : Int)
/-- 'string(b)' at the operation, b's cells known -/
theorem wpList_toStr (w : World) {ops : Array Oper} {rest : List Oper} {o : Oper} {a : Act} {Q : Exit → Act → World → Prop} (hg : o.guard = none) (x : Operand) (hop : o.op = Op.convert 22 9 x) (ad : Addr) (n cap : Nat) (l : List UInt8) (hx : a.eval x = .slice (some ad) n cap) (hn : n = l.length)
    (hc : ∀ j (hj : j < l.length), w.cell? (ad.add j) = some (.int .u8 (l[j].toNat : Int))) (hK : wpList Try.prog ops Q rest (a.put o.dst (.string ⟨l.toArray⟩)) w) :
    wpList Try.prog ops Q (o :: rest) a w := by
  subst hn
  refine wpList_plain hg fun K' hK' => ?_
  have hrun := run_convert_bytes_back (P := Try.prog) w 22 9 5 ad cap l Try.underlying22 Try.underlying5 Try.underlying9 hc
  unfold Oper.wp
  simp [execOp, hop, hx, hrun, Result.andThen]
  exact hK' _ _ hK
/-- bytes in memory -/
structure BsAt (w : World) (b off : Nat) (l : List UInt8) : Prop where
  cells : ∀ (i : Nat) (x : UInt8), l[i]? = some x → w.cell? ⟨b, off + i, none⟩ = some (bv x)
  lt : b < w.heap.size
theorem BsAt.of_block {w w' : World} {b off : Nat} {l : List UInt8} (h : BsAt w b off l) (hb : w'.heap[b]? = w.heap[b]?) : BsAt w' b off l :=
  ⟨fun i x hx => (World.cell?_of_block (a := ⟨b, off + i, none⟩) hb).trans (h.cells i x hx), (Array.getElem?_eq_some_iff.1 (hb.trans (Array.getElem?_eq_getElem h.lt))).1⟩
theorem BsAt.conv {w : World} {b off : Nat} {l : List UInt8} (h : BsAt w b off l) : ∀ j (hj : j < l.length), w.cell? ((⟨b, off, none⟩ : Addr).add j) = some (.int .u8 (l[j].toNat : Int)) := fun j hj => by
  rw [add_none]; exact h.cells j l[j] (List.getElem?_eq_getElem hj)
/-- '[]byte(s)' at the operation -/
theorem wpList_toBytes (w : World) {ops : Array Oper} {rest : List Oper} {o : Oper} {a : Act} {Q : Exit → Act → World → Prop} (hg : o.guard = none) (x : Operand) (hop : o.op = Op.convert 9 22 x) (s : ByteArray) (hx : a.eval x = .string s)
    (hK : ∀ w1 cap, BsAt w1 w.heap.size 0 s.data.toList → Below w.heap.size w w1 → w1.heap.size = w.heap.size + 1 → s.size ≤ cap → wpList Try.prog ops Q rest (a.put o.dst (.slice (some ⟨w.heap.size, 0, none⟩) s.size cap)) w1) :
    wpList Try.prog ops Q (o :: rest) a w := by
  refine wpList_plain hg fun K' hK' => ?_
  have hrun := run_bytes_of_string (P := Try.prog) w 9 22 5 s Try.underlying9 Try.underlying22 Try.underlying5
  unfold Oper.wp
  simp [execOp, hop, hx, hrun, Result.andThen]
  refine hK' _ _ (hK _ _ ⟨fun i y hy => ?_, by simp⟩ ?_ (by simp) ?_)
  · have hb := heap_new w.drew (.cells (bytesRow s (grownCap w s.size 0 5)) 5 ((bytesRow s (grownCap w s.size 0 5)).size, (bytesRow s (grownCap w s.size 0 5)).size + 1))
    rw [Nat.zero_add]
    refine (cell_of_blk hb i).trans ?_
    obtain ⟨hi, e⟩ := List.getElem?_eq_some_iff.1 hy
    have hi' : i < s.data.size := by simpa using hi
    rw [bytesRow_at s _ i hi']
    have : s.data[i] = y := by rw [← e]; simp
    rw [this]; rfl
  · exact ((Below.refl _ _).drew).alloc (Nat.le_refl _) _
  · exact grownCap_ge w s.size 0 5
/-- bytes as a number -/
def numL (l : List UInt8) : Nat := l.foldl (fun n b => n * 256 + b.toNat) 0
theorem numL_snoc {l : List UInt8} {k : Nat} (h : k < l.length) : numL (l.take (k + 1)) = numL (l.take k) * 256 + (l[k]).toNat := by
  unfold numL
  rw [List.take_succ_eq_append_getElem h, List.foldl_append]; rfl
theorem numL_take (l : List UInt8) : ∀ k, k ≤ l.length → numL (l.take k) < 256 ^ k
  | 0, _ => by simp [numL]
  | k + 1, h => by
    have ih := numL_take l k (by omega)
    have hb := (l[k]'(by omega)).toNat_lt
    rw [numL_snoc (by omega), Nat.pow_succ]
    omega
theorem infoU8 : (Try.prog.info? 5).map (fun i => (i.zero, i.size, i.bytes)) = some (some (.int .u8 0), 1, 1) := by kernel_rfl
/-- a slice value that owns bytes, in a block from B on -/
def BsO (w : World) (B : Nat) (v : Value) (l : List UInt8) : Prop := w.ownsRow B 5 1 v l.length (l.map bv)
theorem bv_one {l : List UInt8} : ∀ u ∈ l.map bv, u.oneCell' = true := fun u hu => by
  obtain ⟨b, _, rfl⟩ := List.mem_map.1 hu
  rfl
theorem BsO.below {w w' : World} {B : Nat} {v : Value} {l : List UInt8} (h : BsO w B v l) (hb : Below w.heap.size w w') : BsO w' B v l :=
  ownsRow_of_block h (fun k hk => hb.block k (h.lt k hk).2)
theorem BsO.alloc {w : World} {B : Nat} {v : Value} {l : List UInt8} (h : BsO w B v l) (X : Obj) : BsO (w.alloc X) B v l := h.below (below_box w X)
theorem BsO.drew {w : World} {B : Nat} {v : Value} {l : List UInt8} (h : BsO w B v l) : BsO w.drew B v l := ownsRow_of_block h (fun _ _ => rfl)
theorem BsO.mono {w : World} {B B' : Nat} {v : Value} {l : List UInt8} (h : BsO w B v l) (hB : B' ≤ B) : BsO w B' v l := by
  refine ⟨h.1, ?_⟩
  rcases h.2 with h' | ⟨g, cap, cur, h1, h2, r⟩
  · exact .inl h'
  · exact .inr ⟨g, cap, cur, h1, by omega, r⟩
/-- a block that was just laid -/
theorem BsO.new {w : World} {b B : Nat} {cs : Array Value} {l : List UInt8} (hb : w.heap[b]? = some (.cells cs 5 (0, 0))) (hB : B ≤ b) (hc : cs.toList = l.map bv) (hl : l.length ≤ maxLen) : BsO w B (.slice (some ⟨b, 0, none⟩) l.length l.length) l := by
  refine ⟨by simp, .inr ⟨b, l.length, cs, rfl, hB, hb, Nat.le_refl _, hl, ?_, ?_⟩⟩
  · have := congrArg List.length hc; simpa using this
  · rw [hc]; exact List.take_of_length_le (by simp)
theorem BsO.at' {w : World} {B : Nat} {v : Value} {l : List UInt8} (h : BsO w B v l) (hl : l ≠ []) : ∃ b cap, v = .slice (some ⟨b, 0, none⟩) l.length cap ∧ B ≤ b ∧ BsAt w b 0 l := by
  rcases h.2 with ⟨_, h'⟩ | ⟨g, cap, cur, h1, h2, h3, h4, h5, h6, h7⟩
  · exact absurd (List.eq_nil_of_length_eq_zero h') hl
  · refine ⟨g, cap, h1, h2, ⟨fun i x hx => ?_, (Array.getElem?_eq_some_iff.1 h3).1⟩⟩
    have := h.cells (g := g) (by rw [h1]; rfl) i (bv x) (by simp [hx])
    rw [add_none] at this
    exact this
theorem below_grown {w w' : World} {B : Nat} {v : Value} {l : List UInt8} (h : BsO w B v l) (hg : w.grownBy w' v.ownBlock) (hB : B ≤ w.heap.size) : Below B w w' :=
  ⟨hg.os, hg.tape, hg.output, hg.size, fun k hk => hg.block k (by omega) (fun e => by have := (h.lt k e.symm).1; omega)⟩
/-- 'append(b, x...)' of bytes, b the call's own -/
theorem wpList_appB (w : World) {ops : Array Oper} {rest : List Oper} {o : Oper} {a : Act} {Q : Exit → Act → World → Prop} (hgd : o.guard = none) (s x : Operand)
    (ho : o.op = .call { callee := .builtin .append, args := #[s, x], argTypes := #[22, 22] }) (B : Nat) (v : Value) (l : List UInt8) (hs : a.eval s = v) (hown : BsO w B v l)
    (ad : Addr) (m c : Nat) (news : List UInt8) (hx : a.eval x = .slice (some ad) m c) (hm : news.length = m) (hnews : ∀ j (hj : j < news.length), w.cell? (ad.add j) = some (.int .u8 (news[j].toNat : Int)))
    (hlen : l.length + news.length ≤ 4000000) (hB : B ≤ w.heap.size)
    (h : ∀ v' w', BsO w' B v' (l ++ news) → Below B w w' → w.grownBy w' v.ownBlock → (v'.ownBlock = v.ownBlock ∨ v'.ownBlock = some w.heap.size) → wpList Try.prog ops Q rest (a.put o.dst v') w') :
    wpList Try.prog ops Q (o :: rest) a w := by
  obtain ⟨i0, hi, hz0, hz1, hz2⟩ := info_parts infoU8
  refine wpList_append_own_at w hgd s x 22 ho B 5 i0 _ 1 1 Try.underlying22 hi hz0 hz1 hz2 rfl (by omega) v l.length (l.map bv) hs hown ad m c (news.map bv) hx (by simp [hm]) ?_ bv_one (by unfold maxLen; omega) (by omega) hB ?_
  · intro j u hu
    simp at hu
    obtain ⟨y, hy, rfl⟩ := hu
    obtain ⟨hj, rfl⟩ := List.getElem?_eq_some_iff.1 hy
    exact hnews j hj
  · intro v' w' h1 h2 h3 h4
    refine h v' w' ?_ (below_grown hown h2 hB) h2 h4
    unfold BsO
    rw [List.length_append, hm, List.map_append]
    exact h1
theorem new_one {w : World} {x : Value} {b : UInt8} (h : x = bv b) : ∀ j (hj : j < [b].length), (w.alloc (.cells #[x] 5)).cell? ((⟨w.heap.size, 0, none⟩ : Addr).add j) = some (.int .u8 ([b][j].toNat : Int)) := by
  intro j hj
  have : j = 0 := by simp at hj; omega
  subst this
  rw [add_none]
  refine (cell_of_blk (heap_new w _) 0).trans ?_
  rw [h]; rfl
theorem byteCells_bv (s : ByteArray) : byteCells s = s.data.toList.map bv := rfl
/-- 'append(b, s...)' of a string, b the call's own -/
theorem run_appS (w : World) (ty : TypeId) (B : Nat) (v : Value) (l : List UInt8) (hown : BsO w B v l) (hne : l ≠ []) (s : ByteArray) (hlen : l.length + s.size ≤ 4000000) (hB : B ≤ w.heap.size) :
    ∃ v' w', (Builtin.append_ #[22, 9] ty #[v, .string s]).run Try.prog w = .ok v' w' ∧ BsO w' B v' (l ++ s.data.toList) ∧ w.grownBy w' v.ownBlock ∧ (v'.ownBlock = v.ownBlock ∨ v'.ownBlock = some w.heap.size) := by
  obtain ⟨i0, hi, hz0, hz1, hz2⟩ := info_parts infoU8
  have hs : Src Try.prog i0.size 9 (.string s) s.size (byteCells s) w := by rw [hz1]; exact Src.ofString w Try.underlying9 s
  have hbl : (byteCells s).length = s.size := byteCells_length s
  have hll : (l ++ s.data.toList).length = l.length + s.size := by rw [List.length_append]; rfl
  rcases hown.2 with ⟨_, h0⟩ | ⟨g, cap, cur, rfl, hbg, hg, hnc, hcm, hcs, htake⟩
  · exact absurd (List.eq_nil_of_length_eq_zero h0) hne
  rw [Nat.mul_one] at hcs htake
  by_cases hroom : l.length + s.size ≤ cap
  · have hst := run_storeCells_at Try.prog g l.length 5 (byteCells s) 0 cur w hg (by rw [hbl]; omega) hs.one
    simp only [Nat.add_zero] at hst
    have hr : (Builtin.append_ #[22, 9] ty #[.slice (some ⟨g, 0, none⟩) l.length cap, .string s]).run Try.prog w = .ok (.slice (some ⟨g, 0, none⟩) (l.length + s.size) cap) (w.setRow g (cur.toList.take l.length ++ byteCells s ++ cur.toList.drop (l.length + (byteCells s).length)).toArray) := by
      have hf := hs.cells
      rw [hz1] at hf
      simp [Builtin.append_, run_underlying Try.underlying22, run_underlying Try.underlying9, sizeOf, typeInfo, hi, hz1, hs.len, hroom, hf, Addr.add_lit, hst]
    refine ⟨_, _, hr, ⟨by simp, .inr ⟨g, cap, _, by rw [hll], hbg, setRow_heap w g cur _ 5 _ hg, by omega, hcm, ?_, ?_⟩⟩, ⟨rfl, rfl, rfl, by simp, fun k _ hk => setRow_other w g k _ (fun e => hk (by simp [Value.ownBlock, e]))⟩, Or.inl rfl⟩
    · simp only [List.size_toArray, List.length_append, List.length_take, List.length_drop, Array.length_toList]
      omega
    · rw [htake, List.map_append, byteCells_bv, Nat.mul_one]
      have : (l ++ s.data.toList).length = (List.map bv l ++ List.map bv s.data.toList).length := by simp
      rw [this]
      exact List.take_left
  · have holds : ∀ (j : Nat) (u : Value), (l.map bv)[j]? = some u → w.cell? ((⟨g, 0, none⟩ : Addr).add j) = some u := hown.cells (g := g) rfl
    have hold := run_firstCells_some (P := Try.prog) w.drew i0.size l.length ⟨g, 0, none⟩ l.length cap (l.map bv) (by rw [hz1]; simp) (by simpa using holds)
    have hr := run_append_grow_src (P := Try.prog) w 22 9 ty 5 i0 _ Try.underlying22 hi hz0 (some ⟨g, 0, none⟩) l.length cap (l.map bv) hold (.string s) s.size (byteCells s) hs (by omega) (by omega) (growslice_fits (by omega) (by rw [hz2]; omega))
    have hge := grownCap_ge w (l.length + s.size) cap 5
    have hgm : grownCap w (l.length + s.size) cap 5 ≤ maxLen := grownCap_le_maxLen w (l.length + s.size) cap 5 (by unfold maxLen; omega)
    refine ⟨_, _, hr, ⟨by simp, .inr ⟨w.heap.size, _, _, by rw [hll], hB, heap_alloc_new w.drew _, by rw [hll]; exact hge, hgm, ?_, ?_⟩⟩, ⟨rfl, rfl, rfl, by simp, fun k hk _ => heap_alloc_old w.drew _ hk⟩, Or.inr rfl⟩
    · simp only [Array.size_append, List.size_toArray, size_zeroCells, List.length_append, hbl, List.length_map]
      show l.length + s.size + (grownCap w (l.length + s.size) cap 5 - (l.length + s.size)) * 1 = grownCap w (l.length + s.size) cap 5 * 1
      omega
    · simp only [Array.toList_append, List.append_assoc]
      rw [List.map_append, byteCells_bv, ← List.append_assoc, Nat.mul_one]
      have : (l ++ s.data.toList).length = (List.map bv l ++ List.map bv s.data.toList).length := by simp
      rw [this]
      exact List.take_left
/-- at a step -/
theorem step_appS (w : World) {ops : Array Oper} {o : Oper} {a : Act} {K : Act → World → Prop} {Q : Exit → Act → World → Prop} {E : Prop} (hgd : o.guard = none) (s x : Operand)
    (ho : o.op = .call { callee := .builtin .append, args := #[s, x], argTypes := #[22, 9] }) (B : Nat) (v : Value) (l : List UInt8) (hs : a.eval s = v) (hown : BsO w B v l) (hne : l ≠ [])
    (t : ByteArray) (hx : a.eval x = .string t) (hlen : l.length + t.size ≤ 4000000) (hB : B ≤ w.heap.size)
    (h : ∀ v' w', BsO w' B v' (l ++ t.data.toList) → Below B w w' → w.grownBy w' v.ownBlock → (v'.ownBlock = v.ownBlock ∨ v'.ownBlock = some w.heap.size) → K (a.put o.dst v') w') :
    if Region.wanted o (yielded ops a.tmps) = true then Oper.wp Try.prog o a w K Q else E := by
  have hw : Region.wanted o (yielded ops a.tmps) = true := by simp [Region.wanted, hgd]
  rw [if_pos hw]
  obtain ⟨v', w', hr, h2, h3, h4⟩ := run_appS w o.type B v l hown hne t hlen hB
  unfold Oper.wp execOp
  simp only [ho, resolve, invoke, builtin, Sem.run_bind, Sem.run_pure, Result.andThen_ok, List.map_toArray, List.map_cons, List.map_nil, hs, hx, hr]
  exact h v' w' h2 (below_grown hown h3 hB) h3 h4
theorem step_appB (w : World) {ops : Array Oper} {o : Oper} {a : Act} {K : Act → World → Prop} {Q : Exit → Act → World → Prop} {E : Prop} (hgd : o.guard = none) (s x : Operand)
    (ho : o.op = .call { callee := .builtin .append, args := #[s, x], argTypes := #[22, 22] }) (B : Nat) (v : Value) (l : List UInt8) (hs : a.eval s = v) (hown : BsO w B v l)
    (ad : Addr) (m c : Nat) (news : List UInt8) (hx : a.eval x = .slice (some ad) m c) (hm : news.length = m) (hnews : ∀ j (hj : j < news.length), w.cell? (ad.add j) = some (.int .u8 (news[j].toNat : Int)))
    (hlen : l.length + news.length ≤ 4000000) (hB : B ≤ w.heap.size)
    (h : ∀ v' w', BsO w' B v' (l ++ news) → Below B w w' → w.grownBy w' v.ownBlock → (v'.ownBlock = v.ownBlock ∨ v'.ownBlock = some w.heap.size) → K (a.put o.dst v') w') :
    if Region.wanted o (yielded ops a.tmps) = true then Oper.wp Try.prog o a w K Q else E := by
  have hw : Region.wanted o (yielded ops a.tmps) = true := by simp [Region.wanted, hgd]
  rw [if_pos hw]
  obtain ⟨i0, hi, hz0, hz1, hz2⟩ := info_parts infoU8
  obtain ⟨v', w', hr, h2, h3, _, h5⟩ := run_append_own_at (P := Try.prog) w B 22 o.type 5 i0 _ 1 1 Try.underlying22 hi hz0 hz1 hz2 rfl (by omega) v l.length (l.map bv) hown ad m c (news.map bv) (by simp [hm])
    (by
      intro j u hu
      simp at hu
      obtain ⟨y, hy, rfl⟩ := hu
      obtain ⟨hj, rfl⟩ := List.getElem?_eq_some_iff.1 hy
      exact hnews j hj) bv_one (by unfold maxLen; omega) (by omega) hB
  unfold Oper.wp execOp
  simp only [ho, resolve, invoke, builtin, Sem.run_bind, Sem.run_pure, Result.andThen_ok, List.map_toArray, List.map_cons, List.map_nil, hs, hx, hr]
  refine h v' w' ?_ (below_grown hown h3 hB) h3 h5
  unfold BsO
  rw [List.length_append, hm, List.map_append]
  exact h2
theorem BsAt.drop {w : World} {b off : Nat} {l : List UInt8} (h : BsAt w b off l) (k : Nat) : BsAt w b (off + k) (l.drop k) :=
  ⟨fun i x hx => by rw [List.getElem?_drop] at hx; have := h.cells _ x hx; rw [← Nat.add_assoc] at this; exact this, h.lt⟩
theorem BsAt.below {w w' : World} {b off : Nat} {l : List UInt8} (h : BsAt w b off l) (hb : Below w.heap.size w w') : BsAt w' b off l := h.of_block (hb.block b h.lt)
/-- 'string(b)' of bytes that the call owns -/
theorem wpList_toStrO (w : World) {ops : Array Oper} {rest : List Oper} {o : Oper} {a : Act} {Q : Exit → Act → World → Prop} (hg : o.guard = none) (x : Operand) (hop : o.op = Op.convert 22 9 x) (B : Nat) (v : Value) (l : List UInt8) (hx : a.eval x = v) (hO : BsO w B v l)
    (hK : wpList Try.prog ops Q rest (a.put o.dst (.string ⟨l.toArray⟩)) w) :
    wpList Try.prog ops Q (o :: rest) a w := by
  rcases hO.2 with ⟨rfl, hl⟩ | ⟨g, cap, cur, rfl, h2, h3, h4, h5, h6, h7⟩
  · have : l = [] := List.eq_nil_of_length_eq_zero hl
    subst this
    refine wpList_plain hg fun K' hK' => ?_
    have hrun : (convert 22 9 (.slice none 0 0)).run Try.prog w = .ok (.string ⟨#[]⟩) w := by kernel_rfl
    unfold Oper.wp
    simp [execOp, hop, hx, hrun, Result.andThen]
    exact hK' _ _ hK
  · refine wpList_toStr w hg x hop ⟨g, 0, none⟩ l.length cap l hx rfl (fun j hj => ?_) hK
    exact hO.cells (g := g) rfl j (bv l[j]) (by simp [hj])
theorem BsO.nil (w : World) (B : Nat) : BsO w B (.slice none 0 0) [] := ⟨rfl, .inl ⟨rfl, rfl⟩⟩
theorem BsO.shape {w : World} {B : Nat} {v : Value} {l : List UInt8} (h : BsO w B v l) : ∃ a cap, v = .slice a l.length cap := by
  rcases h.2 with ⟨rfl, hl⟩ | ⟨g, cap, cur, rfl, _⟩
  · exact ⟨none, 0, by rw [hl]⟩
  · exact ⟨_, _, rfl⟩
theorem u8_ne {a b : UInt8} (h : a ≠ b) : ((a.toNat : Int) == (b.toNat : Int)) = false := by
  have : a.toNat ≠ b.toNat := fun e => h (UInt8.toNat_inj.1 e)
  simp only [beq_eq_false_iff_ne]
  omega
theorem below_al {w w' : World} (h : Below w.heap.size w w') (X : Obj) : Below w.heap.size w (w'.alloc X) := h.alloc h.size X
end Go.Proofs.Ytcghgnncmnoalaa
