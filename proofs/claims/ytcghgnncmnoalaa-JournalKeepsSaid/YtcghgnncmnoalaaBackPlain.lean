/- RedoBack in plain words. Conditions: each lemma's own premises. -/
import Derived.Test.YtcghgnncmnoalaaCutPlain
import Derived.Test.YtcghgnncmnoalaaAw
namespace Go.Proofs.Ytcghgnncmnoalaa
open Go.RowKit Go.Maps

theorem small_body2 {st : Nat} {ws : List Wr} (h : smallW 20 300 ws = true) : ws.length ≤ 20 ∧ (bodyL st ws).length ≤ 12330 := by
  unfold smallW at h
  simp at h
  obtain ⟨h1, h2⟩ := h
  refine ⟨h1, ?_⟩
  have : ∀ (l : List Wr), (∀ x ∈ l, x.k.s.size ≤ 300 ∧ x.val.size ≤ 300) → (l.flatMap wrB).length ≤ l.length * 616 := by
    intro l
    induction l with
    | nil => intro _; simp
    | cons x l ih =>
      intro hx
      have h3 := hx x (by simp)
      have h4 := ih (fun y hy => hx y (by simp [hy]))
      have h5 : (wrB x).length = 16 + x.k.s.size + x.val.size := by
        unfold wrB
        simp only [List.length_cons, List.length_append, beL_len, Array.length_toList]
        show _ = 16 + x.k.s.data.size + x.val.data.size
        omega
      rw [List.flatMap_cons, List.length_append, List.length_cons, h5]
      omega
  have h3 := this ws h2
  unfold bodyL headB
  simp only [List.length_append, beL_len]
  omega
/-- the log so far -/
structure BkI (zs : List Rv) (items : List It) (i sn : Nat) (last : Int) (en : Nat) (bl : List UInt8) : Prop where
  ok : itOk (-1) items
  st : items.foldl itS ⟨[], [], -1, 0, 0⟩ = ⟨(zs.take i).map Rv.rc, (zs.take sn).map Rv.rc, last, en, bl.length⟩
  bytes : bl = items.flatMap itB
  snl : sn ≤ zs.length
  len : bl.length ≤ i * 12400
  la1 : -1 ≤ last
  la2 : last ≤ 3 * (i : Int) - 1
theorem itOk_snoc : ∀ (items : List It) (last : Int) (s : Lg) (x : It), s.last = last → itOk last items → itOk (items.foldl itS s).last [x] → itOk last (items ++ [x])
  | [], last, s, x, h0, _, h => by rw [← h0]; exact h
  | .rc r :: items, last, s, x, h0, h1, h => ⟨h1.1, h1.2.1, itOk_snoc items last (itS s (.rc r)) x h0 h1.2.2 h⟩
  | .mk n :: items, last, s, x, h0, h1, h => ⟨h1.1, h1.2.1, itOk_snoc items n (itS s (.mk n)) x rfl h1.2.2 h⟩
theorem BkI.start (zs : List Rv) : BkI zs [] 0 0 (-1) 0 [] := ⟨trivial, rfl, rfl, Nat.zero_le _, Nat.le_refl _, by omega, by omega⟩
/-- a record, in its round -/
theorem BkI.put {zs : List Rv} {items : List It} {i sn : Nat} {last : Int} {en : Nat} {bl : List UInt8} (h : BkI zs items i sn last en bl) {x : Rv} (hx : zs[i]? = some x) (hw : x.rc.wrong = false) (hb : (bodyL x.stamp x.ws).length ≤ 12330) :
    itOk (-1) (items ++ [It.rc x.rc]) ∧ (items ++ [It.rc x.rc]).foldl itS ⟨[], [], -1, 0, 0⟩ = ⟨(zs.take (i + 1)).map Rv.rc, (zs.take sn).map Rv.rc, last, en, (bl ++ packL 1 (bodyL x.stamp x.ws)).length⟩ ∧ bl ++ packL 1 (bodyL x.stamp x.ws) = (items ++ [It.rc x.rc]).flatMap itB ∧ (bl ++ packL 1 (bodyL x.stamp x.ws)).length ≤ i * 12400 + 12340 := by
  refine ⟨itOk_snoc items (-1) ⟨[], [], -1, 0, 0⟩ _ rfl h.ok ?_, ?_, ?_, ?_⟩
  · exact ⟨hw, by show (bodyL x.stamp x.ws).length ≤ _; omega, trivial⟩
  · rw [List.foldl_append, h.st, List.take_add_one, hx]
    show itS _ (.rc x.rc) = _
    unfold itS
    simp only [Option.toList_some, List.map_append, List.map_cons, List.map_nil, List.length_append]
    rfl
  · rw [List.flatMap_append, ← h.bytes]; simp [itB]; rfl
  · have := h.len
    rw [List.length_append, pack_len]
    omega
/-- a mark behind it -/
theorem bk_mark {zs : List Rv} {items : List It} {j sn : Nat} {last : Int} {en : Nat} {bl : List UInt8} (h1 : itOk (-1) items) (h2 : items.foldl itS ⟨[], [], -1, 0, 0⟩ = ⟨(zs.take j).map Rv.rc, (zs.take sn).map Rv.rc, last, en, bl.length⟩) (h3 : bl = items.flatMap itB) {m : Nat} (hm : last < (m : Int)) (hm2 : m ≤ 2147483647) :
    itOk (-1) (items ++ [It.mk m]) ∧ (items ++ [It.mk m]).foldl itS ⟨[], [], -1, 0, 0⟩ = ⟨(zs.take j).map Rv.rc, (zs.take j).map Rv.rc, (m : Int), (bl ++ packL 2 (fourL m)).length, (bl ++ packL 2 (fourL m)).length⟩ ∧ bl ++ packL 2 (fourL m) = (items ++ [It.mk m]).flatMap itB ∧ (bl ++ packL 2 (fourL m)).length = bl.length + 14 := by
  refine ⟨itOk_snoc items (-1) ⟨[], [], -1, 0, 0⟩ _ rfl h1 ?_, ?_, ?_, ?_⟩
  · rw [h2]; exact ⟨hm2, hm, trivial⟩
  · rw [List.foldl_append, h2]
    show itS _ (.mk m) = _
    unfold itS
    simp only [List.length_append]
    rfl
  · rw [List.flatMap_append, ← h3]; simp [itB]
  · rw [List.length_append, pack_len]; simp [fourL]
theorem bk_run {items : List It} {bl : List UInt8} (h1 : itOk (-1) items) (h3 : bl = items.flatMap itB) : lgN bl = items.foldl itS ⟨[], [], -1, 0, 0⟩ := by
  have := lgN_items items [] h1 tkE_nil
  rw [List.append_nil, ← h3] at this
  exact this
/-- is a record's stamp found, or its epoch too late? -/
def fndB (last : Int) (st : Nat) (out : List Rv) : Bool := decide (last < ((st / 2147483648 : Nat) : Int)) || out.any (fun y => y.stamp == st)
theorem fndB_snoc (last : Int) (st : Nat) (out : List Rv) (y : Rv) : fndB last st (out ++ [y]) = (fndB last st out || (y.stamp == st)) := by
  unfold fndB; rw [List.any_append]; simp [Bool.or_assoc]
theorem bk_found {s : Lg} {out sure : List Rv} (ho : out.map Rv.rc = lgOut s) (hs : sure.map Rv.rc = s.sure) {x : Rv} (hx : x ∈ sure) : fndB s.last x.stamp out = true := by
  unfold fndB
  by_cases h : s.last < ((x.stamp / 2147483648 : Nat) : Int)
  · rw [decide_eq_true h]; rfl
  · have h1 : x.stamp ∈ (lgOut s).map Rc.stamp := (out_any s x.stamp).2 ⟨x.rc, by rw [← hs]; exact List.mem_map_of_mem hx, rfl, by omega⟩
    rw [← ho, List.map_map] at h1
    obtain ⟨y, hy, e⟩ := List.mem_map.1 h1
    have : out.any (fun y => y.stamp == x.stamp) = true := List.any_eq_true.2 ⟨y, hy, by have e' : y.stamp = x.stamp := e; simp [e']⟩
    rw [this]; simp
theorem bk_out {s : Lg} {out : List Rv} (ho : out.map Rv.rc = lgOut s) {i : Nat} {y : Rv} (hy : out[i]? = some y) : ((y.stamp / 2147483648 : Nat) : Int) ≤ s.last ∧ ∀ (z : Rv) (j : Nat), j < i → out[j]? = some z → z.stamp < y.stamp := by
  have hm : out.map (fun x => x.stamp) = (lgOut s).map Rc.stamp := by rw [← ho, List.map_map]; rfl
  constructor
  · have h1 : y.stamp ∈ (lgOut s).map Rc.stamp := by rw [← hm]; exact List.mem_map_of_mem (List.mem_of_getElem? hy)
    obtain ⟨_, _, _, h⟩ := (out_any s y.stamp).1 h1
    exact h
  · intro z j hj hz
    have hp := out_strict s
    rw [← hm, List.pairwise_map] at hp
    obtain ⟨hi, e1⟩ := List.getElem?_eq_some_iff.1 hy
    obtain ⟨hj2, e2⟩ := List.getElem?_eq_some_iff.1 hz
    have := List.pairwise_iff_getElem.1 hp j i hj2 hi hj
    rw [e1, e2] at this
    exact this
theorem bk_len {s : Lg} {out sure : List Rv} (ho : out.map Rv.rc = lgOut s) (hs : sure.map Rv.rc = s.sure) : out.length ≤ sure.length := by
  have h1 := out_len s
  rw [← ho, ← hs, List.length_map, List.length_map] at h1
  exact h1
end Go.Proofs.Ytcghgnncmnoalaa
