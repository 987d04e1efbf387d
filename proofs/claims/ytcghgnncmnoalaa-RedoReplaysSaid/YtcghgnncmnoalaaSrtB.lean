/- Recover's first closure; slices.IndexFunc by it; clear. Conditions: each contract's own premises. slices.DeleteFunc of records by their epoch. Conditions: each contract's own premises. slices.CompactFunc of records by their stamps. Conditions: each contract's own premises. redo.Recover: what its loop leans on. Conditions: each contract's own premises. -/
import Derived.Test.YtcghgnncmnoalaaSrt7
import Derived.Lib.SliceRun
import Derived.Test.YtcghgnncmnoalaaSrtP
import Derived.Test.YtcghgnncmnoalaaBkA
namespace Go.Proofs.Ytcghgnncmnoalaa
open Go.RowKit Go.Maps

/-- is a record of a later epoch? -/
def delB (last : Int) (x : Rv) : Bool := decide (last < ((x.stamp / 2147483648 : Nat) : Int))
set_option maxRecDepth 100000 in
theorem recover1_any (st : Nat) (a : Option Addr) (n cap Bl : Nat) (last : Int) (w : World) (hB : Bl < w.heap.size) (hc : w.cell? ⟨Bl, 0, none⟩ = some (.int .i64 last)) (hs : st < 18446744073709551616) (q : Bool) (hq : decide (last < ((st / 2147483648 : Nat) : Int)) = q) :
    Calls Try.prog 78 #[.agg #[.int .u64 st, .slice a n cap], .pointer (some ⟨Bl, 0, none⟩)] w (BoolPost w q) := by
  obtain ⟨W, hW⟩ : ∃ W, W = w.alloc (.cells #[.int .u64 st, .slice a n cap] 35) := ⟨_, rfl⟩
  have hBW : Below w.heap.size w W := by rw [hW]; exact below_box w _
  have eW : W.heap[w.heap.size]? = some (.cells #[.int .u64 st, .slice a n cap] 35) := by rw [hW]; exact heap_new w _
  have hlt : w.heap.size < W.heap.size := (Array.getElem?_eq_some_iff.1 eW).1
  have k0 : W.cell? ⟨w.heap.size, 0, none⟩ = some (.int .u64 st) := cell_of_blk eW 0
  have k1 : W.cell? ⟨Bl, 0, none⟩ = some (.int .i64 last) := (hBW.cell (p := ⟨Bl, 0, none⟩) hB).trans hc
  obtain ⟨d, hd⟩ : ∃ d : Nat, d = st / 2147483648 := ⟨_, rfl⟩
  rw [← hd] at hq
  have HD := Lib.hid hd
  have HBW := Lib.hid hBW
  have HW := Lib.hid hW
  have ks : ∀ w', Below W.heap.size W w' → Below W.heap.size W w' ∧ w'.cell? ⟨w.heap.size, 0, none⟩ = some (.int .u64 st) ∧ w'.cell? ⟨Bl, 0, none⟩ = some (.int .i64 last) := fun w' hb => ⟨hb, below_cell hb 0 hlt k0, below_cell hb 0 (Nat.lt_of_lt_of_le hB hBW.size) k1⟩
  have KS := Lib.hid ks
  clear hW hBW eW k0 k1 ks hd hc
  go_enter Try.func78, Try.ntmps78
  go_upto_region 1 with fail
  rw [← HW.out]
  go_region_held3 (fun w' => Below W.heap.size W w' ∧ w'.cell? ⟨w.heap.size, 0, none⟩ = some (.int .u64 st) ∧ w'.cell? ⟨Bl, 0, none⟩ = some (.int .i64 last))
    (first | exact KS.out _ (Below.refl _ _).drew | assumption)
    ((go_at_call 79; (with_reducible refine (epochOf_any st _ hs).mono ?_); rintro e wc ⟨rfl, rfl⟩; rw [← HD.out]))
  go_split_ands
  have HF := Lib.hid (show Below W.heap.size W _ by assumption)
  go_wp2_with fail
  go_ret
  exact ⟨rfl, below_then HBW.out HF.out⟩
/-- the first one's place -/
def idxP (p : Rv → Bool) : List Rv → Int → Int
  | [], _ => -1
  | r :: l, i => if p r = true then i else idxP p l (i + 1)
theorem idxP_drop {p : Rv → Bool} {l : List Rv} {k : Nat} {x : Rv} (hx : l[k]? = some x) : idxP p (l.drop k) k = if p x = true then (k : Int) else idxP p (l.drop (k + 1)) (k + 1) := by
  obtain ⟨hk, rfl⟩ := List.getElem?_eq_some_iff.1 hx
  rw [List.drop_eq_getElem_cons hk]
  rfl
theorem idxP_cases (p : Rv → Bool) : ∀ (l : List Rv) (i : Nat), (idxP p l i = -1 ∧ ∀ x ∈ l, p x = false) ∨ (∃ k : Nat, idxP p l i = ((i + k : Nat) : Int) ∧ k < l.length ∧ (∀ x ∈ l.take k, p x = false) ∧ (l[k]?).any p = true)
  | [], _ => .inl ⟨rfl, fun x hx => by simp at hx⟩
  | r :: l, i => by
    cases h : p r
    · rcases idxP_cases p l (i + 1) with ⟨h1, h2⟩ | ⟨k, h1, h2, h3, h4⟩
      · refine .inl ⟨?_, fun x hx => ?_⟩
        · unfold idxP; rw [if_neg (by rw [h]; decide)]; exact h1
        · rcases List.mem_cons.1 hx with rfl | hx
          · exact h
          · exact h2 x hx
      · refine .inr ⟨k + 1, ?_, by simp; omega, fun x hx => ?_, by simpa using h4⟩
        · unfold idxP; rw [if_neg (by rw [h]; decide)]
          have : ((i : Int) + 1) = ((i + 1 : Nat) : Int) := by omega
          rw [this, h1]; congr 1; omega
        · rw [List.take_succ_cons] at hx
          rcases List.mem_cons.1 hx with rfl | hx
          · exact h
          · exact h3 x hx
    · exact .inr ⟨0, by unfold idxP; rw [if_pos h]; rfl, by simp, fun x hx => by simp at hx, by simpa using h⟩
set_option maxRecDepth 100000 in
set_option maxHeartbeats 2000000 in
theorem idxD_any (a : Option Addr) (cap : Nat) (l : List Rv) (Bl : Nat) (last : Int) (w : World) (h : RsV w a l) (hl : l.length ≤ 1000000) (hB : Bl < w.heap.size) (hc : w.cell? ⟨Bl, 0, none⟩ = some (.int .i64 last)) :
    Calls Try.prog 122 #[.slice a l.length cap, .func (.func 78) #[] #[.pointer (some ⟨Bl, 0, none⟩)]] w (IntPost w (idxP (delB last) l 0)) := by
  have HR := Lib.hid h
  have HC := Lib.hid hc
  clear h hc
  go_enter Try.func122, Try.ntmps122
  go_wp2_with fail
  go_loopw [8] (fun i wr => ∃ k : Nat, k ≤ l.length ∧ i = .int .i64 k ∧ Hid (idxP (delB last) l 0 = idxP (delB last) (l.drop k) k) ∧ Below w.heap.size w wr) (fun i _ => l.length - (intOf i).toNat)
  case atStart => exact ⟨0, by omega, rfl, Lib.hid rfl, Below.refl _ _⟩
  case round =>
    obtain ⟨k, hk, rfl, HI, hbr⟩ := hrel
    by_cases hlt : k < l.length
    · obtain ⟨x, hx⟩ : ∃ x, l[k]? = some x := ⟨_, List.getElem?_eq_getElem hlt⟩
      obtain ⟨b, off, rfl, hat⟩ := HR.out (fun e => by rw [e] at hlt; simp at hlt)
      obtain ⟨hok, c0, c1⟩ := (hat.below hbr).cells k x hx
      obtain ⟨st, ra, rc, ws⟩ := x
      simp only [] at c0 c1
      have HW := Lib.hid hok
      have hD := Lib.hid (idxP_drop (p := delB last) hx)
      obtain ⟨q, hq⟩ : ∃ q, delB last ⟨st, ra, rc, ws⟩ = q := ⟨_, rfl⟩
      have HQ := Lib.hid hq
      have HBR := Lib.hid hbr
      clear hx hat hok hq
      go_wp2_with fail
      refine (recover1_any st ra ws.length rc Bl last _ (Nat.lt_of_lt_of_le hB HBR.out.size) ((HBR.out.cell (p := ⟨Bl, 0, none⟩) hB).trans HC.out) HW.out.stamp q HQ.out).mono ?_
      rintro e w1 ⟨rfl, b1⟩
      have HB1 := Lib.hid (below_then hbr b1)
      clear b1 c0 c1
      cases q
      · have HN : Hid (idxP (delB last) l 0 = idxP (delB last) (l.drop (k + 1)) ((k + 1 : Nat) : Int)) := Lib.hid (by rw [HI.out, hD.out, HQ.out, if_neg (by decide)]; rfl)
        go_wp2_with fail
        exact ⟨⟨k + 1, by omega, by go_num, HN, HB1.out⟩, by simp [intOf]; omega⟩
      · have HN : Hid (idxP (delB last) l 0 = k) := Lib.hid (by rw [HI.out, hD.out, HQ.out, if_pos rfl])
        go_wp2_with fail
        go_ret
        exact ⟨by rw [HN.out]; rfl, HB1.out⟩
    · obtain rfl : k = l.length := by omega
      have HN : Hid (idxP (delB last) l 0 = -1) := Lib.hid (by rw [HI.out, List.drop_length]; rfl)
      go_wp2_with fail
      go_ret
      exact ⟨by rw [HN.out]; rfl, hbr⟩
/-! clear -/
theorem setCells_blk (b : Nat) : ∀ (vs : List Value) (o : Nat) (w : World) (cs : Array Value) (t : TypeId), w.heap[b]? = some (.cells cs t (0, 0)) → ∃ cs', (w.setCells b o vs).heap[b]? = some (.cells cs' t (0, 0)) ∧ (∀ j, j < o → cs'[j]? = cs[j]?) ∧ cs'.size = cs.size ∧ Chg w (w.setCells b o vs) (fun k => k = b)
  | [], o, w, cs, t, h => ⟨cs, h, fun _ _ => rfl, rfl, Chg.refl _ _⟩
  | v :: vs, o, w, cs, t, h => by
    obtain ⟨cs', h1, h2, h3, h4⟩ := setCells_blk b vs (o + 1) (w.setCell ⟨b, o, none⟩ v) _ t (blk_setCell h v)
    refine ⟨cs', h1, fun j hj => ?_, by rw [h3, Array.size_setIfInBounds], ((Chg.refl w (fun k => k = b)).setCell (p := ⟨b, o, none⟩) (fun _ => rfl) v).trans h4 (fun _ _ h => h)⟩
    rw [h2 j (by omega), Array.getElem?_setIfInBounds, if_neg (by omega)]
theorem run_clearR (w : World) (b n k c : Nat) (L : List Rv) (t : Nat → Nat) (h : SAt w b 0 n L t) (hk : k < n) :
    ∃ w', (∀ ty, (Builtin.clear_ #[24] ty #[.slice (some ⟨b, k * 2, none⟩) (n - k) c]).run Try.prog w = .ok (.tuple #[]) w') ∧ SAt w' b 0 k L t ∧ Chg w w' (fun j => j = b) := by
  obtain ⟨cs, h1, h2⟩ := h
  have hsz : n * 2 ≤ cs.size := by
    have := (Array.getElem?_eq_some_iff.1 (h2 (n - 1) (by omega)).2).1; omega
  have hzl : (Builtin.zeroCells (Value.agg #[.int .u64 0, .slice none 0 0]).cells (n - k)).toList.length = (n - k) * 2 := by simp [Builtin.zeroCells, Value.cells]
  have hst := run_storeCells_cells (P := Try.prog) b (k * 2) (Builtin.zeroCells (Value.agg #[.int .u64 0, .slice none 0 0]).cells (n - k)).toList 0 w
    (fun j hj => by
      rw [hzl] at hj
      rw [cell_of_blk h1]
      simp; omega)
    (fun j hj => frozen_of_blk h1 _)
    (fun v hv => by
      simp only [Builtin.zeroCells, Value.cells, Array.toList_map, List.mem_map] at hv
      obtain ⟨i, _, rfl⟩ := hv
      have : i % 2 = 0 ∨ i % 2 = 1 := by omega
      rcases this with e | e <;> simp [e, Value.oneCell'])
  simp only [Nat.add_zero] at hst
  obtain ⟨cs', q1, q2, q3, q4⟩ := setCells_blk b (Builtin.zeroCells (Value.agg #[.int .u64 0, .slice none 0 0]).cells (n - k)).toList (k * 2) w cs 35 h1
  refine ⟨_, fun ty => ?_, ⟨cs', q1, fun i hi => ?_⟩, q4⟩
  · obtain ⟨m, hm⟩ : ∃ m, n - k = m + 1 := ⟨n - k - 1, by omega⟩
    rw [hm] at hst ⊢
    simp [Builtin.clear_, run_underlying Try.underlying24, hst]
  · rw [q2 _ (by omega), q2 _ (by omega)]; exact h2 i (by omega)
end Go.Proofs.Ytcghgnncmnoalaa
namespace Go.Proofs.Ytcghgnncmnoalaa
open Go.RowKit Go.Maps

/-- what leaves some out, leaves -/
def DelPost (w : World) (B : Nat) (v : Value) (l : List Rv) (e : Ending) (w' : World) : Prop :=
  ∃ v', e = .returned v' ∧ RsN w' B v' l ∧ Chg w w' (fun k => v.ownBlock = some k)
theorem SAt.set {w : World} {b off n : Nat} {L : List Rv} {s : Nat → Nat} (h : SAt w b off n L s) {x y : Nat} (hx : x < n) :
    SAt ((w.setCell ⟨b, off + x * 2, none⟩ (.int .u64 (L[y]!).stamp)).setCell ⟨b, off + x * 2 + 1, none⟩ (.slice (L[y]!).a (L[y]!).ws.length (L[y]!).cap)) b off n L (fun k => if k = x then y else s k) := by
  obtain ⟨cs, h1, h2⟩ := h
  have hz : ∀ i, i < n → off + i * 2 + 1 < cs.size := fun i hi => (Array.getElem?_eq_some_iff.1 (h2 i hi).2).1
  have zx := hz x hx
  refine ⟨_, blk_setCell (blk_setCell h1 _) _, fun i hi => ?_⟩
  have zi := hz i hi
  simp only [Array.getElem?_setIfInBounds, Array.size_setIfInBounds]
  by_cases e1 : i = x
  · subst e1
    simp only [if_true, show ¬ off + i * 2 + 1 = off + i * 2 by omega, show ¬ off + i * 2 = off + i * 2 + 1 by omega, if_false, show off + i * 2 < cs.size by omega, zi]
    exact ⟨trivial, trivial⟩
  · simp only [e1, if_false, show ¬ off + x * 2 + 1 = off + i * 2 by omega, show ¬ off + x * 2 = off + i * 2 by omega, show ¬ off + x * 2 + 1 = off + i * 2 + 1 by omega, show ¬ off + x * 2 = off + i * 2 + 1 by omega]
    exact h2 i hi
/-- between two rounds: what has been kept lies ahead, what comes is as it was -/
def DelI (w wr : World) (g n : Nat) (l : List Rv) (p : Rv → Bool) (i j : Nat) : Prop :=
  ∃ t, SAt wr g 0 n l t ∧ Chg w wr (fun k => k = g) ∧ (∀ q, j ≤ q → q < n → t q = q) ∧ (List.range i).map (fun x => l[t x]!) = (l.take j).filter (fun x => !p x)
set_option maxRecDepth 100000 in
set_option maxHeartbeats 4000000 in
theorem delR_some (g cap : Nat) (l : List Rv) (Bl : Nat) (last : Int) (w : World) (B : Nat) (hg : B ≤ g) (hcap : l.length ≤ cap) (h : SAt w g 0 l.length l (fun i => i)) (hok : ∀ x ∈ l, x.Ok w) (hl : l.length ≤ 1000000) (hB : Bl < w.heap.size) (hgB : Bl ≠ g) (hc : w.cell? ⟨Bl, 0, none⟩ = some (.int .i64 last)) :
    Calls Try.prog 76 #[.slice (some ⟨g, 0, none⟩) l.length cap, .func (.func 78) #[] #[.pointer (some ⟨Bl, 0, none⟩)]] w (DelPost w B (.slice (some ⟨g, 0, none⟩) l.length cap) (l.filter (fun x => !delB last x))) := by
  have HS0 := Lib.hid h
  have HOK := Lib.hid hok
  have HC := Lib.hid hc
  have HV : Hid (RsV w (some ⟨g, 0, none⟩) l) := Lib.hid (by
    obtain ⟨a, cp, e, hv⟩ := (show RsN w g (.slice (some ⟨g, 0, none⟩) l.length cap) l from .inr ⟨g, cap, rfl, Nat.le_refl _, hcap, h⟩).shape
    injection e with e1 e2 e3
    subst e1
    exact hv hok)
  clear h hok hc
  go_enter Try.func76, Try.ntmps76
  go_wp2_with fail
  refine (idxD_any (some ⟨g, 0, none⟩) cap l Bl last _ HV.out hl hB HC.out).mono ?_
  rintro e w1 ⟨rfl, hb1⟩
  have HB1 := Lib.hid hb1
  clear hb1
  rcases idxP_cases (delB last) l 0 with ⟨h1, h2⟩ | ⟨k, h1, h2, h3, h4⟩
  · have HE : Hid (l.filter (fun x => !delB last x) = l) := Lib.hid (List.filter_eq_self.2 (fun x hx => by rw [h2 x hx]; rfl))
    clear h2
    have h1' : idxP (delB last) l 0 = -1 := h1
    rw [h1']
    clear h1 h1'
    go_wp2_with fail
    go_ret
    rw [HE.out]
    exact ⟨_, rfl, .inr ⟨g, cap, rfl, hg, hcap, HS0.out.below HB1.out⟩, Chg.of_below HB1.out _⟩
  · have h1' : idxP (delB last) l 0 = ((0 + k : Nat) : Int) := h1
    rw [Nat.zero_add] at h1'
    rw [h1']
    clear h1 h1'
    have HI : Hid (DelI w w1 g l.length l (delB last) k (k + 1)) := Lib.hid ⟨_, HS0.out.below HB1.out, Chg.of_below HB1.out _, fun q _ _ => rfl, by
      have hx : l[k]? = some l[k] := List.getElem?_eq_getElem h2
      rw [hx] at h4
      rw [List.take_add_one, hx, List.filter_append, List.filter_eq_self.2 (fun x hx => by rw [h3 x hx]; rfl)]
      have : delB last l[k] = true := by simpa using h4
      simp only [Option.toList_some, List.filter_cons, this, Bool.not_true, List.filter_nil]
      refine List.ext_getElem (by simp; omega) fun i q1 q2 => ?_
      have hi : i < l.length := by
        rw [List.length_append, List.length_take] at q2
        simp at q2
        omega
      simp [hi]⟩
    have n1 : ((k : Int) == -1) = false := by simp
    clear h3 h4 HV
    go_wp2_with fail
    go_loopw [5, 6, 7] (fun a b _ wr => ∃ i j : Nat, i < j ∧ j ≤ l.length ∧ a = .int .i64 i ∧ b = .int .i64 j ∧ Hid (DelI w wr g l.length l (delB last) i j)) (fun _ b _ _ => l.length - (intOf b).toNat)
    case atStart => exact ⟨k, k + 1, by omega, by omega, rfl, by go_num, HI⟩
    case round =>
      obtain ⟨i, j, hij, hj, rfl, rfl, HR⟩ := hrel
      clear HI
      obtain ⟨t, hT⟩ := HR.out
      have HT := Lib.hid hT
      clear hT HR
      by_cases hlt : j < l.length
      · obtain ⟨x, hx⟩ : ∃ x, x = l[j]! := ⟨_, rfl⟩
        have c0 := HT.out.1.cell0 hlt
        have c1 := HT.out.1.cell1 hlt
        rw [HT.out.2.2.1 j (Nat.le_refl _) hlt, ← hx] at c0 c1
        simp only [Nat.zero_add] at c0 c1
        have HX := Lib.hid hx
        clear hx
        obtain ⟨W, hW⟩ : ∃ W, W = wr.alloc (.cells #[.int .u64 x.stamp, .slice x.a x.ws.length x.cap] 35) := ⟨_, rfl⟩
        have hBW : Below wr.heap.size wr W := by rw [hW]; exact below_box wr _
        have eW : W.heap[wr.heap.size]? = some (.cells #[.int .u64 x.stamp, .slice x.a x.ws.length x.cap] 35) := by rw [hW]; exact heap_new wr _
        have hlW : wr.heap.size < W.heap.size := (Array.getElem?_eq_some_iff.1 eW).1
        have k0 : W.cell? ⟨wr.heap.size, 0, none⟩ = some (.int .u64 x.stamp) := cell_of_blk eW 0
        have k1 : W.cell? ⟨wr.heap.size, 1, none⟩ = some (.slice x.a x.ws.length x.cap) := cell_of_blk eW 1
        obtain ⟨bx, hbx⟩ : ∃ bx, bx = wr.heap.size := ⟨_, rfl⟩
        have HW := Lib.hid hW
        have HBW := Lib.hid hBW
        have HBX := Lib.hid hbx
        have HEW := Lib.hid eW
        clear hW hBW eW hbx
        obtain ⟨q, hq⟩ : ∃ q, delB last x = q := ⟨_, rfl⟩
        have HQ := Lib.hid hq
        have HQD : Hid (decide (last < ((x.stamp / 2147483648 : Nat) : Int)) = q) := Lib.hid hq
        have hBl : W.cell? ⟨Bl, 0, none⟩ = some (.int .i64 last) := by
          have e1 : wr.cell? ⟨Bl, 0, none⟩ = some (.int .i64 last) := by
            rw [World.cell?_of_block (a := ⟨Bl, 0, none⟩) (HT.out.2.1.block Bl hB hgB)]; exact HC.out
          exact (HBW.out.cell (p := ⟨Bl, 0, none⟩) (Nat.lt_of_lt_of_le hB HT.out.2.1.size)).trans e1
        have HBL := Lib.hid hBl
        have hxs : x.stamp < 18446744073709551616 := by rw [HX.out, getElem!_pos l j hlt]; exact (HOK.out _ (List.getElem_mem hlt)).stamp
        have HXS := Lib.hid hxs
        clear hq hBl hxs
        go_upto_region 8 with fail
        rw [← HW.out, ← HBX.out]
        rw [← HBX.out] at k0 k1 hlW
        go_wp2_with fail
        (with_reducible refine (recover1_any x.stamp x.a x.ws.length x.cap Bl last _ (Nat.lt_of_lt_of_le hB (Nat.le_trans HT.out.2.1.size HBW.out.size)) HBL.out HXS.out q HQD.out).mono ?_)
        rintro e w2 ⟨rfl, hb2⟩
        have m0 := below_cell hb2 0 hlW k0
        have m1 := below_cell hb2 1 hlW k1
        have hS2 : SAt w2 g 0 l.length l t := (HT.out.1.below HBW.out).below hb2
        have hC2 : Chg w w2 (fun k => k = g) := (HT.out.2.1.trans (Chg.of_below HBW.out (fun k => k = g)) (fun _ _ h => h)).trans (Chg.of_below hb2 (fun k => k = g)) (fun _ _ h => h)
        have HS2 := Lib.hid (And.intro hS2 hC2)
        clear hS2 hC2 hb2 k0 k1 c0 c1
        cases q
        · have hin : i < l.length := by omega
          obtain ⟨y, hy⟩ : ∃ y, y = l[t i]! := ⟨_, rfl⟩
          have c0 := HS2.out.1.cell0 hin
          have c1 := HS2.out.1.cell1 hin
          have f0 := HS2.out.1.frozen (0 + i * 2)
          have f1 := HS2.out.1.frozen (0 + i * 2 + 1)
          rw [← hy] at c0 c1
          simp only [Nat.zero_add] at c0 c1 f0 f1
          have hinz : (i : Int) < (l.length : Int) := by omega
          clear hy
          go_wp2_with fail
          refine ⟨⟨i + 1, j + 1, by omega, by omega, by go_num, by go_num, Lib.hid ⟨fun k => if k = i then j else t k, ?_, ?_, fun q q1 q2 => ?_, ?_⟩⟩, by simp [intOf]; omega⟩
          · have := HS2.out.1.set (x := i) (y := j) hin
            rw [← HX.out] at this
            simp only [Nat.zero_add] at this
            exact this
          · exact ((HS2.out.2.setCell (p := ⟨g, i * 2, none⟩) (fun _ => rfl) _).setCell (p := ⟨g, i * 2 + 1, none⟩) (fun _ => rfl) _)
          · show (if q = i then j else t q) = q
            rw [if_neg (by omega)]; exact HT.out.2.2.1 q (by omega) q2
          · have hxj : l[j]? = some x := by rw [HX.out, getElem!_pos l j hlt]; exact List.getElem?_eq_getElem hlt
            rw [List.range_succ, List.map_append, List.take_add_one, hxj, List.filter_append, ← HT.out.2.2.2]
            congr 1
            · refine List.map_congr_left fun z hz => ?_
              have := List.mem_range.1 hz
              show l[if z = i then j else t z]! = _
              rw [if_neg (by omega)]
            · have e : delB last l[j]! = false := by rw [← HX.out]; exact HQ.out
              rw [HX.out]
              simp only [List.map_cons, List.map_nil, if_true, List.filter_cons, e, Bool.not_false, List.filter_nil, Option.toList_some]
        · go_wp2_with fail
          refine ⟨⟨i, j + 1, by omega, by omega, rfl, by go_num, Lib.hid ⟨t, HS2.out.1, HS2.out.2, fun q q1 q2 => HT.out.2.2.1 q (by omega) q2, ?_⟩⟩, by simp [intOf]; omega⟩
          have hxj : l[j]? = some x := by rw [HX.out, getElem!_pos l j hlt]; exact List.getElem?_eq_getElem hlt
          rw [List.take_add_one, hxj, List.filter_append, ← HT.out.2.2.2]
          simp [HQ.out]
      · obtain rfl : j = l.length := by omega
        have hF : l.filter (fun x => !delB last x) = (List.range i).map (fun x => l[t x]!) := by
          rw [HT.out.2.2.2, List.take_length]
        obtain ⟨w9, hcl, q1, q2⟩ := run_clearR wr g l.length i (cap - i) l t HT.out.1 hij
        have HF : Hid (RsN w9 B (.slice (some ⟨g, 0, none⟩) i cap) (l.filter (fun x => !delB last x)) ∧ Chg w w9 (fun k => k = g)) := Lib.hid ⟨by
          have hlen : (l.filter (fun x => !delB last x)).length = i := by rw [hF]; simp
          refine .inr ⟨g, cap, by rw [hlen], hg, by omega, ?_⟩
          rw [hlen]
          exact sat_list q1 hF, HT.out.2.1.trans q2 (fun _ _ h => h)⟩
        have hci : ¬ cap = i := by omega
        have hci' : ¬ i = cap := by omega
        have hiz : (i : Int) ≤ (l.length : Int) := by omega
        have hizc : (i : Int) ≤ (cap : Int) := by omega
        clear hF q1 q2
        go_wp2_with fail
        go_ret
        exact ⟨_, rfl, HF.out.1, HF.out.2.mono (fun k _ e => by rw [e]; rfl)⟩
end Go.Proofs.Ytcghgnncmnoalaa
namespace Go.Proofs.Ytcghgnncmnoalaa
open Go.RowKit Go.Maps

theorem delR_any (v : Value) (l : List Rv) (Bl : Nat) (last : Int) (w : World) (B : Nat) (h : RsN w B v l) (hok : ∀ x ∈ l, x.Ok w) (hl : l.length ≤ 1000000) (hB : Bl < w.heap.size) (hgB : v.ownBlock ≠ some Bl) (hc : w.cell? ⟨Bl, 0, none⟩ = some (.int .i64 last)) :
    Calls Try.prog 76 #[v, .func (.func 78) #[] #[.pointer (some ⟨Bl, 0, none⟩)]] w (DelPost w B v (l.filter (fun x => !delB last x))) := by
  rcases h with ⟨h1, h2⟩ | ⟨g, cap, h1, h2, h3, h4⟩
  · subst h1 h2
    have HC := Lib.hid hc
    clear hok hc
    go_enter Try.func76, Try.ntmps76
    go_wp2_with fail
    refine (idxD_any none 0 [] Bl last _ (fun hn => absurd rfl hn) (by simp) hB HC.out).mono ?_
    rintro e w1 ⟨rfl, hb1⟩
    have HB1 := Lib.hid hb1
    clear hb1
    have h1' : idxP (delB last) [] 0 = -1 := rfl
    rw [h1']
    clear h1'
    go_wp2_with fail
    go_ret
    exact ⟨_, rfl, .inl ⟨rfl, rfl⟩, Chg.of_below HB1.out _⟩
  · subst h1
    exact delR_some g cap l Bl last w B h2 h3 h4 hok hl hB (fun e => hgB (by rw [e]; rfl)) hc
theorem recR2_at (x y : Rv) (w : World) (q : Bool) (hq : (x.stamp == y.stamp) = q) : Calls Try.prog 81 #[.agg #[.int .u64 x.stamp, .slice x.a x.ws.length x.cap], .agg #[.int .u64 y.stamp, .slice y.a y.ws.length y.cap]] w (BoolPost w q) := by
  subst hq; exact recover2_any x y w
def seq (x y : Rv) : Bool := Srt.keq Rv.stamp x y
theorem compG_snoc (e : Rv → Rv → Bool) : ∀ (l : List Rv) (p x : Rv), Srt.compG e p (l ++ [x]) = Srt.compG e p l ++ (if e x ((p :: l).getLast (by simp)) = true then [] else [x])
  | [], p, x => by
    show (if e x p = true then [] else [x]) = [] ++ _
    rw [List.nil_append]; rfl
  | y :: l, p, x => by
    have ih := compG_snoc e l y x
    show (if e y p = true then Srt.compG e y (l ++ [x]) else y :: Srt.compG e y (l ++ [x])) = (if e y p = true then Srt.compG e y l else y :: Srt.compG e y l) ++ _
    have e2 : (p :: y :: l).getLast (by simp) = (y :: l).getLast (by simp) := List.getLast_cons (by simp)
    rw [ih, e2]
    split <;> rfl
theorem comp_step (l : List Rv) (j : Nat) (h1 : 0 < j) (h2 : j < l.length) : Srt.compL seq (l.take (j + 1)) = Srt.compL seq (l.take j) ++ (if seq l[j]! l[j - 1]! = true then [] else [l[j]!]) := by
  have e1 : l.take (j + 1) = l.take j ++ [l[j]!] := by
    rw [List.take_add_one, List.getElem?_eq_getElem h2, getElem!_pos l j h2]; rfl
  obtain ⟨z, m, hm⟩ : ∃ z m, l.take j = z :: m := by
    cases hh : l.take j with
    | nil => have := congrArg List.length hh; rw [List.length_take, List.length_nil] at this; omega
    | cons z m => exact ⟨z, m, rfl⟩
  have e2 : l[j - 1]! = (z :: m).getLast (by simp) := by
    have : (l.take j).getLast? = some l[j - 1]! := by
      rw [List.getLast?_eq_getElem?, List.length_take, show min j l.length - 1 = j - 1 by omega, List.getElem?_take, if_pos (by omega), List.getElem?_eq_getElem (by omega), getElem!_pos l (j - 1) (by omega)]
    rw [hm, List.getLast?_eq_some_getLast (by simp)] at this
    injection this with this
    exact this.symm
  rw [e1, hm, e2]
  show z :: Srt.compG seq z (m ++ [l[j]!]) = (z :: Srt.compG seq z m) ++ _
  rw [compG_snoc]; rfl
/-- between two rounds: what has been kept lies ahead, what comes is as it was -/
def ComI (w wr : World) (g n : Nat) (l : List Rv) (i j : Nat) : Prop :=
  ∃ t, SAt wr g 0 n l t ∧ Chg w wr (fun k => k = g) ∧ (∀ q, i ≤ q → q < n → t q = q) ∧ (List.range i).map (fun x => l[t x]!) = Srt.compL seq (l.take j)
set_option maxRecDepth 100000 in
set_option maxHeartbeats 4000000 in
theorem comR_some (g cap : Nat) (l : List Rv) (w : World) (B : Nat) (hg : B ≤ g) (hcap : l.length ≤ cap) (h : SAt w g 0 l.length l (fun i => i)) (hl : l.length ≤ 1000000) :
    Calls Try.prog 80 #[.slice (some ⟨g, 0, none⟩) l.length cap, .func (.func 81) #[] #[]] w (DelPost w B (.slice (some ⟨g, 0, none⟩) l.length cap) (Srt.compL seq l)) := by
  have HS0 := Lib.hid h
  clear h
  by_cases h2 : l.length < 2
  · have HE : Hid (Srt.compL seq l = l) := Lib.hid (by
      match l, h2 with
      | [], _ => rfl
      | [x], _ => rfl
      | x :: y :: m, h => simp at h; omega)
    have t1 : decide ((l.length : Int) < 2) = true := decide_eq_true (by omega)
    go_enter Try.func80, Try.ntmps80
    go_wp2_with fail
    go_ret
    exact ⟨.slice (some ⟨g, 0, none⟩) l.length cap, rfl, .inr ⟨g, cap, by rw [HE.out], hg, by rw [HE.out]; exact hcap, by rw [HE.out]; exact HS0.out⟩, Chg.refl _ _⟩
  · have t1 : decide ((l.length : Int) < 2) = false := decide_eq_false (by omega)
    go_enter Try.func80, Try.ntmps80
    go_wp2_with fail
    clear t1
    go_loopw [5] (fun a wr => ∃ k : Nat, 1 ≤ k ∧ k ≤ l.length ∧ a = .int .i64 k ∧ Hid (Below w.heap.size w wr ∧ Srt.compL seq (l.take k) = l.take k)) (fun a _ => l.length - (intOf a).toNat)
    case atStart => exact ⟨1, by omega, by omega, rfl, Lib.hid ⟨Below.refl _ _, by
      obtain ⟨z, m, hm⟩ : ∃ z m, l = z :: m := by
        cases l with
        | nil => simp at h2
        | cons z m => exact ⟨z, m, rfl⟩
      rw [hm]; rfl⟩⟩
    case round =>
      obtain ⟨k, hk1, hk, rfl, HR⟩ := hrel
      obtain ⟨wo, rfl⟩ : ∃ wo : World, wo = wr := ⟨_, rfl⟩
      by_cases hlt : k < l.length
      · obtain ⟨p, hp⟩ : ∃ p, p + 1 = k := ⟨k - 1, by omega⟩
        have hpn : p < l.length := by omega
        obtain ⟨A, hA⟩ : ∃ A, A = l[k]! := ⟨_, rfl⟩
        obtain ⟨C, hC⟩ : ∃ C, C = l[p]! := ⟨_, rfl⟩
        obtain ⟨q, hq⟩ : ∃ q, (A.stamp == C.stamp) = q := ⟨_, rfl⟩
        have hS : SAt wo g 0 l.length l (fun i => i) := HS0.out.below HR.out.1
        have HS := Lib.hid hS
        have hks : ∀ w', Below wo.heap.size wo w' → Below wo.heap.size wo w' ∧ w'.cell? ⟨g, k * 2, none⟩ = some (.int .u64 A.stamp) ∧ w'.cell? ⟨g, k * 2 + 1, none⟩ = some (.slice A.a A.ws.length A.cap) ∧ w'.cell? ⟨g, p * 2, none⟩ = some (.int .u64 C.stamp) ∧ w'.cell? ⟨g, p * 2 + 1, none⟩ = some (.slice C.a C.ws.length C.cap) := fun w' hb => by
          have h' := HS.out.below hb
          have g1 := h'.cell0 hlt
          have g2 := h'.cell1 hlt
          have g3 := h'.cell0 hpn
          have g4 := h'.cell1 hpn
          simp only [Nat.zero_add] at g1 g2 g3 g4
          rw [hA, hC]
          exact ⟨hb, g1, g2, g3, g4⟩
        have KS := Lib.hid hks
        have HQ := Lib.hid hq
        have hst : Srt.compL seq (l.take (k + 1)) = l.take k ++ (if q = true then [] else [l[k]!]) := by
          rw [comp_step l k (by omega) hlt, HR.out.2]
          congr 2
          rw [show k - 1 = p by omega, ← hA, ← hC, ← hq]; rfl
        have HST := Lib.hid hst
        have w1 : IntKind.i64.wrap ((k : Int) - 1) = (p : Int) := by rw [IntKind.wrap_i64]; omega
        have z1 : (k : Int) < (l.length : Int) := by omega
        have z0 : (p : Int) < (l.length : Int) := by omega
        have HP := Lib.hid hp
        clear hp hA hC hq hS hks hst
        go_wp2_with fail
        go_region_held3 (fun w' => Below wo.heap.size wo w' ∧ w'.cell? ⟨g, k * 2, none⟩ = some (.int .u64 A.stamp) ∧ w'.cell? ⟨g, k * 2 + 1, none⟩ = some (.slice A.a A.ws.length A.cap) ∧ w'.cell? ⟨g, p * 2, none⟩ = some (.int .u64 C.stamp) ∧ w'.cell? ⟨g, p * 2 + 1, none⟩ = some (.slice C.a C.ws.length C.cap))
          (first | exact KS.out _ (Below.refl _ _).drew | (go_split_ands; refine KS.out _ (below_then ?_ hbc); assumption))
          ((go_at_call 81; (with_reducible refine (recR2_at A C _ q HQ.out).mono ?_); rintro e wc ⟨rfl, hbc⟩))
        go_split_ands
        have HBZ := Lib.hid (show Below wo.heap.size wo wc by assumption)
        cases q
        · go_wp2_with fail
          refine ⟨⟨k + 1, by omega, by omega, by go_num, Lib.hid ⟨below_then HR.out.1 HBZ.out, ?_⟩⟩, by simp [intOf]; omega⟩
          rw [HST.out, List.take_add_one, List.getElem?_eq_getElem hlt, getElem!_pos l k hlt]; rfl
        · have HI : Hid (ComI w wc g l.length l k (k + 1)) := Lib.hid ⟨fun i => i, HS.out.below HBZ.out, Chg.of_below (below_then HR.out.1 HBZ.out) _, fun _ _ _ => rfl, by
            rw [HST.out]
            simp only [if_true, List.append_nil]
            refine List.ext_getElem (by simp; omega) fun i q1 q2 => ?_
            have hi : i < l.length := by
              rw [List.length_take] at q2; omega
            simp [hi]⟩
          have hck : ¬ cap = k := by omega
          have hck' : ¬ k = cap := by omega
          have hkc : (k : Int) ≤ (cap : Int) := by omega
          obtain ⟨n2, hn2⟩ : ∃ n2, n2 = l.length - k := ⟨_, rfl⟩
          have HN2 := Lib.hid hn2
          have hn2a : k + n2 = l.length := by omega
          have HNA := Lib.hid hn2a
          have hn21 : 1 ≤ n2 := by omega
          have hn22 : n2 ≤ 1000000 := by omega
          clear hn2 hn2a HR HS KS HST
          go_wp2_with fail
          rw [← HN2.out]
          go_loopw [5, 7] (fun a b wr => ∃ i k2 : Nat, 1 ≤ k2 ∧ k2 ≤ n2 ∧ i + 1 ≤ k + k2 ∧ a = .int .i64 i ∧ b = .int .i64 k2 ∧ Hid (ComI w wr g l.length l i (k + k2))) (fun _ b _ => n2 - (intOf b).toNat)
          case atStart => exact ⟨k, 1, by omega, hn21, by omega, rfl, rfl, HI⟩
          case round =>
            obtain ⟨i, k2, hk2, hkn, hik, rfl, rfl, HR⟩ := hrel
            clear HI
            obtain ⟨t, hT⟩ := HR.out
            have HT := Lib.hid hT
            clear hT HR
            by_cases hlt2 : k2 < n2
            · obtain ⟨p2, hp2⟩ : ∃ p2, p2 + 1 = k2 := ⟨k2 - 1, by omega⟩
              have hmn : k + k2 < l.length := by have := HNA.out; omega
              have hmp : k + p2 < l.length := by have := HNA.out; omega
              have hin : i < l.length := by omega
              obtain ⟨A', hA⟩ : ∃ A, A = l[k + k2]! := ⟨_, rfl⟩
              obtain ⟨C', hC⟩ : ∃ C, C = l[k + p2]! := ⟨_, rfl⟩
              obtain ⟨q, hq⟩ : ∃ q, (A'.stamp == C'.stamp) = q := ⟨_, rfl⟩
              have HK2 := Lib.hid (show (k + k2) * 2 = k * 2 + k2 * 2 by omega)
              have HK3 := Lib.hid (show (k + p2) * 2 = k * 2 + p2 * 2 by omega)
              have hks : ∀ w', Below wr.heap.size wr w' → Below wr.heap.size wr w' ∧ w'.cell? ⟨g, k * 2 + k2 * 2, none⟩ = some (.int .u64 A'.stamp) ∧ w'.cell? ⟨g, k * 2 + k2 * 2 + 1, none⟩ = some (.slice A'.a A'.ws.length A'.cap) ∧ w'.cell? ⟨g, k * 2 + p2 * 2, none⟩ = some (.int .u64 C'.stamp) ∧ w'.cell? ⟨g, k * 2 + p2 * 2 + 1, none⟩ = some (.slice C'.a C'.ws.length C'.cap) := fun w' hb => by
                have h' := HT.out.1.below hb
                have g1 := h'.cell0 hmn
                have g2 := h'.cell1 hmn
                have g3 := h'.cell0 hmp
                have g4 := h'.cell1 hmp
                rw [HT.out.2.2.1 (k + k2) (by omega) hmn, Nat.zero_add, HK2.out] at g1 g2
                rw [HT.out.2.2.1 (k + p2) (by omega) hmp, Nat.zero_add, HK3.out] at g3 g4
                rw [hA, hC]
                exact ⟨hb, g1, g2, g3, g4⟩
              have KS := Lib.hid hks
              have HQ := Lib.hid hq
              have hst : Srt.compL seq (l.take (k + k2 + 1)) = (List.range i).map (fun x => l[t x]!) ++ (if q = true then [] else [l[k + k2]!]) := by
                rw [comp_step l (k + k2) (by omega) hmn, HT.out.2.2.2]
                congr 2
                rw [show k + k2 - 1 = k + p2 by omega, ← hA, ← hC, ← hq]; rfl
              have HST := Lib.hid hst
              have HA := Lib.hid hA
              have w1 : IntKind.i64.wrap ((k2 : Int) - 1) = (p2 : Int) := by rw [IntKind.wrap_i64]; omega
              have z1 : (k2 : Int) < (n2 : Int) := by omega
              have z0 : (p2 : Int) < (n2 : Int) := by omega
              clear hp2 hA hC hq hks hst
              go_wp2_with fail
              go_region_held3 (fun w' => Below wr.heap.size wr w' ∧ w'.cell? ⟨g, k * 2 + k2 * 2, none⟩ = some (.int .u64 A'.stamp) ∧ w'.cell? ⟨g, k * 2 + k2 * 2 + 1, none⟩ = some (.slice A'.a A'.ws.length A'.cap) ∧ w'.cell? ⟨g, k * 2 + p2 * 2, none⟩ = some (.int .u64 C'.stamp) ∧ w'.cell? ⟨g, k * 2 + p2 * 2 + 1, none⟩ = some (.slice C'.a C'.ws.length C'.cap))
                (first | exact KS.out _ (Below.refl _ _).drew | (go_split_ands; refine KS.out _ (below_then ?_ hbc); assumption))
                ((go_at_call 81; (with_reducible refine (recR2_at A' C' _ q HQ.out).mono ?_); rintro e wc ⟨rfl, hbc⟩))
              go_split_ands
              have HBZ2 := Lib.hid (show Below wr.heap.size wr wc by assumption)
              have HS2 : Hid (SAt wc g 0 l.length l t ∧ Chg w wc (fun k => k = g)) := Lib.hid ⟨HT.out.1.below HBZ2.out, HT.out.2.1.trans (Chg.of_below HBZ2.out (fun k => k = g)) (fun _ _ h => h)⟩
              cases q
              · obtain ⟨y, hy⟩ : ∃ y, y = l[t i]! := ⟨_, rfl⟩
                have c0 := HS2.out.1.cell0 hin
                have c1 := HS2.out.1.cell1 hin
                have f0 := HS2.out.1.frozen (0 + i * 2)
                have f1 := HS2.out.1.frozen (0 + i * 2 + 1)
                rw [← hy] at c0 c1
                simp only [Nat.zero_add] at c0 c1 f0 f1
                have hinz : (i : Int) < (l.length : Int) := by omega
                clear hy
                go_wp2_with fail
                refine ⟨⟨i + 1, k2 + 1, by omega, by omega, by omega, by go_num, by go_num, Lib.hid ⟨fun z => if z = i then k + k2 else t z, ?_, ?_, fun q q1 q2 => ?_, ?_⟩⟩, by simp [intOf]; omega⟩
                · have := HS2.out.1.set (x := i) (y := k + k2) hin
                  rw [← HA.out] at this
                  simp only [Nat.zero_add] at this
                  exact this
                · exact ((HS2.out.2.setCell (p := ⟨g, i * 2, none⟩) (fun _ => rfl) _).setCell (p := ⟨g, i * 2 + 1, none⟩) (fun _ => rfl) _)
                · show (if q = i then k + k2 else t q) = q
                  rw [if_neg (by omega)]; exact HT.out.2.2.1 q (by omega) q2
                · rw [show k + (k2 + 1) = k + k2 + 1 by omega, HST.out, List.range_succ, List.map_append]
                  congr 1
                  · refine List.map_congr_left fun z hz => ?_
                    have := List.mem_range.1 hz
                    show l[if z = i then k + k2 else t z]! = _
                    rw [if_neg (by omega)]
                  · simp
              · go_wp2_with fail
                refine ⟨⟨i, k2 + 1, by omega, by omega, by omega, rfl, by go_num, Lib.hid ⟨t, HS2.out.1, HS2.out.2, fun q q1 q2 => HT.out.2.2.1 q (by omega) q2, ?_⟩⟩, by simp [intOf]; omega⟩
                rw [show k + (k2 + 1) = k + k2 + 1 by omega, HST.out]; simp
            · obtain rfl : k2 = n2 := by omega
              have hF : Srt.compL seq l = (List.range i).map (fun x => l[t x]!) := by
                have := HT.out.2.2.2
                rw [HNA.out, List.take_length] at this
                exact this.symm
              have hin : i < l.length := by have := HNA.out; omega
              obtain ⟨w9, hcl, q1, q2⟩ := run_clearR wr g l.length i (cap - i) l t HT.out.1 hin
              have HF : Hid (RsN w9 B (.slice (some ⟨g, 0, none⟩) i cap) (Srt.compL seq l) ∧ Chg w w9 (fun k => k = g)) := Lib.hid ⟨by
                have hlen : (Srt.compL seq l).length = i := by rw [hF]; simp
                refine .inr ⟨g, cap, by rw [hlen], hg, by omega, ?_⟩
                rw [hlen]
                exact sat_list q1 hF, HT.out.2.1.trans q2 (fun _ _ h => h)⟩
              have hci : ¬ cap = i := by omega
              have hci' : ¬ i = cap := by omega
              have hiz : (i : Int) ≤ (l.length : Int) := by omega
              have hizc : (i : Int) ≤ (cap : Int) := by omega
              clear hF q1 q2
              go_wp2_with fail
              go_ret
              exact ⟨_, rfl, HF.out.1, HF.out.2.mono (fun k _ e => by rw [e]; rfl)⟩
      · have HE : Hid (Srt.compL seq l = l) := Lib.hid (by
          have := HR.out.2
          rw [List.take_of_length_le (by omega)] at this
          exact this)
        go_wp2_with fail
        go_ret
        exact ⟨.slice (some ⟨g, 0, none⟩) l.length cap, rfl, .inr ⟨g, cap, by rw [HE.out], hg, by rw [HE.out]; exact hcap, by rw [HE.out]; exact HS0.out.below HR.out.1⟩, Chg.of_below HR.out.1 _⟩
end Go.Proofs.Ytcghgnncmnoalaa
namespace Go.Proofs.Ytcghgnncmnoalaa
open Go.RowKit Go.Maps

theorem comR_any (v : Value) (l : List Rv) (w : World) (B : Nat) (h : RsN w B v l) (hl : l.length ≤ 1000000) :
    Calls Try.prog 80 #[v, .func (.func 81) #[] #[]] w (DelPost w B v (Srt.compL seq l)) := by
  rcases h with ⟨h1, h2⟩ | ⟨g, cap, h1, h2, h3, h4⟩
  · subst h1 h2
    go_enter Try.func80, Try.ntmps80
    go_wp2_with fail
    go_ret
    exact ⟨.slice none 0 0, rfl, .inl ⟨rfl, rfl⟩, Chg.refl _ _⟩
  · subst h1
    exact comR_some g cap l w B h2 h3 h4 hl
/-! append of one, and where it lies then -/
namespace RowK
variable {P : Program} {α : Type} {k : RowK P α} {w w' : World} {B : Nat} {v : Value} {l : List α}
def App2 (k : RowK P α) (w : World) (B : Nat) (v : Value) (l : List α) (v' : Value) (w' : World) : Prop :=
  k.Own w' B v' l ∧ ((v'.ownBlock = v.ownBlock ∧ w.grownBy w' v.ownBlock) ∨ (v'.ownBlock = some w.heap.size ∧ w.grownBy w' none))
theorem grown_drew (w : World) (X : Obj) : w.grownBy (w.drew.alloc X) none := by
  have h := World.grownBy_alloc w.drew X none
  exact ⟨h.os, h.tape, h.output, h.size, h.block⟩
theorem run_app2 (ty : TypeId) (h : k.Own w B v l) (a : Addr) (m : List α) (c : Nat) (hm : k.V w (some a) m) (hne : m ≠ []) (hlen : l.length + m.length ≤ 4000000) (hB : B ≤ w.heap.size) :
    ∃ v' w', (Builtin.append_ #[k.t, k.t] ty #[v, .slice (some a) m.length c]).run P w = .ok v' w' ∧ k.App2 w B v (l ++ m) v' w' := by
  obtain ⟨i0, hi, hz0, hz1, hz2⟩ := info_parts k.info
  obtain ⟨v', w', hr, h1, h2, h3⟩ := run_app ty h (some a) m c hm (fun e => by cases e) hlen hB
  refine ⟨v', w', hr, h1, ?_⟩
  have hml : 0 < m.length := List.length_pos_iff.2 hne
  have hsm := k.small
  have hcell : ∀ (j : Nat) (u : Value), (k.cells m)[j]? = some u → w.cell? (a.add j) = some u := fun j u hu => by
    obtain ⟨i, r, x, e1, _, e3, e4⟩ := k.cells_split m j u hu
    obtain ⟨b, off, e, hat⟩ := hm hne
    injection e with e
    rw [e, add_none, e1, ← Nat.add_assoc]
    exact hat.cells i x e3 r u e4
  have hby : (l.length + m.length) * i0.bytes ≤ 140737488355328 := by rw [hz2]; exact Nat.le_trans (Nat.mul_le_mul hlen hsm) (by decide)
  rcases h.2 with ⟨rfl, hl⟩ | ⟨g, cap, cur, rfl, hbg, hg, hnc, hcm, hcs, htake⟩
  · have hr2 := run_append_nil (P := P) w k.t ty k.e i0 _ k.ht hi hz0 a m.length c (k.cells m) (by rw [hz1]; exact k.cells_len m) hcell hml (by omega) (by rw [hl, Nat.zero_add] at hby; omega)
    rw [hr] at hr2
    injection hr2 with e1 e2
    exact .inr ⟨by rw [e1]; rfl, by rw [e2]; exact grown_drew _ _⟩
  · by_cases hroom : l.length + m.length ≤ cap
    · have hfit : l.length * i0.size + (k.cells m).length ≤ cur.size := by rw [hz1, k.cells_len, hcs, ← Nat.add_mul]; exact Nat.mul_le_mul_right _ hroom
      have hr2 := run_append_room (P := P) w k.t ty k.e i0 k.ht hi g l.length cap cur hg a m.length c (k.cells m) (by rw [hz1]; exact k.cells_len m) hcell (k.cells_one m) hroom hfit
      rw [hr] at hr2
      injection hr2 with e1 e2
      exact .inl ⟨by rw [e1]; rfl, h2⟩
    · have holds : ∀ (j : Nat) (u : Value), (k.cells l)[j]? = some u → w.cell? ((⟨g, 0, none⟩ : Addr).add j) = some u := fun j u hu => World.ownsRow.cells (show w.ownsRow B k.e k.size (.slice (some ⟨g, 0, none⟩) l.length cap) l.length (k.cells l) from h) (g := g) rfl j u hu
      have hr2 := run_append_grow (P := P) w k.t ty k.e i0 _ k.ht hi hz0 ⟨g, 0, none⟩ l.length cap (k.cells l) (by rw [hz1]; exact k.cells_len l) holds a m.length c (k.cells m) (by rw [hz1]; exact k.cells_len m) hcell (by omega) (by omega) (growslice_fits (by omega) hby)
      rw [hr] at hr2
      injection hr2 with e1 e2
      exact .inr ⟨by rw [e1]; rfl, by rw [e2]; exact grown_drew _ _⟩
/-- at the operation -/
theorem wpList_app2 {ops : Array Oper} {rest : List Oper} {o : Oper} {a : Act} {Q : Exit → Act → World → Prop} (hgd : o.guard = none) (s x : Operand)
    (ho : o.op = .call { callee := .builtin .append, args := #[s, x], argTypes := #[k.t, k.t] }) (hs : a.eval s = v) (h : k.Own w B v l)
    (xa : Addr) (n : Nat) (m : List α) (c : Nat) (hx : a.eval x = .slice (some xa) n c) (hn : m.length = n) (hm : k.V w (some xa) m) (hne : m ≠ []) (hlen : l.length + m.length ≤ 4000000) (hB : B ≤ w.heap.size)
    (hK : ∀ v' w', k.App2 w B v (l ++ m) v' w' → wpList P ops Q rest (a.put o.dst v') w') :
    wpList P ops Q (o :: rest) a w := by
  refine wpList_plain hgd fun K' hK' => ?_
  subst hn
  obtain ⟨v', w', hr, h2⟩ := run_app2 o.type h xa m c hm hne hlen hB
  unfold Oper.wp execOp
  simp only [ho, resolve, invoke, builtin, Sem.run_bind, Sem.run_pure, Result.andThen_ok, List.map_toArray, List.map_cons, List.map_nil, hs, hx, hr]
  exact hK' _ _ (hK v' w' h2)
end RowK
/-! b[at:] -/
def sfx (a : Option Addr) (cap i : Nat) : Option Addr := if cap = i then a else a.map (·.add (i * 1))
theorem run_sliceB (a : Option Addr) (cap len i : Nat) (h1 : i ≤ len) (_ : len ≤ cap) (w : World) :
    (Instr.sliceAt 22 (.slice a len cap) (some (.int .i64 i)) none none).run Try.prog w = .ok (.slice (sfx a cap i) (len - i) (cap - i)) w := by
  have hz : (i : Int) ≤ (len : Int) := by omega
  unfold sfx
  simp [Instr.sliceAt, go_sem, Try.underlying22, hz]
end Go.Proofs.Ytcghgnncmnoalaa
